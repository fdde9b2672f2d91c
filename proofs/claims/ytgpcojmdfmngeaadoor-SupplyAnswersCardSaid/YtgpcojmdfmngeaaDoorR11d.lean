/-
  Walks of the reference's Alone and Worst (supply), and of supply.Worst at any masks.
-/
import Derived.Test.YtgpcojmdfmngeaaDoorR11b
import Derived.Test.YtgpcojmdfmngeaaDoorAln
import Derived.Test.YtgpcojmdfmngeaaDoorWst
import Derived.Test.YtgpcojmdfmngeaaDoorRp06
import Derived.Test.YtgpcojmdfmngeaaDoorGe
import Derived.Test.YtgpcojmdfmngeaaDoorPSwy
namespace Go.Proofs.YtgpcojmdfmngeaaDoor
open Go.RowKit
set_option maxHeartbeats 400000
set_option maxRecDepth 100000

theorem lost_set {ns : List Node} {ds : List Dev} {st : List Int} (h : maskC isPos ns ds st = 0) (k : Nat) : lostE ns ds st (st.set k 1) = (lostL (supL ns ds st) (supL ns ds (st.set k 1)), custF ns (lostL (supL ns ds st) (supL ns ds (st.set k 1))), 0) := by
  obtain ⟨hc, hl, hp⟩ := maskC_zero h
  have h2 : maskC isPos ns ds (st.set k 1) = 0 := mask_ok hc (by rw [List.length_set]; exact hl) (fun x hx => by
    rcases List.mem_or_eq_of_mem_set hx with h1 | h1
    · have := List.all_eq_true.1 hp x h1
      simp [isPos] at this
      omega
    · exact .inl h1)
  unfold lostE
  rw [if_neg (by simpa using h), if_neg (by simpa using h2)]
theorem lostL_any (a b : List Int) : a.any (fun v => !b.contains v) = decide ((lostL a b).length ≠ 0) := by
  unfold lostL
  rw [Bool.eq_iff_iff, List.any_eq_true, decide_eq_true_iff]
  constructor
  · rintro ⟨x, hx, hb⟩ h0
    have := List.length_eq_zero_iff.1 h0
    have hm : x ∈ a.filter (fun v => !b.contains v) := List.mem_filter.2 ⟨hx, hb⟩
    rw [this] at hm
    cases hm
  · intro h
    obtain ⟨x, hx⟩ := List.exists_mem_of_ne_nil (a.filter (fun v => !b.contains v)) (fun e => h (by rw [e]; rfl))
    exact ⟨x, (List.mem_filter.1 hx).1, (List.mem_filter.1 hx).2⟩

set_option maxHeartbeats 4000000 in
theorem refAlone_any (w : World) (S : Nat → Prop) (A1 A2 : Option Addr) (c1 c2 : Nat) (ns : List Node) (ds : List Dev) (hn : NetIn w S A1 A2 ns ds) (hl1 : ns.length ≤ 65536) (hl2 : ds.length ≤ 65536)
    (U : Option Addr) (cu : Nat) (st : List Int) (hs : SI w S U st) (hsl : st.length ≤ 65536) :
    Calls Tryd.prog 100 #[.agg #[.slice A1 ns.length c1, .slice A2 ds.length c2], .slice U st.length cu] w (RetIE w (aloneE ns ds st)) := by
  have hb := (Below.refl w.heap.size w).alloc (Nat.le_refl _) (.cells #[.slice A1 ns.length c1, .slice A2 ds.length c2] 26)
  have HC := Lib.hid (refState_any _ S A1 A2 c1 c2 ns ds (hn.below hb) hl1 hl2 U cu st (hs.keep (Kept.of_below hb)) hsl)
  have HE := Lib.hid (show aloneE ns ds st = if maskC isPos ns ds st ≠ 0 then ([], maskC isPos ns ds st) else (supN (alB ns ds st) st.length, 0) from rfl)
  have HL := Lib.hid (@lost_set ns ds st)
  generalize maskC isPos ns ds st = ce at *
  by_cases h0 : (ce != 0) = true
  · have H0 := Lib.hid (show ¬ ce = 0 by simpa using h0)
    go_enter Tryd.func100, Tryd.ntmps100
    go_wp2_with (fail)
    refine (HC.out).mono ?_
    rintro e w1 ⟨rfl, hb1⟩
    go_wp2_with (fail)
    go_ret2
    rw [HE.out, if_pos H0.out]
    exact ⟨none, 0, rfl, OI.nil _ _, hb.trans (hb1.mono hb.size)⟩
  · have h0' : (ce != 0) = false := by simpa using h0
    have hz : ce = 0 := by simpa using h0
    rw [if_neg (by simpa using hz)] at HE
    have HE := Lib.hid HE.out
    have HLs := Lib.hid (HL.out hz)
    have HP := Lib.hid (show ∀ i, alB ns ds st i = ((PO.at_ st i == 2) && decide ((lostL (supL ns ds st) (supL ns ds (st.set i 1))).length ≠ 0)) from fun i => by rw [← lostL_any]; rfl)
    have Hll := Lib.hid (fun k => show (lostL (supL ns ds st) (supL ns ds (st.set k 1))).length ≤ ns.length from Nat.le_trans (lostL_len _ _) (supL_len ns ds st))
    clear h0 hz HL
    generalize alB ns ds st = P at *
    go_enter Tryd.func100, Tryd.ntmps100
    go_wp2_with (fail)
    refine (HC.out).mono ?_
    rintro e w1 ⟨rfl, hb1⟩
    have hbA := hb.trans (hb1.mono hb.size)
    have Hbox := Lib.hid (box_at hb1)
    have hwz : w.heap.size < w1.heap.size := (Array.getElem?_eq_some_iff.1 Hbox.out).1
    have hn1 := hn.below hbA
    have hs1 := hs.keep (Kept.of_below hbA)
    clear hb1 hb HC hs hn
    go_wp2_with (fail)
    go_loopg [7, 8] st.length (fun g v i wr => ∃ (k : Nat) (A' : Option Addr) (c' : Nat), k + g = st.length ∧ i = .int .i64 k ∧ v = .slice A' (supN P k).length c' ∧ OI wr (fun g => w1.heap.size ≤ g) A' c' (supN P k) ∧ Below w1.heap.size w1 wr)
    case atStart => exact ⟨0, none, 0, by omega, rfl, rfl, OI.nil _ _, Below.refl _ _⟩
    case round =>
      obtain ⟨k, A', c', hk, rfl, rfl, hown, hB⟩ := hrel
      have Hk := Lib.hid hk
      have hyl := supN_len P k
      clear hk
      have hbx := (hB.block _ hwz).trans Hbox.out
      by_cases hlt : k < st.length
      · have hsR := hs1.keep (Kept.of_below hB)
        obtain ⟨bs, os, rfl, _, hbls, hcs⟩ := hsR.at_ hlt
        have hp := HP.out k
        rw [at_get hlt] at hp
        have hps : supN P (k + 1) = supN P k ++ (if P k then [(k : Int)] else []) := rfl
        by_cases hcl : (st[k] != 2) = true
        · have Hs := Lib.hid (show supN P (k + 1) = supN P k by rw [hps, hp]; simp at hcl; simp [hcl])
          generalize st[k] = sk at *
          clear hp hps hbx
          go_wp2_with (fail)
          go_roundg (gk - 1)
          case measure => have := Hk.out; omega
          case rel => exact ⟨k + 1, A', c', by have := Hk.out; omega, by go_num, by rw [Hs.out], by rw [Hs.out]; exact hown, hB⟩
        · have hcl : (st[k] != 2) = false := by simpa using hcl
          rw [show (st[k] == 2) = true by simpa using hcl, Bool.true_and] at hp
          have HLk := Lib.hid (HLs.out k)
          have Hk2 := Hll.out k
          generalize st[k] = sk at *
          generalize lostL (supL ns ds st) (supL ns ds (st.set k 1)) = ll at *
          have Hp := Lib.hid hp
          have Hps := Lib.hid hps
          clear hp hps
          obtain ⟨gko, rfl⟩ : ∃ x : Nat, x = gk := ⟨_, rfl⟩
          obtain ⟨wo, rfl⟩ : ∃ x : World, x = wr := ⟨_, rfl⟩
          go_upto_region 10 with (at_builtin; go_must (refine wpList_pushAll (B := wo.heap.size) (xs := []) (ys := st) (T := S) rfl (.const (.slice none 0 0)) (.tmp 30) rfl rfl rfl rfl rfl (OI.nil _ _) hsR (by simp; omega) (Nat.le_refl _) ?_); intro A3 c3 w3 ho3 hb3 _ _; rw [List.nil_append] at ho3; rw [List.nil_append])
          obtain ⟨g4, o4, rfl, hg4, hg4l, r1, r2⟩ := ho3.at_ hlt
          have oA1 := ho3.set k 1
          have hB3 := hB.trans (hb3.mono hB.size)
          have hown3 := hown.keep (Kept.of_below hb3)
          have hz3 := hb3.size
          obtain ⟨wq, hwq⟩ : ∃ x, x = w3.setCell ⟨g4, o4 + k, none⟩ (.int .i64 1) := ⟨_, rfl⟩
          have hb3q : Below wo.heap.size wo wq := by rw [hwq]; exact hb3.setCell (p := ⟨g4, o4 + k, none⟩) hg4 _
          have hBq := hB.trans (hb3q.mono hB.size)
          have hownq := hown.keep (Kept.of_below hb3q)
          rw [← hwq] at oA1
          have hbxq := (hBq.block _ hwz).trans Hbox.out
          have n0 : wq.cell? ⟨w.heap.size, 0, none⟩ = some (.slice A1 ns.length c1) := by rw [cell_of_row wq _ 0 _ _ _ hbxq]; rfl
          have n1 : wq.cell? ⟨w.heap.size, 1, none⟩ = some (.slice A2 ds.length c2) := by rw [cell_of_row wq _ 1 _ _ _ hbxq]; rfl
          have HL := refLost_any wq (fun _ => True) A1 A2 c1 c2 ns ds ((hn1.below hBq).mono (fun _ _ _ => trivial)) hl1 hl2 (some ⟨bs, os, none⟩) cu st ((hs1.keep (Kept.of_below hBq)).mono (fun _ _ _ => trivial)) hsl (some ⟨g4, o4, none⟩) c3 (st.set k 1) ((OI.si oA1).mono (fun _ _ _ => trivial)) (by rw [List.length_set]; exact hsl)
          rw [HLk.out, List.length_set] at HL
          have HL := Lib.hid HL
          have Hwq := Lib.hid hwq
          clear hwq hown3 hB3 hown hbx hB hsR ho3 hcs HLk
          go_upto_region 11 with (fail)
          rw [← Hwq.out]
          clear Hwq r1 r2
          go_wp2_with (fail)
          refine HL.out.mono ?_
          clear HL n0 n1
          rintro e w6 ⟨A6, c6, rfl, _, hb6⟩
          have hB6 := hBq.trans (hb6.mono hBq.size)
          have hown6 := hownq.keep (Kept.of_below hb6)
          clear hb6 hownq hBq hbxq
          cases ll with
          | nil =>
            have Hs := Lib.hid (show supN P (k + 1) = supN P k by rw [Hps.out, Hp.out]; simp)
            go_wp2_with (fail)
            go_roundg (gko - 1)
            case measure => have := Hk.out; omega
            case rel => exact ⟨k + 1, A', c', by have := Hk.out; omega, by go_num, by rw [Hs.out], by rw [Hs.out]; exact hown6, hB6⟩
          | cons l0 lt =>
            have Hs := Lib.hid (show supN P (k + 1) = supN P k ++ [(k : Int)] by rw [Hps.out, Hp.out]; simp)
            have hgt : decide ((0 : Int) < ((l0 :: lt).length : Int)) = true := decide_eq_true (by simp)
            have oP := OI.keep hown6 (Kept.alloc _ w6 (.cells #[.int .i64 k] 3))
            have hzr := hB6.size
            go_wp2_with (at_builtin; go_must (refine wpList_push (B := w1.heap.size) rfl (.tmp 46) (.tmp 48) rfl (xs := supN P k) (y := (k : Int)) rfl rfl rfl oP (new_cell w6 _ _) (by omega) (by simp; omega) ?_); intro A5 c5 w5 ho5 hb5 _ _)
            go_roundg (gko - 1)
            case measure => have := Hk.out; omega
            case rel => exact ⟨k + 1, A5, c5, by have := Hk.out; omega, by go_num, by rw [Hs.out]; simp, by rw [Hs.out]; exact ho5, (hB6.alloc hB6.size _).trans hb5⟩
      · have hkn : k = st.length := by have := Hk.out; omega
        subst hkn
        go_wp2_with (fail)
        go_ret2
        rw [HE.out]
        exact ⟨A', c', rfl, hown.mono (fun g _ hg => by have hg : w1.heap.size ≤ g := hg; have := hbA.size; show w.heap.size ≤ g; omega), hbA.trans (hB.mono hbA.size)⟩

/-- What Worst gives: a number, an error. -/
def sworstE (ns : List Node) (ds : List Dev) (ms : List Int) : Int × Int := if maskC isMask ns ds ms ≠ 0 then (0, maskC isMask ns ds ms) else if (cnt ms).2 ≠ 0 then (0, (cnt ms).2) else (worstL ns ds (allL ms), 0)
theorem mask3 {ms : List Int} (h : ms.all isMask = true) : ∀ x ∈ ms, 1 ≤ x ∧ x ≤ 3 := fun x hx => by
  have := List.all_eq_true.1 h x hx
  simpa [isMask] using this

set_option maxHeartbeats 2000000 in
theorem SWorst_any (w : World) (h : TabC w) (ht : Tab w) (S : Nat → Prop) (A1 A2 : Option Addr) (c1 c2 : Nat) (ns : List Node) (ds : List Dev) (hn : NetIn w S A1 A2 ns ds) (hl1 : ns.length ≤ 65536) (hl2 : ds.length ≤ 65536)
    (U : Option Addr) (cu : Nat) (ms : List Int) (hs : SI w S U ms) (hsl : ms.length ≤ 65536) :
    Calls Tryd.prog 101 #[.agg #[.slice A1 ns.length c1, .slice A2 ds.length c2], .slice U ms.length cu] w (RetPair w (sworstE ns ds ms)) := by
  have hb := (Below.refl w.heap.size w).alloc (Nat.le_refl _) (.cells #[.slice A1 ns.length c1, .slice A2 ds.length c2] 26)
  have HC := mmaskW_any _ (h.below hb) (ht.below hb) S A1 A2 c1 c2 ns ds (hn.below hb) hl1 hl2 U cu ms (hs.keep (Kept.of_below hb)) hsl
  by_cases h0 : maskC isMask ns ds ms = 0
  · obtain ⟨hc, hl, hp⟩ := maskC_zero h0
    by_cases h1 : (cnt ms).2 = 0
    · have he : sworstE ns ds ms = (worstL ns ds (allL ms), 0) := by unfold sworstE; rw [if_neg (not_not_intro h0), if_neg (not_not_intro h1)]
      rw [he]
      obtain ⟨_, h8⟩ := cnt_zero h1
      exact Worst_ok w h ht S A1 A2 c1 c2 ns ds hn hc U cu ms hs hl (mask3 hp) (by rw [unk_len] at h8; exact h8)
    · have HE := Lib.hid (show sworstE ns ds ms = (0, (cnt ms).2) by unfold sworstE; rw [if_neg (not_not_intro h0), if_pos h1])
      have hne : ((cnt ms).2 != 0) = true := by simpa using h1
      rw [h0] at HC
      have HC := Lib.hid HC
      have HA := Lib.hid (fun (w' : World) (hb : Below w.heap.size w w') => show Calls Tryd.prog 43 #[.slice U ms.length cu] w' (RetAll w' ([], (cnt ms).2)) from by
        have := allV_any w' (ht.below hb) S U cu ms (hs.keep (Kept.of_below hb)) hsl
        unfold allV at this
        rw [if_pos h1] at this
        exact this)
      clear h0 h1 hc hl hp
      generalize (cnt ms).2 = ce at *
      go_enter Tryd.func101, Tryd.ntmps101
      go_wp2_with (fail)
      refine (HC.out).mono ?_
      rintro e w1 ⟨rfl, hb1⟩
      have hbA := hb.trans (hb1.mono hb.size)
      clear hb1
      go_wp2_with (fail)
      refine (HA.out w1 hbA).mono ?_
      rintro e w2 ⟨A, c, rfl, _, hb2⟩
      go_wp2_with (fail)
      go_ret2
      rw [HE.out]
      exact ⟨rfl, hbA.trans (hb2.mono hbA.size)⟩
  · have HE := Lib.hid (show sworstE ns ds ms = (0, maskC isMask ns ds ms) by unfold sworstE; rw [if_pos h0])
    have hne : (maskC isMask ns ds ms != 0) = true := by simpa using h0
    have HC := Lib.hid HC
    clear h0
    generalize maskC isMask ns ds ms = ce at *
    go_enter Tryd.func101, Tryd.ntmps101
    go_wp2_with (fail)
    refine (HC.out).mono ?_
    rintro e w1 ⟨rfl, hb1⟩
    go_wp2_with (fail)
    go_ret2
    rw [HE.out]
    exact ⟨rfl, hb.trans (hb1.mono hb.size)⟩

theorem worst_take (ns : List Node) (ds : List Dev) (ss : List (List Int)) (k : Nat) (h : k < ss.length) : worstL ns ds (ss.take (k + 1)) = if k = 0 then kF ns ds ss[k] else if kF ns ds ss[k] < worstL ns ds (ss.take k) then kF ns ds ss[k] else worstL ns ds (ss.take k) := by
  rw [List.take_succ_eq_append_getElem h]
  cases ss with
  | nil => simp at h
  | cons s ss =>
    cases k with
    | zero => simp [worstL, leastF]
    | succ k =>
      rw [if_neg (by omega)]
      simp only [List.take_succ_cons, List.cons_append]
      unfold worstL
      simp only [List.getElem?_cons_zero, Option.getD_some, List.drop_succ_cons, List.drop_zero]
      exact leastF_snoc _ _ _ _
theorem row_ok {ns : List Node} {ds : List Dev} {ms : List Int} (h0 : maskC isMask ns ds ms = 0) (k : Nat) (hk : k < (allL ms).length) : maskC isPos ns ds (allL ms)[k] = 0 ∧ (allL ms)[k].length = ms.length := by
  obtain ⟨hc, hl, hp⟩ := maskC_zero h0
  rw [allL_get ms k hk]
  exact ⟨mask_ok hc (by rw [stF_len]; exact hl) (stF_mem (fun i => by unfold bitAt; omega) ms 0 (mask3 hp)), stF_len _ _ _⟩

set_option maxHeartbeats 4000000 in
theorem refSWorst_any (w : World) (S : Nat → Prop) (A1 A2 : Option Addr) (c1 c2 : Nat) (ns : List Node) (ds : List Dev) (hn : NetIn w S A1 A2 ns ds) (hl1 : ns.length ≤ 65536) (hl2 : ds.length ≤ 65536)
    (U : Option Addr) (cu : Nat) (ms : List Int) (hs : SI w S U ms) (hsl : ms.length ≤ 65536) :
    Calls Tryd.prog 102 #[.agg #[.slice A1 ns.length c1, .slice A2 ds.length c2], .slice U ms.length cu] w (RetPair w (sworstE ns ds ms)) := by
  have hb := (Below.refl w.heap.size w).alloc (Nat.le_refl _) (.cells #[.slice A1 ns.length c1, .slice A2 ds.length c2] 26)
  have HC := Lib.hid (refCheck6_any _ S A1 A2 c1 c2 ns ds (hn.below hb) hl1 hl2 U cu ms (hs.keep (Kept.of_below hb)) hsl)
  have HA := Lib.hid (fun (w' : World) (hb : Below w.heap.size w w') => refAllV_any w' S U cu ms (hs.keep (Kept.of_below hb)) hsl)
  have HE := Lib.hid (show sworstE ns ds ms = if maskC isMask ns ds ms ≠ 0 then (0, maskC isMask ns ds ms) else if (cnt ms).2 ≠ 0 then (0, (cnt ms).2) else (worstL ns ds (allL ms), 0) from rfl)
  have HV := Lib.hid (show allV ms = if (cnt ms).2 ≠ 0 then ([], (cnt ms).2) else (allL ms, 0) from rfl)
  have HR := Lib.hid (@row_ok ns ds ms)
  have hvl := allV_len ms
  generalize maskC isMask ns ds ms = ce at *
  by_cases h0 : (ce != 0) = true
  · have H0 := Lib.hid (show ¬ ce = 0 by simpa using h0)
    go_enter Tryd.func102, Tryd.ntmps102
    go_wp2_with (fail)
    refine (HC.out).mono ?_
    rintro e w1 ⟨rfl, hb1⟩
    go_wp2_with (fail)
    go_ret2
    rw [HE.out, if_pos H0.out]
    exact ⟨rfl, hb.trans (hb1.mono hb.size)⟩
  · have h0' : (ce != 0) = false := by simpa using h0
    have hz : ce = 0 := by simpa using h0
    rw [if_neg (by simpa using hz)] at HE
    have HE := Lib.hid HE.out
    have HR := Lib.hid (HR.out hz)
    clear h0 hz
    by_cases h1 : ((cnt ms).2 != 0) = true
    · have H1 := Lib.hid (show ¬ (cnt ms).2 = 0 by simpa using h1)
      rw [if_pos H1.out] at HE HV
      rw [HV.out] at HA
      generalize (cnt ms).2 = ee at *
      go_enter Tryd.func102, Tryd.ntmps102
      go_wp2_with (fail)
      refine (HC.out).mono ?_
      rintro e w1 ⟨rfl, hb1⟩
      have hbA := hb.trans (hb1.mono hb.size)
      clear hb1
      go_wp2_with (fail)
      refine (HA.out w1 hbA).mono ?_
      rintro e w2 ⟨A, c, rfl, _, hb2⟩
      go_wp2_with (fail)
      go_ret2
      rw [HE.out]
      exact ⟨rfl, hbA.trans (hb2.mono hbA.size)⟩
    · have H1 := Lib.hid (show (cnt ms).2 = 0 by simpa using h1)
      rw [if_neg (not_not_intro H1.out)] at HE HV
      rw [HV.out] at HA hvl
      have hvl : (allL ms).length ≤ 256 := hvl
      clear h1 HV
      have HT := Lib.hid (worst_take ns ds (allL ms))
      have HF := Lib.hid (List.take_of_length_le (Nat.le_refl (allL ms).length))
      have hpos : 0 < (allL ms).length := by rw [allL_len]; exact Nat.pow_pos (by decide)
      generalize allL ms = ss at *
      go_enter Tryd.func102, Tryd.ntmps102
      go_wp2_with (fail)
      refine (HC.out).mono ?_
      rintro e w1 ⟨rfl, hb1⟩
      have hbA := hb.trans (hb1.mono hb.size)
      have Hbox := Lib.hid (box_at hb1)
      have hwz : w.heap.size < w1.heap.size := (Array.getElem?_eq_some_iff.1 Hbox.out).1
      clear hb1
      go_wp2_with (fail)
      refine (HA.out w1 hbA).mono ?_
      rintro e w2 ⟨A, c, rfl, sR, hb2⟩
      have hbB := hbA.trans (hb2.mono hbA.size)
      have hbox2 := (hb2.block _ hwz).trans Hbox.out
      have Hbox2 := Lib.hid hbox2
      have hwz2 : w.heap.size < w2.heap.size := by have := hb2.size; omega
      have hn2 := hn.below hbB
      clear hbox2 Hbox hbA hb2 hb HC HA hn hs
      go_wp2_with (fail)
      go_loopg [9, 10] ss.length (fun g v i wr => ∃ (k : Nat) (bv : Int), k + g = ss.length ∧ i = .int .i64 k ∧ v = .int .i64 bv ∧ Hid (bv = if k = 0 then 0 else worstL ns ds (ss.take k)) ∧ Below w2.heap.size w2 wr)
      case atStart => exact ⟨0, 0, by omega, rfl, rfl, Lib.hid rfl, Below.refl _ _⟩
      case round =>
        obtain ⟨k, bv, hk, rfl, rfl, Hbv, hB⟩ := hrel
        have Hk := Lib.hid hk
        clear hk
        by_cases hlt : k < ss.length
        · obtain ⟨b, off, A', c', rfl, q0, _, sr⟩ := (sR.keep (Kept.of_below hB)).at_ hlt
          have hbx := (hB.block _ hwz2).trans Hbox2.out
          have n0 : wr.cell? ⟨w.heap.size, 0, none⟩ = some (.slice A1 ns.length c1) := by rw [cell_of_row wr _ 0 _ _ _ hbx]; rfl
          have n1 : wr.cell? ⟨w.heap.size, 1, none⟩ = some (.slice A2 ds.length c2) := by rw [cell_of_row wr _ 1 _ _ _ hbx]; rfl
          have hr := HR.out k hlt
          have ht := HT.out k hlt
          generalize ss[k] = row at *
          have hsup : suppliedE ns ds row = (supL ns ds row, 0) := by unfold suppliedE; rw [if_neg (not_not_intro hr.1)]
          have HQ := fun (w' : World) (hb : Below wr.heap.size wr w') => refCustomers_any w' (fun _ => True) A1 A2 c1 c2 ns ds ((hn2.below (hB.trans (hb.mono hB.size))).mono (fun _ _ _ => trivial)) hl1 hl2 A' c' row ((sr.keep (Kept.of_below hb)).mono (T := fun _ => True) (fun _ _ _ => trivial)) (by rw [hr.2]; exact hsl)
          simp only [hsup] at HQ
          have hkf : custF ns (supL ns ds row) = kF ns ds row := rfl
          simp only [hkf] at HQ
          have HQ := Lib.hid HQ
          have Ht := Lib.hid ht
          clear hsup hkf ht hr sr
          generalize kF ns ds row = kf at *
          obtain ⟨wi, rfl⟩ : ∃ x : World, x = wr := ⟨_, rfl⟩
          obtain ⟨gko, rfl⟩ : ∃ x : Nat, x = gk := ⟨_, rfl⟩
          go_upto_region 11 with (fail)
          go_cut [11, 12] (fun v11 v12 wx => v11 = .int .i64 kf ∧ v12 = .int .i64 0 ∧ Below wi.heap.size wi wx)
          case first =>
            refine wp_region_ext1 (by kernel_rfl) 11 [34, 35, 36, 37, 38, 39, 33, 40, 41, 11, 12] (fun w' => Below wi.heap.size wi w') (fun a b => Below a.heap.size a b) (fun d vv w' => if d = 34 then vv = .agg #[.slice A1 ns.length c1, .slice A2 ds.length c2] else if d = 35 then vv = .slice (some ⟨b, off, none⟩) ss.length c else if d = 36 then vv = .int .i64 (k : Nat) else if d = 37 then vv = .pointer (some ⟨b, off + k, none⟩) else if d = 38 then vv = .slice A' row.length c' else if d = 39 then vv = .tuple #[.int .i64 kf, .int .i64 0] else if d = 33 then vv = .tuple #[.int .i64 kf, .int .i64 0] else if d = 40 then vv = .int .i64 kf else if d = 41 then vv = .int .i64 0 else if d = 11 then vv = .int .i64 kf else if d = 12 then vv = .int .i64 0 else False) (by kernel_rfl) ((Below.refl _ _).drew) (fun _ _ _ _ _ _ h => h) ?_ ?_
            · intro i o d hi ho hd f w1 hC hdep K hK
              have hi' : i = 0 ∨ i = 1 ∨ i = 2 ∨ i = 3 ∨ i = 4 ∨ i = 5 ∨ i = 6 ∨ i = 7 ∨ i = 8 ∨ i = 9 ∨ i = 10 := by omega
              rcases hi' with rfl | rfl | rfl | rfl | rfl | rfl | rfl | rfl | rfl | rfl | rfl
              · simp only [List.getElem?_toArray, List.getElem?_cons_zero, Option.some.injEq] at ho
                subst ho
                simp only [Option.some.injEq] at hd
                subst hd
                generalize hA : fr _ _ _ f = A at hK ⊢
                have e2 : A.tmps[2]?.getD undef = .pointer (some ⟨w.heap.size, 0, none⟩) := by rw [← hA]; exact fr_out _ _ _ _ 2 _ (by decide) rfl
                clear hA hdep
                have hcn0 := (hC.cell (World.block_lt_of_cell? _ _ n0)).trans n0
                have hcn1 := (hC.cell (World.block_lt_of_cell? _ _ n1)).trans n1
                go_simp
                exact hK _ _ (Below.refl _ _) hC rfl
              · simp only [List.getElem?_toArray, List.getElem?_cons_zero, List.getElem?_cons_succ, Option.some.injEq] at ho
                subst ho
                simp only [Option.some.injEq] at hd
                subst hd
                generalize hA : fr _ _ _ f = A at hK ⊢
                have e7 : A.tmps[7]?.getD undef = .slice (some ⟨b, off, none⟩) ss.length c := by rw [← hA]; exact fr_out _ _ _ _ 7 _ (by decide) rfl
                clear hA hdep
                go_simp
                exact hK _ _ (Below.refl _ _) hC rfl
              · simp only [List.getElem?_toArray, List.getElem?_cons_zero, List.getElem?_cons_succ, Option.some.injEq] at ho
                subst ho
                simp only [Option.some.injEq] at hd
                subst hd
                generalize hA : fr _ _ _ f = A at hK ⊢
                have e10 : A.tmps[10]?.getD undef = .int .i64 (k : Nat) := by rw [← hA]; exact fr_out _ _ _ _ 10 _ (by decide) rfl
                clear hA hdep
                go_simp
                exact hK _ _ (Below.refl _ _) hC rfl
              · simp only [List.getElem?_toArray, List.getElem?_cons_zero, List.getElem?_cons_succ, Option.some.injEq] at ho
                subst ho
                simp only [Option.some.injEq] at hd
                subst hd
                have h35 : f 35 = .slice (some ⟨b, off, none⟩) ss.length c := hdep { on := 1, ground := .data } (by simp) rfl 35 rfl
                have h36 : f 36 = .int .i64 (k : Nat) := hdep { on := 2, ground := .data } (by simp) rfl 36 rfl
                generalize hA : fr _ _ _ f = A at hK ⊢
                have e35 : A.tmps[35]?.getD undef = f 35 := by rw [← hA]; exact fr_in _ _ _ _ 35 (by decide) (by simp)
                have e36 : A.tmps[36]?.getD undef = f 36 := by rw [← hA]; exact fr_in _ _ _ _ 36 (by decide) (by simp)
                clear hA hdep
                rw [h35] at e35
                clear h35
                rw [h36] at e36
                clear h36
                go_simp
                exact hK _ _ (Below.refl _ _) hC rfl
              · simp only [List.getElem?_toArray, List.getElem?_cons_zero, List.getElem?_cons_succ, Option.some.injEq] at ho
                subst ho
                simp only [Option.some.injEq] at hd
                subst hd
                have h37 : f 37 = .pointer (some ⟨b, off + k, none⟩) := hdep { on := 3, ground := .data } (by simp) rfl 37 rfl
                generalize hA : fr _ _ _ f = A at hK ⊢
                have e37 : A.tmps[37]?.getD undef = f 37 := by rw [← hA]; exact fr_in _ _ _ _ 37 (by decide) (by simp)
                clear hA hdep
                rw [h37] at e37
                clear h37
                have hcq0 := (hC.cell (World.block_lt_of_cell? _ _ q0)).trans q0
                go_simp
                exact hK _ _ (Below.refl _ _) hC rfl
              · simp only [List.getElem?_toArray, List.getElem?_cons_zero, List.getElem?_cons_succ, Option.some.injEq] at ho
                subst ho
                simp only [Option.some.injEq] at hd
                subst hd
                have h34 : f 34 = .agg #[.slice A1 ns.length c1, .slice A2 ds.length c2] := hdep { on := 0, ground := .data } (by simp) rfl 34 rfl
                have h38 : f 38 = .slice A' row.length c' := hdep { on := 4, ground := .data } (by simp) rfl 38 rfl
                generalize hA : fr _ _ _ f = A at hK ⊢
                have e34 : A.tmps[34]?.getD undef = f 34 := by rw [← hA]; exact fr_in _ _ _ _ 34 (by decide) (by simp)
                have e38 : A.tmps[38]?.getD undef = f 38 := by rw [← hA]; exact fr_in _ _ _ _ 38 (by decide) (by simp)
                clear hA hdep
                rw [h34] at e34
                clear h34
                rw [h38] at e38
                clear h38
                go_simp
                refine (HQ.out w1 hC).mono ?_
                rintro e' w2 ⟨rfl, hb2⟩
                exact hK _ _ hb2 (hC.trans (hb2.mono hC.size)) rfl
              · simp only [List.getElem?_toArray, List.getElem?_cons_zero, List.getElem?_cons_succ, Option.some.injEq] at ho
                subst ho
                simp only [Option.some.injEq] at hd
                subst hd
                have h39 : f 39 = .tuple #[.int .i64 kf, .int .i64 0] := hdep { on := 5, ground := .data } (by simp) rfl 39 rfl
                generalize hA : fr _ _ _ f = A at hK ⊢
                have e39 : A.tmps[39]?.getD undef = f 39 := by rw [← hA]; exact fr_in _ _ _ _ 39 (by decide) (by simp)
                clear hA hdep
                rw [h39] at e39
                clear h39
                go_simp
                exact hK _ _ (Below.refl _ _) hC rfl
              · simp only [List.getElem?_toArray, List.getElem?_cons_zero, List.getElem?_cons_succ, Option.some.injEq] at ho
                subst ho
                simp only [Option.some.injEq] at hd
                subst hd
                have h33 : f 33 = .tuple #[.int .i64 kf, .int .i64 0] := hdep { on := 6, ground := .data } (by simp) rfl 33 rfl
                generalize hA : fr _ _ _ f = A at hK ⊢
                have e33 : A.tmps[33]?.getD undef = f 33 := by rw [← hA]; exact fr_in _ _ _ _ 33 (by decide) (by simp)
                clear hA hdep
                rw [h33] at e33
                clear h33
                go_simp
                exact hK _ _ (Below.refl _ _) hC rfl
              · simp only [List.getElem?_toArray, List.getElem?_cons_zero, List.getElem?_cons_succ, Option.some.injEq] at ho
                subst ho
                simp only [Option.some.injEq] at hd
                subst hd
                have h33 : f 33 = .tuple #[.int .i64 kf, .int .i64 0] := hdep { on := 6, ground := .data } (by simp) rfl 33 rfl
                generalize hA : fr _ _ _ f = A at hK ⊢
                have e33 : A.tmps[33]?.getD undef = f 33 := by rw [← hA]; exact fr_in _ _ _ _ 33 (by decide) (by simp)
                clear hA hdep
                rw [h33] at e33
                clear h33
                go_simp
                exact hK _ _ (Below.refl _ _) hC rfl
              · simp only [List.getElem?_toArray, List.getElem?_cons_zero, List.getElem?_cons_succ, Option.some.injEq] at ho
                subst ho
                simp only [Option.some.injEq] at hd
                subst hd
                have h40 : f 40 = .int .i64 kf := hdep { on := 7, ground := .data } (by simp) rfl 40 rfl
                generalize hA : fr _ _ _ f = A at hK ⊢
                have e40 : A.tmps[40]?.getD undef = f 40 := by rw [← hA]; exact fr_in _ _ _ _ 40 (by decide) (by simp)
                clear hA hdep
                rw [h40] at e40
                clear h40
                go_simp
                exact hK _ _ (Below.refl _ _) hC rfl
              · simp only [List.getElem?_toArray, List.getElem?_cons_zero, List.getElem?_cons_succ, Option.some.injEq] at ho
                subst ho
                simp only [Option.some.injEq] at hd
                subst hd
                have h41 : f 41 = .int .i64 0 := hdep { on := 8, ground := .data } (by simp) rfl 41 rfl
                generalize hA : fr _ _ _ f = A at hK ⊢
                have e41 : A.tmps[41]?.getD undef = f 41 := by rw [← hA]; exact fr_in _ _ _ _ 41 (by decide) (by simp)
                clear hA hdep
                rw [h41] at e41
                clear h41
                go_simp
                exact hK _ _ (Below.refl _ _) hC rfl
            · intro f w1 hC hall
              have q0 : f 11 = .int .i64 kf := hall 9 11 (by decide) rfl
              have q1 : f 12 = .int .i64 0 := hall 10 12 (by decide) rfl
              have H0 := Lib.hid q0
              have H1 := Lib.hid q1
              clear hall q0 q1
              simp only [fr, upd, List.mapIdx_cons, List.mapIdx_nil]
              simp
              go_wp2_with fail
              go_meet
              case rel => exact ⟨H0.out, H1.out, hC⟩
          case rest =>
            obtain ⟨wx, rfl⟩ : ∃ x, x = wc := ⟨_, rfl⟩
            obtain ⟨rfl, rfl, hbx'⟩ := hcut
            have hBx := hB.trans (hbx'.mono hB.size)
            clear n0 n1 q0 HQ hbx
            cases k with
            | zero =>
              have H2 := Lib.hid (show worstL ns ds (ss.take 1) = kf from Ht.out)
              go_wp2_with (fail)
              go_roundg (gko - 1)
              case measure => have := Hk.out; omega
              case rel => exact ⟨1, kf, by have := Hk.out; omega, by go_num, rfl, Lib.hid (by rw [if_neg (by omega), H2.out]), hBx⟩
            | succ k =>
              have hbv := Hbv.out
              rw [if_neg (by omega)] at hbv
              have ht2 : worstL ns ds (ss.take (k + 1 + 1)) = if kf < bv then kf else bv := by rw [Ht.out, if_neg (by omega), ← hbv]
              have hk0 : (((k + 1 : Nat) : Int) == 0) = false := by simp; omega
              clear hbv
              by_cases hlt2 : kf < bv
              · have d1 : decide (kf < bv) = true := decide_eq_true hlt2
                rw [if_pos hlt2] at ht2
                have Ht2 := Lib.hid ht2
                clear ht2
                go_wp2_with (fail)
                go_roundg (gko - 1)
                case measure => have := Hk.out; omega
                case rel => exact ⟨k + 1 + 1, kf, by have := Hk.out; omega, by go_num, rfl, Lib.hid (by rw [if_neg (by omega), Ht2.out]), hBx⟩
              · have d1 : decide (kf < bv) = false := decide_eq_false hlt2
                rw [if_neg hlt2] at ht2
                have Ht2 := Lib.hid ht2
                clear ht2
                go_wp2_with (fail)
                go_roundg (gko - 1)
                case measure => have := Hk.out; omega
                case rel => exact ⟨k + 1 + 1, bv, by have := Hk.out; omega, by go_num, rfl, Lib.hid (by rw [if_neg (by omega), Ht2.out]), hBx⟩
        · have hkn : k = ss.length := by have := Hk.out; omega
          subst hkn
          have hbv := Hbv.out
          rw [if_neg (by omega), HF.out] at hbv
          have Hbv2 := Lib.hid hbv
          clear hbv
          go_wp2_with (fail)
          go_ret2
          rw [HE.out, ← Hbv2.out]
          exact ⟨rfl, hbB.trans (hB.mono hbB.size)⟩
end Go.Proofs.YtgpcojmdfmngeaaDoor

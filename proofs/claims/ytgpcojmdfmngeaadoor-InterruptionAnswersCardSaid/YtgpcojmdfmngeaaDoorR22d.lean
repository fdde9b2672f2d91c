/-
  Walks of the reference's fault, Minutes, Long, Worst, Same (interruption).
-/
import Derived.Test.YtgpcojmdfmngeaaDoorGh
import Derived.BigQuiet
namespace Go.Proofs.YtgpcojmdfmngeaaDoor
open Go.RowKit
set_option maxHeartbeats 400000
set_option maxRecDepth 100000

theorem refValid02_any (w : World) (a b : Int) : Calls Tryd.prog 167 #[.agg #[.int .i64 a, .int .i64 b]] w fun e w' => e = .returned (.bool (validB a b)) ∧ Below w.heap.size w w' := by
  have hb := (Below.refl w.heap.size w).alloc (Nat.le_refl _) (.cells #[.int .i64 a, .int .i64 b] 139)
  by_cases h1 : 0 ≤ a
  · by_cases h2 : a < b
    · by_cases h3 : b ≤ 16777216
      · have d1 : decide (0 ≤ a) = true := decide_eq_true h1
        have d2 : decide (a < b) = true := decide_eq_true h2
        have d3 : decide (b ≤ 16777216) = true := decide_eq_true h3
        have HV := Lib.hid (show validB a b = true by unfold validB; rw [d1, d2, d3]; rfl)
        clear h1 h2 h3
        go_enter Tryd.func167, Tryd.ntmps167
        go_wp2_with (fail)
        go_ret
        exact ⟨by rw [HV.out]; rfl, hb⟩
      · have d1 : decide (0 ≤ a) = true := decide_eq_true h1
        have d2 : decide (a < b) = true := decide_eq_true h2
        have d3 : decide (b ≤ 16777216) = false := decide_eq_false h3
        have HV := Lib.hid (show validB a b = false by unfold validB; rw [d1, d2, d3]; rfl)
        clear h1 h2 h3
        go_enter Tryd.func167, Tryd.ntmps167
        go_wp2_with (fail)
        go_ret
        exact ⟨by rw [HV.out]; rfl, hb⟩
    · have d1 : decide (0 ≤ a) = true := decide_eq_true h1
      have d2 : decide (a < b) = false := decide_eq_false h2
      have HV := Lib.hid (show validB a b = false by unfold validB; rw [d1, d2]; rfl)
      clear h1 h2
      go_enter Tryd.func167, Tryd.ntmps167
      go_wp2_with (fail)
      go_ret
      exact ⟨by rw [HV.out]; rfl, hb⟩
  · have d1 : decide (0 ≤ a) = false := decide_eq_false h1
    have HV := Lib.hid (show validB a b = false by unfold validB; rw [d1]; rfl)
    clear h1
    go_enter Tryd.func167, Tryd.ntmps167
    go_wp2_with (fail)
    go_ret
    exact ⟨by rw [HV.out]; rfl, hb⟩

set_option maxHeartbeats 2000000 in
theorem refFault22_any (w : World) (S : Nat → Prop) (A : Option Addr) (c : Nat) (l : List Out) (hs : SV w S A (recV outV l)) (hl : l.length ≤ 65536) :
    Calls Tryd.prog 153 #[.slice A l.length c] w fun e w' => e = .returned (.int .i64 (outsE l)) ∧ Below w.heap.size w w' := by
  by_cases hf : 4096 < l.length
  · have hfd : decide ((4096 : Int) < l.length) = true := decide_eq_true (by omega)
    have HE := Lib.hid (show outsE l = 1 by unfold outsE; rw [if_pos hf])
    go_enter Tryd.func153, Tryd.ntmps153
    go_wp2_with (fail)
    go_ret
    exact ⟨by rw [HE.out]; rfl, Below.refl _ _⟩
  · have hfd : decide ((4096 : Int) < l.length) = false := decide_eq_false (by omega)
    have HE := Lib.hid (show outsE l = outErr l by unfold outsE; rw [if_neg hf])
    go_enter Tryd.func153, Tryd.ntmps153
    go_wp2_with (fail)
    go_loopg [3] l.length (fun g i wr => ∃ k : Nat, k + g = l.length ∧ i = .int .i64 k ∧ outErr l = outErr (l.drop k) ∧ Below w.heap.size w wr)
    case atStart => exact ⟨0, by omega, rfl, rfl, Below.refl _ _⟩
    case round =>
      obtain ⟨k, hk, rfl, hi, hB⟩ := hrel
      have Hk := Lib.hid hk
      have Hi := Lib.hid hi
      clear hk hi
      by_cases hlt : k < l.length
      · obtain ⟨b, off, rfl, _, _, hc⟩ := (hs.keep (Kept.of_below hB)).rec outV_len (by decide) hlt
        have q1 := hc 1 _ rfl
        have q2 := hc 2 _ rfl
        have q3 := hc 3 _ rfl
        have hd := outErr_drop l k hlt
        clear hc
        generalize l[k] = o at *
        obtain ⟨nd, cu, fr, til⟩ := o
        simp only at hd q1 q2 q3
        have hV := refValid02_any wr fr til
        by_cases hv : 0 ≤ fr ∧ fr < til ∧ til ≤ 16777216
        · rw [if_pos hv] at hd
          rw [show validB fr til = true by simp [validB, hv]] at hV
          have HV := Lib.hid hV
          clear hV hv
          by_cases h1 : decide (cu < 0) = true
          · have Hd := Lib.hid (show outErr (l.drop k) = 5 by rw [hd, if_pos (.inl (by simpa using h1))])
            clear hd
            go_wp2_with (fail)
            refine HV.out.mono ?_
            rintro e w1 ⟨rfl, hb1⟩
            have p1 := (hb1.cell (World.block_lt_of_cell? _ _ q1)).trans q1
            go_wp2_with (fail)
            go_ret
            exact ⟨by rw [HE.out, Hi.out, Hd.out]; rfl, hB.trans (hb1.mono hB.size)⟩
          · have h1 : decide (cu < 0) = false := by simpa using h1
            by_cases h2 : decide (1048576 < cu) = true
            · have Hd := Lib.hid (show outErr (l.drop k) = 5 by rw [hd, if_pos (.inr (by simpa using h2))])
              clear hd
              go_wp2_with (fail)
              refine HV.out.mono ?_
              rintro e w1 ⟨rfl, hb1⟩
              have p1 := (hb1.cell (World.block_lt_of_cell? _ _ q1)).trans q1
              go_wp2_with (fail)
              go_ret
              exact ⟨by rw [HE.out, Hi.out, Hd.out]; rfl, hB.trans (hb1.mono hB.size)⟩
            · have h2 : decide (1048576 < cu) = false := by simpa using h2
              have Hd := Lib.hid (show outErr (l.drop k) = outErr (l.drop (k + 1)) by rw [hd, if_neg (by simp at h1 h2; omega)])
              clear hd
              go_wp2_with (fail)
              refine HV.out.mono ?_
              rintro e w1 ⟨rfl, hb1⟩
              have p1 := (hb1.cell (World.block_lt_of_cell? _ _ q1)).trans q1
              go_wp2_with (fail)
              go_roundg (gk - 1)
              case measure => have := Hk.out; omega
              case rel => exact ⟨k + 1, by have := Hk.out; omega, by go_num, by rw [Hi.out, Hd.out], hB.trans (hb1.mono hB.size)⟩
        · rw [if_neg hv] at hd
          rw [show validB fr til = false by simp only [validB, Bool.and_eq_false_iff, decide_eq_false_iff_not]; omega] at hV
          have HV := Lib.hid hV
          have Hd := Lib.hid hd
          clear hV hv hd
          go_wp2_with (fail)
          refine HV.out.mono ?_
          rintro e w1 ⟨rfl, hb1⟩
          go_wp2_with (fail)
          go_ret
          exact ⟨by rw [HE.out, Hi.out, Hd.out]; rfl, hB.trans (hb1.mono hB.size)⟩
      · go_wp2_with (fail)
        go_ret
        refine ⟨?_, hB⟩
        rw [HE.out, Hi.out, List.drop_of_length_le (by omega)]
        rfl

set_option maxHeartbeats 4000000 in
theorem refMinutes_any (w : World) (S : Nat → Prop) (A : Option Addr) (c : Nat) (l : List Out) (hs : SV w S A (recV outV l)) (hl : l.length ≤ 65536) :
    Calls Tryd.prog 91 #[.slice A l.length c] w (RetPair w (minutesE l)) := by
  have HC := Lib.hid (refFault22_any w S A c l hs hl)
  have HE := Lib.hid (show minutesE l = if outsE l ≠ 0 then (0, outsE l) else (minL l, 0) from rfl)
  have HZ := Lib.hid (show outsE l = 0 → _ from outsE_zero)
  generalize outsE l = ce at *
  by_cases h0 : (ce != 0) = true
  · have H0 := Lib.hid (show ¬ ce = 0 by simpa using h0)
    go_enter Tryd.func91, Tryd.ntmps91
    go_wp2_with (fail)
    refine (HC.out).mono ?_
    rintro e w1 ⟨rfl, hb1⟩
    go_wp2_with (fail)
    go_ret2
    rw [HE.out, if_pos H0.out]
    exact ⟨rfl, hb1⟩
  · have h0' : (ce != 0) = false := by simpa using h0
    have hz : ce = 0 := by simpa using h0
    rw [if_neg (by simpa using hz)] at HE
    obtain ⟨hl', hok⟩ := HZ.out hz
    have Hok := Lib.hid hok
    rw [hz] at HC
    clear h0 hz hok h0'
    go_enter Tryd.func91, Tryd.ntmps91
    go_wp2_with (fail)
    refine (HC.out).mono ?_
    rintro e w1 ⟨rfl, hb1⟩
    go_wp2_with (fail)
    go_loopg [5, 6] l.length (fun g s i wr => ∃ k : Nat, k + g = l.length ∧ i = .int .i64 k ∧ s = .int .i64 (minL (l.take k)) ∧ Below w.heap.size w wr)
    case atStart => exact ⟨0, by omega, rfl, rfl, hb1⟩
    case round =>
      clear hb1
      obtain ⟨k, hk, rfl, rfl, hB⟩ := hrel
      have Hk := Lib.hid hk
      clear hk
      by_cases hlt : k < l.length
      · obtain ⟨b, off, rfl, _, _, hc⟩ := (hs.keep (Kept.of_below hB)).rec outV_len (by decide) hlt
        have q0 := hc 0 _ rfl
        have q1 := hc 1 _ rfl
        have q2 := hc 2 _ rfl
        have q3 := hc 3 _ rfl
        simp only [Nat.add_zero] at q0
        have ho := Hok.out l[k] (List.getElem_mem hlt)
        have hmb := minO_bound ho
        have hmt := minL_take l k hlt
        have hb2 := minL_bound (l := l.take k) (fun o h => Hok.out o (List.mem_of_mem_take h))
        rw [List.length_take] at hb2
        clear hc
        generalize l[k] = o at *
        generalize minL (l.take k) = s0 at *
        obtain ⟨o1, o2, o3, o4, o5⟩ := ho
        obtain ⟨nd, cu, fr, til⟩ := o
        have hmo : minO ⟨nd, cu, fr, til⟩ = cu * (til - fr) := rfl
        rw [hmo] at hmb hmt
        simp only at o1 o2 o3 o4 o5 q0 q1 q2 q3
        have hw1 : IntKind.i64.wrap (til - fr) = til - fr := IntWalk.i64_in _ (by omega)
        have hw2 : IntKind.i64.wrap (cu * (til - fr)) = cu * (til - fr) := IntWalk.i64_in _ (by omega)
        have hwr : IntKind.i64.wrap (s0 + cu * (til - fr)) = s0 + cu * (til - fr) := IntWalk.i64_in _ (by omega)
        have Hmt := Lib.hid hmt
        clear hmt hmo hmb hb2
        go_wp2_with (go_quiet (fail))
        go_roundg (gk - 1)
        case measure => have := Hk.out; omega
        case rel => exact ⟨k + 1, by have := Hk.out; omega, by go_num, by rw [Hmt.out], hB.trans (below_drewN _ _ nq)⟩
      · have he : minL (l.take k) = minL l := by rw [List.take_of_length_le (by omega)]
        rw [he]
        go_wp2_with (fail)
        go_ret2
        rw [HE.out]
        exact ⟨rfl, hB⟩

set_option maxHeartbeats 4000000 in
theorem refLong_any (w : World) (S : Nat → Prop) (A : Option Addr) (c : Nat) (l : List Out) (hs : SV w S A (recV outV l)) (hl : l.length ≤ 65536) (lim : Int) :
    Calls Tryd.prog 93 #[.slice A l.length c, .int .i64 lim] w (RetPair w (longE lim l)) := by
  have HC := Lib.hid (refFault22_any w S A c l hs hl)
  have HE := Lib.hid (show longE lim l = if outsE l ≠ 0 then (0, outsE l) else (longL lim l, 0) from rfl)
  have HZ := Lib.hid (show outsE l = 0 → _ from outsE_zero)
  generalize outsE l = ce at *
  by_cases h0 : (ce != 0) = true
  · have H0 := Lib.hid (show ¬ ce = 0 by simpa using h0)
    go_enter Tryd.func93, Tryd.ntmps93
    go_wp2_with (fail)
    refine (HC.out).mono ?_
    rintro e w1 ⟨rfl, hb1⟩
    go_wp2_with (fail)
    go_ret2
    rw [HE.out, if_pos H0.out]
    exact ⟨rfl, hb1⟩
  · have h0' : (ce != 0) = false := by simpa using h0
    have hz : ce = 0 := by simpa using h0
    rw [if_neg (by simpa using hz)] at HE
    obtain ⟨hl', hok⟩ := HZ.out hz
    have Hok := Lib.hid hok
    rw [hz] at HC
    clear h0 hz hok h0'
    go_enter Tryd.func93, Tryd.ntmps93
    go_wp2_with (fail)
    refine (HC.out).mono ?_
    rintro e w1 ⟨rfl, hb1⟩
    go_wp2_with (fail)
    go_loopg [7, 8] l.length (fun g s i wr => ∃ k : Nat, k + g = l.length ∧ i = .int .i64 k ∧ s = .int .i64 (longL lim (l.take k)) ∧ Below w.heap.size w wr)
    case atStart => exact ⟨0, by omega, rfl, rfl, hb1⟩
    case round =>
      clear hb1
      obtain ⟨k, hk, rfl, rfl, hB⟩ := hrel
      have Hk := Lib.hid hk
      clear hk
      by_cases hlt : k < l.length
      · obtain ⟨b, off, rfl, _, _, hc⟩ := (hs.keep (Kept.of_below hB)).rec outV_len (by decide) hlt
        have q0 := hc 0 _ rfl
        have q1 := hc 1 _ rfl
        have q2 := hc 2 _ rfl
        have q3 := hc 3 _ rfl
        simp only [Nat.add_zero] at q0
        have ho := Hok.out l[k] (List.getElem_mem hlt)
        have hmt := longL_take lim l k hlt
        have hb2 := longL_bound lim (l := l.take k) (fun o h => Hok.out o (List.mem_of_mem_take h))
        rw [List.length_take] at hb2
        clear hc
        generalize l[k] = o at *
        generalize longL lim (l.take k) = s0 at *
        obtain ⟨o1, o2, o3, o4, o5⟩ := ho
        obtain ⟨nd, cu, fr, til⟩ := o
        simp only at o1 o2 o3 o4 o5 hmt q0 q1 q2 q3
        have hw1 : IntKind.i64.wrap (til - fr) = til - fr := IntWalk.i64_in _ (by omega)
        have hwr : IntKind.i64.wrap (s0 + cu) = s0 + cu := IntWalk.i64_in _ (by omega)
        by_cases hg : lim < til - fr
        · have hgd : decide (lim < til - fr) = true := decide_eq_true hg
          have Hmt := Lib.hid (show longL lim (l.take (k + 1)) = s0 + cu by rw [hmt, if_pos hg])
          clear hmt hg
          go_wp2_with (go_quiet (fail))
          go_roundg (gk - 1)
          case measure => have := Hk.out; omega
          case rel => exact ⟨k + 1, by have := Hk.out; omega, by go_num, by rw [Hmt.out], hB.trans (below_drewN _ _ _)⟩
        · have hgd : decide (lim < til - fr) = false := decide_eq_false hg
          have Hmt := Lib.hid (show longL lim (l.take (k + 1)) = s0 by rw [hmt, if_neg hg, Int.add_zero])
          clear hmt hg
          go_wp2_with (go_quiet (fail))
          go_roundg (gk - 1)
          case measure => have := Hk.out; omega
          case rel => exact ⟨k + 1, by have := Hk.out; omega, by go_num, by rw [Hmt.out], hB.trans (below_drewN _ _ _)⟩
      · have he : longL lim (l.take k) = longL lim l := by rw [List.take_of_length_le (by omega)]
        rw [he]
        go_wp2_with (fail)
        go_ret2
        rw [HE.out]
        exact ⟨rfl, hB⟩

theorem best_step (l : List Out) (k : Nat) (h : k < l.length) (mo : Int) (hm : mo = if k = 0 then -1 else minAt l (bestN (minAt l) k)) (h0 : 0 ≤ minO l[k]) :
    (mo < minO l[k] → bestN (minAt l) (k + 1) = k ∧ minAt l k = minO l[k]) ∧ (¬ mo < minO l[k] → bestN (minAt l) (k + 1) = bestN (minAt l) k ∧ mo = minAt l (bestN (minAt l) k)) := by
  rw [bestN, minAt_get h]
  by_cases hk : k = 0
  · subst hk
    rw [if_pos rfl] at hm
    have e : bestN (minAt l) 0 = 0 := rfl
    rw [e, minAt_get h, if_neg (by omega)]
    exact ⟨fun _ => ⟨rfl, rfl⟩, fun h => absurd (by omega) h⟩
  · rw [if_neg hk] at hm
    rw [← hm]
    exact ⟨fun h => ⟨if_pos h, rfl⟩, fun h => ⟨if_neg h, rfl⟩⟩

set_option maxHeartbeats 4000000 in
theorem refOWorst_any (w : World) (S : Nat → Prop) (A : Option Addr) (c : Nat) (l : List Out) (hs : SV w S A (recV outV l)) (hl : l.length ≤ 65536) :
    Calls Tryd.prog 95 #[.slice A l.length c] w (RetIB w (worstE l)) := by
  have HC := Lib.hid (refFault22_any w S A c l hs hl)
  have HE := Lib.hid (show worstE l = (if l = [] ∨ outsE l ≠ 0 then ((0 : Int), false) else (((bestN (minAt l) l.length : Nat) : Int), true)) from rfl)
  have HZ := Lib.hid (show outsE l = 0 → _ from outsE_zero)
  generalize outsE l = ce at *
  by_cases h0 : (ce != 0) = true
  · have H0 := Lib.hid (show ¬ ce = 0 by simpa using h0)
    rw [if_pos (.inr H0.out)] at HE
    go_enter Tryd.func95, Tryd.ntmps95
    go_wp2_with (fail)
    refine (HC.out).mono ?_
    rintro e w1 ⟨rfl, hb1⟩
    go_wp2_with (fail)
    go_ret2
    rw [HE.out]
    exact ⟨rfl, hb1⟩
  · have hz : ce = 0 := by simpa using h0
    obtain ⟨hl', hok⟩ := HZ.out hz
    have Hok := Lib.hid hok
    subst hz
    clear h0 hok HZ
    by_cases hn : l = []
    · subst hn
      rw [if_pos (.inl rfl)] at HE
      go_enter Tryd.func95, Tryd.ntmps95
      go_wp2_with (fail)
      refine (HC.out).mono ?_
      rintro e w1 ⟨rfl, hb1⟩
      go_wp2_with (fail)
      go_ret2
      rw [HE.out]
      exact ⟨rfl, hb1⟩
    · have hlp : 0 < l.length := List.length_pos_iff.2 hn
      have hl0 : ((l.length : Int) == 0) = false := by simp; exact hn
      rw [if_neg (by simp [hn])] at HE
      have HE := Lib.hid HE.out
      have HS := Lib.hid (fun (k : Nat) (h : k < l.length) => best_step l k h)
      go_enter Tryd.func95, Tryd.ntmps95
      go_wp2_with (fail)
      refine (HC.out).mono ?_
      rintro e w1 ⟨rfl, hb1⟩
      go_wp2_with (fail)
      go_loopg [4, 5, 6] l.length (fun g vb vm i wr => ∃ (k bi : Nat) (mo : Int), k + g = l.length ∧ i = .int .i64 k ∧ vb = .int .i64 bi ∧ vm = .int .i64 mo ∧ Hid (bi = bestN (minAt l) k) ∧ Hid (mo = if k = 0 then -1 else minAt l (bestN (minAt l) k)) ∧ Below w.heap.size w wr)
      case atStart => exact ⟨0, 0, -1, by omega, rfl, rfl, rfl, Lib.hid rfl, Lib.hid rfl, hb1⟩
      case round =>
        clear hb1
        obtain ⟨k, bi, mo, hk, rfl, rfl, rfl, Hbi, Hmo, hB⟩ := hrel
        have Hk := Lib.hid hk
        clear hk
        by_cases hlt : k < l.length
        · obtain ⟨b, off, rfl, _, _, hc⟩ := (hs.keep (Kept.of_below hB)).rec outV_len (by decide) hlt
          have q0 := hc 0 _ rfl
          have q1 := hc 1 _ rfl
          have q2 := hc 2 _ rfl
          have q3 := hc 3 _ rfl
          simp only [Nat.add_zero] at q0
          have ho := Hok.out l[k] (List.getElem_mem hlt)
          have hmb := minO_bound ho
          have hst := HS.out k hlt mo Hmo.out hmb.1
          clear hc
          generalize l[k] = o at *
          obtain ⟨o1, o2, o3, o4, o5⟩ := ho
          obtain ⟨nd, cu, fr, til⟩ := o
          have hmo : minO ⟨nd, cu, fr, til⟩ = cu * (til - fr) := rfl
          rw [hmo] at hmb hst
          simp only at o1 o2 o3 o4 o5 q0 q1 q2 q3
          have hw1 : IntKind.i64.wrap (til - fr) = til - fr := IntWalk.i64_in _ (by omega)
          have hw2 : IntKind.i64.wrap (cu * (til - fr)) = cu * (til - fr) := IntWalk.i64_in _ (by omega)
          clear hmo hmb
          by_cases hg : mo < cu * (til - fr)
          · have d1 : decide (mo < cu * (til - fr)) = true := decide_eq_true hg
            have Hst := Lib.hid (hst.1 hg)
            clear hst hg
            go_wp2_with (go_quiet (fail))
            go_roundg (gk - 1)
            case measure => have := Hk.out; omega
            case rel => exact ⟨k + 1, k, _, by have := Hk.out; omega, by go_num, rfl, rfl, Lib.hid Hst.out.1.symm, Lib.hid (by rw [if_neg (by omega), Hst.out.1, Hst.out.2]), hB.trans (below_drewN _ _ _)⟩
          · have d1 : decide (mo < cu * (til - fr)) = false := decide_eq_false hg
            have Hst := Lib.hid (hst.2 (by omega))
            clear hst hg
            go_wp2_with (go_quiet (fail))
            go_roundg (gk - 1)
            case measure => have := Hk.out; omega
            case rel => exact ⟨k + 1, bi, mo, by have := Hk.out; omega, by go_num, rfl, rfl, Lib.hid (by rw [Hst.out.1]; exact Hbi.out), Lib.hid (by rw [if_neg (by omega), Hst.out.1]; exact Hst.out.2), hB.trans (below_drewN _ _ _)⟩
        · have hkn : k = l.length := by have := Hk.out; omega
          subst hkn
          go_wp2_with (fail)
          go_ret2
          rw [HE.out, ← Hbi.out]
          exact ⟨rfl, hB⟩

set_option maxHeartbeats 2000000 in
theorem refSame22_any (w : World) (S T : Nat → Prop) (A B : Option Addr) (c d : Nat) (zs : List Out) (hs : SV w S A (recV outV zs)) (ht : SV w T B (recV outV zs)) (hl : zs.length ≤ 65536) :
    Calls Tryd.prog 85 #[.slice A zs.length c, .slice B zs.length d] w fun e w' => e = .returned (.bool true) ∧ Below w.heap.size w w' := by
  have hne : ((zs.length : Int) != zs.length) = false := by simp
  go_enter Tryd.func85, Tryd.ntmps85
  go_wp2_with (fail)
  go_loopg [5] zs.length (fun g i wr => ∃ k : Nat, k + g = zs.length ∧ i = .int .i64 k ∧ Below w.heap.size w wr)
  case atStart => exact ⟨0, by omega, rfl, Below.refl _ _⟩
  case round =>
    obtain ⟨k, hk, rfl, hb⟩ := hrel
    have Hk := Lib.hid hk
    clear hk
    by_cases hlt : k < zs.length
    · obtain ⟨b1, f1, rfl, _, hl1, q⟩ := (hs.keep (Kept.of_below hb)).rec outV_len (by decide) hlt
      obtain ⟨b2, f2, rfl, _, hl2, r⟩ := (ht.keep (Kept.of_below hb)).rec outV_len (by decide) hlt
      have a0 := q 0 _ rfl
      have a1 := q 1 _ rfl
      have a2 := q 2 _ rfl
      have a3 := q 3 _ rfl
      have r0 := r 0 _ rfl
      have r1 := r 1 _ rfl
      have r2 := r 2 _ rfl
      have r3 := r 3 _ rfl
      clear q r
      generalize zs[k] = z at *
      obtain ⟨z1, z2, z3, z4⟩ := z
      simp only [Nat.add_zero] at a0 r0 a1 a2 a3 r1 r2 r3
      go_wp2_with (go_quiet (fail))
      go_roundg (gk - 1)
      case measure => have := Hk.out; omega
      case rel => exact ⟨k + 1, by have := Hk.out; omega, by go_num, hb.trans (below_drewN _ _ nq)⟩
    · go_wp2_with (fail)
      go_ret
      exact ⟨rfl, hb⟩
end Go.Proofs.YtgpcojmdfmngeaaDoor

/-
  Walks of interruption.changes, Check, At.
  Moments of a time line: plain, in memory, and the walk of interruption.moments.
  Time lines, plain: what moments and spans without supply say, minute by minute.
  Outages, plain: their list, their sum, the longest.
  The walk of interruption.moments.
  The walk of interruption.without.
  The walk of interruption.Outages.
  Walks of calendar.Valid, interruption.check, minutes, Minutes, Long, Worst.
  The walk of interruption.Worst.
  What the laws of interruptions share: awake.
-/
import Derived.Test.YtgpcojmdfmngeaaDoorGa
import Derived.Test.YtgpcojmdfmngeaaDoorGe
import Derived.Test.YtgpcojmdfmngeaaDoorGf
import Derived.Defers
namespace Go.Proofs.YtgpcojmdfmngeaaDoor
open Go.RowKit
set_option maxHeartbeats 400000
set_option maxRecDepth 100000

/-- the first error of changes behind the time 'last' -/
def chgE (n : Nat) (most : Int) : List Chg → Int → Int
  | [], _ => 0
  | x :: xs, last => if x.t < last ∨ most < x.t then 11 else if x.dev < 0 ∨ (n : Int) ≤ x.dev then 8 else if x.pos ≠ 1 ∧ x.pos ≠ 2 then 10 else chgE n most xs x.t
def changesE (n : Nat) (most : Int) (xs : List Chg) : Int := if 4096 < xs.length then 1 else chgE n most xs 0
theorem chgE_drop (n : Nat) (most : Int) (xs : List Chg) (k : Nat) (h : k < xs.length) (last : Int) :
    chgE n most (xs.drop k) last = if xs[k].t < last ∨ most < xs[k].t then 11 else if xs[k].dev < 0 ∨ (n : Int) ≤ xs[k].dev then 8 else if xs[k].pos ≠ 1 ∧ xs[k].pos ≠ 2 then 10 else chgE n most (xs.drop (k + 1)) xs[k].t := by
  rw [List.drop_eq_getElem_cons h]; rfl

set_option maxHeartbeats 2000000 in
theorem changes_any (w : World) (A1 A2 : Option Addr) (n1 c1 n2 c2 : Nat) (S : Nat → Prop) (A : Option Addr) (c : Nat) (xs : List Chg) (hs : SV w S A (recV chgV xs)) (hl : xs.length ≤ 65536) (most : Int) :
    Calls Tryd.prog 148 #[.agg #[.slice A1 n1 c1, .slice A2 n2 c2], .slice A xs.length c, .int .i64 most] w fun e w' => e = .returned (.int .i64 (changesE n2 most xs)) ∧ Below w.heap.size w w' := by
  have hb := (Below.refl w.heap.size w).alloc (Nat.le_refl _) (.cells #[.slice A1 n1 c1, .slice A2 n2 c2] 26)
  have hbox : (w.alloc (.cells #[.slice A1 n1 c1, .slice A2 n2 c2] 26)).heap[w.heap.size]? = some (.cells #[.slice A1 n1 c1, .slice A2 n2 c2] 26 (0, 0)) := heap_alloc_new w _
  have hsz : (w.alloc (.cells #[.slice A1 n1 c1, .slice A2 n2 c2] 26)).heap.size = w.heap.size + 1 := by simp
  have hs1 := hs.keep (Kept.of_below hb)
  by_cases h4 : 4096 < xs.length
  · have hE : changesE n2 most xs = 1 := if_pos h4
    have h4d : decide ((4096 : Int) < xs.length) = true := decide_eq_true (by omega)
    rw [hE]
    go_enter Tryd.func148, Tryd.ntmps148
    go_wp2_with (fail)
    go_ret
    exact ⟨rfl, hb⟩
  · have HE := Lib.hid (show changesE n2 most xs = chgE n2 most xs 0 from if_neg h4)
    have h4d : decide ((4096 : Int) < xs.length) = false := decide_eq_false (by omega)
    rw [HE.out]
    go_enter Tryd.func148, Tryd.ntmps148
    go_wp2_with (fail)
    generalize w.alloc (.cells #[.slice A1 n1 c1, .slice A2 n2 c2] 26) = wb at *
    go_loopg [7, 15] xs.length (fun g s i wr => ∃ (k : Nat) (last : Int), k + g = xs.length ∧ i = .int .i64 k ∧ s = .int .i64 last ∧ chgE n2 most xs 0 = chgE n2 most (xs.drop k) last ∧ Below wb.heap.size wb wr)
    case atStart => exact ⟨0, 0, by omega, rfl, rfl, rfl, Below.refl _ _⟩
    case round =>
      obtain ⟨k, last, hk, rfl, rfl, hi, hB⟩ := hrel
      have Hk := Lib.hid hk
      have Hi := Lib.hid hi
      clear hk hi
      have b1 : wr.cell? ⟨w.heap.size, 1, none⟩ = some (.slice A2 n2 c2) := by
        rw [cell_of_row wr _ 1 _ _ _ ((hB.block w.heap.size (by omega)).trans hbox)]
        rfl
      have hwz : w.heap.size + 1 ≤ wr.heap.size := by have := hB.size; omega
      have hne : ¬ w.heap.size = wr.heap.size := by omega
      by_cases hlt : k < xs.length
      · obtain ⟨b, off, rfl, _, _, hc⟩ := (hs1.keep (Kept.of_below hB)).rec chgV_len (by decide) hlt
        have q0 := hc 0 _ rfl
        have q1 := hc 1 _ rfl
        have q2 := hc 2 _ rfl
        simp only [Nat.add_zero] at q0
        have hd := chgE_drop n2 most xs k hlt last
        clear hc
        generalize xs[k] = x at *
        obtain ⟨t, dv, ps⟩ := x
        have hbe := hb.trans ((hB.alloc hB.size (.cells #[.int .i64 t, .int .i64 dv, .int .i64 ps] 86)).mono (by omega))
        have hBn := hB.alloc hB.size (.cells #[.int .i64 t, .int .i64 dv, .int .i64 ps] 86)
        have b1 := (((Below.refl wr.heap.size wr).alloc (Nat.le_refl _) (.cells #[.int .i64 t, .int .i64 dv, .int .i64 ps] 86)).cell (p := ⟨w.heap.size, 1, none⟩) (by show w.heap.size < wr.heap.size; omega)).trans b1
        simp only at hd q0 q1 q2
        by_cases h1 : decide (t < last) = true
        · have Hd := Lib.hid (show chgE n2 most (xs.drop k) last = 11 by rw [hd, if_pos (.inl (by simpa using h1))])
          clear hd
          go_wp2_with (fail)
          go_ret
          exact ⟨by rw [Hi.out, Hd.out]; rfl, hbe⟩
        · have h1 : decide (t < last) = false := by simpa using h1
          by_cases h2 : decide (most < t) = true
          · have Hd := Lib.hid (show chgE n2 most (xs.drop k) last = 11 by rw [hd, if_pos (.inr (by simpa using h2))])
            clear hd
            go_wp2_with (fail)
            go_ret
            exact ⟨by rw [Hi.out, Hd.out]; rfl, hbe⟩
          · have h2 : decide (most < t) = false := by simpa using h2
            rw [if_neg (by simp at h1 h2; omega)] at hd
            by_cases h3 : decide (dv < 0) = true
            · have Hd := Lib.hid (show chgE n2 most (xs.drop k) last = 8 by rw [hd, if_pos (.inl (by simpa using h3))])
              clear hd
              go_wp2_with (fail)
              go_ret
              exact ⟨by rw [Hi.out, Hd.out]; rfl, hbe⟩
            · have h3 : decide (dv < 0) = false := by simpa using h3
              by_cases h4 : decide ((n2 : Int) ≤ dv) = true
              · have Hd := Lib.hid (show chgE n2 most (xs.drop k) last = 8 by rw [hd, if_pos (.inr (by simpa using h4))])
                clear hd
                go_wp2_with (fail)
                go_ret
                exact ⟨by rw [Hi.out, Hd.out]; rfl, hbe⟩
              · have h4 : decide ((n2 : Int) ≤ dv) = false := by simpa using h4
                rw [if_neg (by simp at h3 h4; omega)] at hd
                by_cases h5 : (ps != 1) = true
                · by_cases h6 : (ps != 2) = true
                  · have Hd := Lib.hid (show chgE n2 most (xs.drop k) last = 10 by rw [hd, if_pos ⟨by simpa using h5, by simpa using h6⟩])
                    clear hd
                    go_wp2_with (fail)
                    go_ret
                    exact ⟨by rw [Hi.out, Hd.out]; rfl, hbe⟩
                  · have h6 : (ps != 2) = false := by simpa using h6
                    have Hd := Lib.hid (show chgE n2 most (xs.drop k) last = chgE n2 most (xs.drop (k + 1)) t by rw [hd, if_neg (by simp at h6; simp [h6])])
                    clear hd
                    go_wp2_with (fail)
                    go_roundg (gk - 1)
                    case measure => have := Hk.out; omega
                    case rel => exact ⟨k + 1, t, by have := Hk.out; omega, by go_num, rfl, by rw [Hi.out, Hd.out], hBn⟩
                · have h5 : (ps != 1) = false := by simpa using h5
                  have Hd := Lib.hid (show chgE n2 most (xs.drop k) last = chgE n2 most (xs.drop (k + 1)) t by rw [hd, if_neg (by simp at h5; simp [h5])])
                  clear hd
                  go_wp2_with (fail)
                  go_roundg (gk - 1)
                  case measure => have := Hk.out; omega
                  case rel => exact ⟨k + 1, t, by have := Hk.out; omega, by go_num, rfl, by rw [Hi.out, Hd.out], hBn⟩
      · go_wp2_with (fail)
        go_ret
        refine ⟨?_, hb.trans (hB.mono (by omega))⟩
        rw [Hi.out, List.drop_of_length_le (by omega)]
        rfl

def checkE (ns : List Node) (ds : List Dev) (st : List Int) (xs : List Chg) (til : Int) : Int :=
  if maskC isPos ns ds st ≠ 0 then maskC isPos ns ds st else if til < 1 ∨ 16777216 < til then 11 else changesE ds.length (til - 1) xs

set_option maxHeartbeats 2000000 in
theorem icheck_any (w : World) (h : TabC w) (ht : Tab w) (S : Nat → Prop) (A1 A2 : Option Addr) (c1 c2 : Nat) (ns : List Node) (ds : List Dev) (hn : NetIn w S A1 A2 ns ds) (hl1 : ns.length ≤ 65536) (hl2 : ds.length ≤ 65536)
    (U : Option Addr) (cu : Nat) (st : List Int) (hs : SI w S U st) (hsl : st.length ≤ 65536) (T : Nat → Prop) (A : Option Addr) (c : Nat) (xs : List Chg) (hx : SV w T A (recV chgV xs)) (hxl : xs.length ≤ 65536) (til : Int) :
    Calls Tryd.prog 86 #[.agg #[.slice A1 ns.length c1, .slice A2 ds.length c2], .slice U st.length cu, .slice A xs.length c, .int .i64 til] w fun e w' => e = .returned (.int .i64 (checkE ns ds st xs til)) ∧ Below w.heap.size w w' := by
  have hb := (Below.refl w.heap.size w).alloc (Nat.le_refl _) (.cells #[.slice A1 ns.length c1, .slice A2 ds.length c2] 26)
  have HC := Lib.hid (mstate_any _ (h.below hb) (ht.below hb) S A1 A2 c1 c2 ns ds (hn.below hb) hl1 hl2 U cu st (hs.keep (Kept.of_below hb)) hsl)
  have HE := Lib.hid (show checkE ns ds st xs til = if maskC isPos ns ds st ≠ 0 then maskC isPos ns ds st else if til < 1 ∨ 16777216 < til then 11 else changesE ds.length (til - 1) xs from rfl)
  generalize maskC isPos ns ds st = ce at *
  by_cases h0 : (ce != 0) = true
  · have H0 := Lib.hid (show ¬ ce = 0 by simpa using h0)
    go_enter Tryd.func86, Tryd.ntmps86
    go_wp2_with (fail)
    refine (HC.out).mono ?_
    rintro e w1 ⟨rfl, hb1⟩
    go_wp2_with (fail)
    go_ret
    rw [HE.out, if_pos H0.out]
    exact ⟨rfl, hb.trans (hb1.mono hb.size)⟩
  · have h0' : (ce != 0) = false := by simpa using h0
    have hz : ce = 0 := by simpa using h0
    rw [if_neg (by simpa using hz)] at HE
    clear h0 hz
    by_cases h1 : decide (til < 1) = true
    · have HE := Lib.hid (show checkE ns ds st xs til = 11 by rw [HE.out, if_pos (.inl (by simpa using h1))])
      go_enter Tryd.func86, Tryd.ntmps86
      go_wp2_with (fail)
      refine (HC.out).mono ?_
      rintro e w1 ⟨rfl, hb1⟩
      go_wp2_with (fail)
      go_ret
      rw [HE.out]
      exact ⟨rfl, hb.trans (hb1.mono hb.size)⟩
    · have h1 : decide (til < 1) = false := by simpa using h1
      by_cases h2 : decide (16777216 < til) = true
      · have HE := Lib.hid (show checkE ns ds st xs til = 11 by rw [HE.out, if_pos (.inr (by simpa using h2))])
        go_enter Tryd.func86, Tryd.ntmps86
        go_wp2_with (fail)
        refine (HC.out).mono ?_
        rintro e w1 ⟨rfl, hb1⟩
        go_wp2_with (fail)
        go_ret
        rw [HE.out]
        exact ⟨rfl, hb.trans (hb1.mono hb.size)⟩
      · have h2 : decide (16777216 < til) = false := by simpa using h2
        have HE := Lib.hid (show checkE ns ds st xs til = changesE ds.length (til - 1) xs by rw [HE.out, if_neg (by simp at h1 h2; omega)])
        have hw1 : IntKind.i64.wrap (til - 1) = til - 1 := IntWalk.i64_in _ (by simp at h1 h2; omega)
        go_enter Tryd.func86, Tryd.ntmps86
        go_wp2_with (fail)
        refine (HC.out).mono ?_
        rintro e w1 ⟨rfl, hb1⟩
        have hbA := hb.trans (hb1.mono hb.size)
        have Hbox := Lib.hid (box_at hb1)
        have n0 : w1.cell? ⟨w.heap.size, 0, none⟩ = some (.slice A1 ns.length c1) := by rw [cell_of_row w1 _ 0 _ _ _ Hbox.out]; rfl
        have n1 : w1.cell? ⟨w.heap.size, 1, none⟩ = some (.slice A2 ds.length c2) := by rw [cell_of_row w1 _ 1 _ _ _ Hbox.out]; rfl
        have HQ := Lib.hid (changes_any w1 A1 A2 ns.length c1 ds.length c2 T A c xs (hx.keep (Kept.of_below hbA)) hxl (til - 1))
        go_wp2_with (fail)
        refine (HQ.out).mono ?_
        rintro e w2 ⟨rfl, hb2⟩
        go_wp2_with (fail)
        go_ret
        rw [HE.out]
        exact ⟨rfl, hbA.trans (hb2.mono hbA.size)⟩

/-- the state at a time -/
def putC (time : Int) : List Int → List Chg → List Int
  | st, [] => st
  | st, x :: xs => putC time (if x.t ≤ time then st.set x.dev.toNat x.pos else st) xs
theorem putC_drop (time : Int) (st : List Int) (xs : List Chg) (k : Nat) (h : k < xs.length) : putC time st (xs.drop k) = putC time (if xs[k].t ≤ time then st.set xs[k].dev.toNat xs[k].pos else st) (xs.drop (k + 1)) := by
  rw [List.drop_eq_getElem_cons h]; rfl
theorem chgE_zero {n : Nat} {most : Int} : ∀ {xs : List Chg} {last : Int}, chgE n most xs last = 0 → ∀ x ∈ xs, 0 ≤ x.dev ∧ x.dev < n ∧ (x.pos = 1 ∨ x.pos = 2)
  | [], _, _ => by simp
  | x :: xs, last, h => by
    unfold chgE at h
    split at h
    · cases h
    · split at h
      · cases h
      · split at h
        · cases h
        · rename_i h2 h3
          intro y hy
          rcases List.mem_cons.1 hy with rfl | hy
          · omega
          · exact chgE_zero h y hy

set_option maxHeartbeats 2000000 in
theorem At_ok (w : World) (h : TabC w) (ht : Tab w) (S : Nat → Prop) (A1 A2 : Option Addr) (c1 c2 : Nat) (ns : List Node) (ds : List Dev) (hn : NetIn w S A1 A2 ns ds) (hl1 : ns.length ≤ 65536) (hl2 : ds.length ≤ 65536)
    (U : Option Addr) (cu : Nat) (st : List Int) (hs : SI w S U st) (hm : maskC isPos ns ds st = 0) (T : Nat → Prop) (A : Option Addr) (c : Nat) (xs : List Chg) (hx : SV w T A (recV chgV xs)) (hce : changesE ds.length 9223372036854775807 xs = 0) (time : Int) :
    Calls Tryd.prog 88 #[.agg #[.slice A1 ns.length c1, .slice A2 ds.length c2], .slice U st.length cu, .slice A xs.length c, .int .i64 time] w (RetIE w (putC time st xs, 0)) := by
  obtain ⟨z1, z2, z3⟩ := maskC_zero hm
  have hxl : xs.length ≤ 4096 := by
    unfold changesE at hce
    split at hce
    · cases hce
    · omega
  have hcz : chgE ds.length 9223372036854775807 xs 0 = 0 := by
    unfold changesE at hce
    rw [if_neg (by omega)] at hce
    exact hce
  have Hd := Lib.hid (chgE_zero hcz)
  have hb := (Below.refl w.heap.size w).alloc (Nat.le_refl _) (.cells #[.slice A1 ns.length c1, .slice A2 ds.length c2] 26)
  have HC := mstate_any _ (h.below hb) (ht.below hb) S A1 A2 c1 c2 ns ds (hn.below hb) hl1 hl2 U cu st (hs.keep (Kept.of_below hb)) (by omega)
  rw [hm] at HC
  have HC := Lib.hid HC
  have Hce := Lib.hid hce
  have Z2 := Lib.hid z2
  have hstl : st.length ≤ 65536 := by omega
  clear hm hce hcz z1 z2 z3
  go_enter Tryd.func88, Tryd.ntmps88
  go_wp2_with (fail)
  refine (HC.out).mono ?_
  rintro e w1 ⟨rfl, hb1⟩
  have hbA := hb.trans (hb1.mono hb.size)
  have Hbox := Lib.hid (box_at hb1)
  have n0 : w1.cell? ⟨w.heap.size, 0, none⟩ = some (.slice A1 ns.length c1) := by rw [cell_of_row w1 _ 0 _ _ _ Hbox.out]; rfl
  have n1 : w1.cell? ⟨w.heap.size, 1, none⟩ = some (.slice A2 ds.length c2) := by rw [cell_of_row w1 _ 1 _ _ _ Hbox.out]; rfl
  have HQ := changes_any w1 A1 A2 ns.length c1 ds.length c2 T A c xs (hx.keep (Kept.of_below hbA)) (by omega) 9223372036854775807
  rw [Hce.out] at HQ
  have HQ := Lib.hid HQ
  go_wp2_with (fail)
  refine (HQ.out).mono ?_
  rintro e w2 ⟨rfl, hb2⟩
  have hbB := hbA.trans (hb2.mono hbA.size)
  clear n0 n1 Hbox HC HQ
  go_wp2_with (fail)
  refine (clone_any w2 S U cu st (hs.keep (Kept.of_below hbB)) hstl).mono ?_
  rintro e w3 ⟨A3, c3, rfl, ho3, hb3⟩
  have hbC := hbB.trans (hb3.mono hbB.size)
  have hx3 := (hx.mono (T := fun g => g < w2.heap.size) (fun g hl _ => by have := hbB.size; omega)).keep (Kept.of_below hbC)
  have ho3 : OI w3 (fun g => w2.heap.size ≤ g ∧ g < w3.heap.size) A3 c3 st := ho3.mono (fun g hl hg => ⟨hg, hl⟩)
  obtain ⟨z2, hz2⟩ : ∃ x, x = w2.heap.size := ⟨_, rfl⟩
  obtain ⟨z3, hz3⟩ : ∃ x, x = w3.heap.size := ⟨_, rfl⟩
  have hz23 : z2 ≤ z3 := by rw [hz2, hz3]; exact hb3.size
  have hwz : w.heap.size ≤ z2 := by rw [hz2]; exact hbB.size
  have hz3' : z3 ≤ w3.heap.size := by omega
  rw [← hz2] at hx3 ho3
  rw [← hz3] at ho3
  clear hz2 hz3 hb3 hbB hb2 hbA hb1
  go_wp2_with (fail)
  go_loopg [29] xs.length (fun g i wr => ∃ (k : Nat) (row : List Int), k + g = xs.length ∧ i = .int .i64 k ∧ row.length = st.length ∧ OI wr (fun g => z2 ≤ g ∧ g < z3) A3 c3 row ∧ SV wr (fun g => g < z2) A (recV chgV xs) ∧ putC time st xs = putC time row (xs.drop k) ∧ Below w.heap.size w wr ∧ z3 ≤ wr.heap.size)
  case atStart => exact ⟨0, st, by omega, rfl, rfl, ho3, hx3, rfl, hbC, hz3'⟩
  case round =>
    clear ho3 hx3 hbC
    obtain ⟨k, row, hk, rfl, hrl, ho, hxs, hp, hB, hzr⟩ := hrel
    have Hk := Lib.hid hk
    have Hrl := Lib.hid hrl
    have Hp := Lib.hid hp
    clear hk hrl hp
    by_cases hlt : k < xs.length
    · obtain ⟨b, off, rfl, hbz, _, hc⟩ := hxs.rec chgV_len (by decide) hlt
      have q0 := hc 0 _ rfl
      have q1 := hc 1 _ rfl
      have q2 := hc 2 _ rfl
      simp only [Nat.add_zero] at q0
      have hd := putC_drop time row xs k hlt
      have hdv := Hd.out xs[k] (List.getElem_mem hlt)
      clear hc
      generalize xs[k] = x at *
      obtain ⟨t, dv, ps⟩ := x
      simp only at hd hdv q0 q1 q2
      obtain ⟨dn, rfl⟩ := Int.eq_ofNat_of_zero_le hdv.1
      have hdr : dn < row.length := by rw [Hrl.out, Z2.out]; omega
      have hds : dn < st.length := by rw [Z2.out]; omega
      obtain ⟨g4, o4, rfl, hg4, hg4l, r1, r2⟩ := ho.at_ hdr
      have hne4 : ¬ g4 = wr.heap.size := by omega
      rw [Int.toNat_natCast] at hd
      by_cases h1 : decide (t ≤ time) = true
      · have Hd := Lib.hid (show putC time row (xs.drop k) = putC time (row.set dn ps) (xs.drop (k + 1)) by rw [hd, if_pos (by simpa using h1)])
        clear hd
        go_wp2_with (fail)
        go_roundg (gk - 1)
        case measure => have := Hk.out; omega
        case rel => exact ⟨k + 1, row.set dn ps, by have := Hk.out; omega, by go_num, by rw [List.length_set]; exact Hrl.out, (ho.set dn ps).keep (Kept.alloc _ _ _), (hxs.keep (Kept.setCell (p := ⟨g4, _, none⟩) (by show ¬ g4 < z2; omega) _)).keep (Kept.alloc _ _ _), by rw [Hp.out, Hd.out], (hB.setCell (p := ⟨g4, _, none⟩) (by show w.heap.size ≤ g4; omega) _).alloc (by have := hB.size; simpa [World.setCell] using this) _, by simp [World.setCell]; omega⟩
      · have h1 : decide (t ≤ time) = false := by simpa using h1
        have Hd := Lib.hid (show putC time row (xs.drop k) = putC time row (xs.drop (k + 1)) by rw [hd, if_neg (by simpa using h1)])
        clear hd
        go_wp2_with (fail)
        go_roundg (gk - 1)
        case measure => have := Hk.out; omega
        case rel => exact ⟨k + 1, row, by have := Hk.out; omega, by go_num, Hrl.out, ho.keep (Kept.alloc _ _ _), hxs.keep (Kept.alloc _ _ _), by rw [Hp.out, Hd.out], hB.alloc hB.size _, by simp; omega⟩
    · have hrow : putC time st xs = row := by rw [Hp.out, List.drop_of_length_le (by omega)]; rfl
      go_wp2_with (fail)
      go_ret2
      refine ⟨A3, c3, ?_, ?_, hB⟩
      · show _ = Ending.returned (.tuple #[.slice A3 (putC time st xs).length c3, .int .i64 0])
        rw [hrow, Hrl.out]; rfl
      · show OI _ _ _ _ (putC time st xs)
        rw [hrow]
        exact ho.mono (fun g _ hg => by have := hg.1; show w.heap.size ≤ g; omega)
end Go.Proofs.YtgpcojmdfmngeaaDoor

namespace Go.Proofs.YtgpcojmdfmngeaaDoor
open Go.RowKit
set_option maxHeartbeats 400000
set_option maxRecDepth 100000

/-- the changes of one time that stand ahead -/
def takeT (time : Int) : List Int → List Chg → List Int × List Chg
  | row, [] => (row, [])
  | row, x :: xs => if x.t = time then takeT time (row.set x.dev.toNat x.pos) xs else (row, x :: xs)
/-- the states behind the changes of each time -/
def momR : List Int → List Chg → List (Int × List Int)
  | _, [] => []
  | row, x :: xs => if (xs.head?.map (·.t)) = some x.t then momR (row.set x.dev.toNat x.pos) xs else (x.t, row.set x.dev.toNat x.pos) :: momR (row.set x.dev.toNat x.pos) xs
def momL (st : List Int) (xs : List Chg) : List (Int × List Int) := (0, (takeT 0 st xs).1) :: momR (takeT 0 st xs).1 (takeT 0 st xs).2
theorem momR_take : ∀ (xs : List Chg) (x : Chg) (row : List Int), momR row (x :: xs) = (x.t, (takeT x.t row (x :: xs)).1) :: momR (takeT x.t row (x :: xs)).1 (takeT x.t row (x :: xs)).2
  | [], x, row => by simp [momR, takeT]
  | y :: ys, x, row => by
    have e : takeT x.t row (x :: y :: ys) = takeT x.t (row.set x.dev.toNat x.pos) (y :: ys) := by simp [takeT]
    rw [e]
    by_cases h : y.t = x.t
    · have := momR_take ys y (row.set x.dev.toNat x.pos)
      rw [h] at this
      rw [← this]
      simp [momR, h]
    · have e2 : takeT x.t (row.set x.dev.toNat x.pos) (y :: ys) = (row.set x.dev.toNat x.pos, y :: ys) := by simp [takeT, h]
      rw [e2]
      conv => lhs; unfold momR
      simp [h]
theorem takeT_drop (time : Int) (row : List Int) (xs : List Chg) (k : Nat) (h : k < xs.length) : takeT time row (xs.drop k) = if xs[k].t = time then takeT time (row.set xs[k].dev.toNat xs[k].pos) (xs.drop (k + 1)) else (row, xs.drop k) := by
  rw [List.drop_eq_getElem_cons h]; rfl

abbrev MomR := Int × Option Addr × Nat × Nat
def momV (x : MomR) : List Value := [.int .i64 x.1, .slice x.2.1 x.2.2.1 x.2.2.2]
theorem momV_len (x : MomR) : (momV x).length = 2 := rfl
theorem momV_one (x : MomR) : ∀ u ∈ momV x, u.oneCell' = true := by
  intro u hu
  simp [momV] at hu
  rcases hu with rfl | rfl <;> rfl
theorem momInfo : (Tryd.prog.info? 162).map (fun i => (i.zero, i.size, i.bytes)) = some (some (.agg #[.int .i64 0, .slice none 0 0]), 2, 32) := by kernel_rfl
/-- moments that the call owns; their lists lie in other blocks -/
def OM (w : World) (S : Nat → Prop) (A : Option Addr) (c : Nat) (ms : List (Int × List Int)) : Prop :=
  ∃ vs : List MomR, OV w S 162 2 A vs.length c (recV momV vs) ∧ vs.length = ms.length ∧ ∀ (i : Nat) (v : MomR) (m : Int × List Int), vs[i]? = some v → ms[i]? = some m → v.1 = m.1 ∧ v.2.2.1 = m.2.length ∧ SI w (fun g => S g ∧ some g ≠ blockOf A) v.2.1 m.2
/-- moments that can be read -/
def SM (w : World) (S : Nat → Prop) (A : Option Addr) (ms : List (Int × List Int)) : Prop :=
  ∃ vs : List MomR, SV w S A (recV momV vs) ∧ vs.length = ms.length ∧ ∀ (i : Nat) (v : MomR) (m : Int × List Int), vs[i]? = some v → ms[i]? = some m → v.1 = m.1 ∧ v.2.2.1 = m.2.length ∧ SI w S v.2.1 m.2
theorem OM.nil (w : World) (S : Nat → Prop) : OM w S none 0 [] := ⟨[], OV.nil w S _ _, rfl, fun i v m h => by simp at h⟩
theorem OM.keep {w w' : World} {S : Nat → Prop} {A : Option Addr} {c : Nat} {ms : List (Int × List Int)} (h : OM w S A c ms) (k : Kept S w w') : OM w' S A c ms := by
  obtain ⟨vs, ho, hl, hr⟩ := h
  refine ⟨vs, OV.keep ho k, hl, fun i v m h1 h2 => ?_⟩
  obtain ⟨e1, e2, e3⟩ := hr i v m h1 h2
  exact ⟨e1, e2, e3.keep (k.mono (fun b hb => hb.1))⟩
theorem OM.sm {w : World} {S : Nat → Prop} {A : Option Addr} {c : Nat} {ms : List (Int × List Int)} (h : OM w S A c ms) : SM w S A ms := by
  obtain ⟨vs, ho, hl, hr⟩ := h
  refine ⟨vs, OV.sv ho, hl, fun i v m h1 h2 => ?_⟩
  obtain ⟨e1, e2, e3⟩ := hr i v m h1 h2
  exact ⟨e1, e2, e3.mono (fun b _ hb => hb.1)⟩
theorem SM.keep {w w' : World} {S : Nat → Prop} {A : Option Addr} {ms : List (Int × List Int)} (h : SM w S A ms) (k : Kept S w w') : SM w' S A ms := by
  obtain ⟨vs, ho, hl, hr⟩ := h
  refine ⟨vs, ho.keep k, hl, fun i v m h1 h2 => ?_⟩
  obtain ⟨e1, e2, e3⟩ := hr i v m h1 h2
  exact ⟨e1, e2, e3.keep k⟩
theorem SM.mono {w : World} {S T : Nat → Prop} {A : Option Addr} {ms : List (Int × List Int)} (h : SM w S A ms) (k : ∀ b, b < w.heap.size → S b → T b) : SM w T A ms := by
  obtain ⟨vs, ho, hl, hr⟩ := h
  refine ⟨vs, ho.mono k, hl, fun i v m h1 h2 => ?_⟩
  obtain ⟨e1, e2, e3⟩ := hr i v m h1 h2
  exact ⟨e1, e2, e3.mono k⟩
theorem SM.at_ {w : World} {S : Nat → Prop} {A : Option Addr} {ms : List (Int × List Int)} (h : SM w S A ms) {k : Nat} (hk : k < ms.length) :
    ∃ b off A' c', A = some ⟨b, off, none⟩ ∧ S b ∧ b < w.heap.size ∧ w.cell? ⟨b, off + k * 2, none⟩ = some (.int .i64 ms[k].1) ∧ w.cell? ⟨b, off + k * 2 + 1, none⟩ = some (.slice A' ms[k].2.length c') ∧ SI w S A' ms[k].2 := by
  obtain ⟨vs, ho, hl, hr⟩ := h
  have hkv : k < vs.length := by omega
  obtain ⟨e1, e2, e3⟩ := hr k vs[k] ms[k] (List.getElem?_eq_getElem hkv) (List.getElem?_eq_getElem hk)
  obtain ⟨b, off, rfl, hs, hb, hc⟩ := ho.rec momV_len (by decide) hkv
  have h0 := hc 0 _ rfl
  have h1 := hc 1 _ rfl
  rw [e1, Nat.add_zero] at h0
  rw [e2] at h1
  exact ⟨b, off, _, _, rfl, hs, hb, h0, h1, e3⟩
theorem mom_cells (w : World) (b : Nat) (hb : b = w.heap.size) (x : MomR) : ∀ j u, (momV x)[j]? = some u → (w.alloc (.cells (momV x).toArray 162)).cell? ⟨b, j, none⟩ = some u := fun j u hj => by
  subst hb
  rw [cell_of_row _ w.heap.size j _ _ _ (heap_alloc_new w _)]
  simpa using hj

/-- append of one moment -/
theorem wpList_pushM {w : World} {ops : Array Oper} {rest : List Oper} {o : Oper} {a : Act} {Q : Exit → Act → World → Prop} (hgd : o.guard = none) (s x : Operand)
    (ho : o.op = .call { callee := .builtin .append, args := #[s, x], argTypes := #[142, 142] })
    {B : Nat} {A A1 : Option Addr} {n b c c1 c2 : Nat} (t : Int) (ys : List Int) {ms : List (Int × List Int)} (hs : a.eval s = .slice A n c) (hx : a.eval x = .slice (some ⟨b, 0, none⟩) 1 c2) (hn : n = ms.length)
    (hown : OM w (fun g => B ≤ g) A c ms) (hc : ∀ j u, (momV (t, A1, ys.length, c1))[j]? = some u → w.cell? ⟨b, j, none⟩ = some u) (hrow : SI w (fun g => B ≤ g ∧ some g ≠ blockOf A) A1 ys) (hb : ms.length + 1 ≤ 65536) (hB : B ≤ w.heap.size)
    (h : ∀ A' c' w', OM w' (fun g => B ≤ g) A' c' (ms ++ [(t, ys)]) → Below B w w' → wpList Tryd.prog ops Q rest (a.put o.dst (.slice A' (ms.length + 1) c')) w') : wpList Tryd.prog ops Q (o :: rest) a w := by
  obtain ⟨vs, hov, hl, hr⟩ := hown
  refine wpList_pushRec momV_len (by decide) (B := B) 142 162 _ 32 Tryd.underlying142 momInfo rfl (by decide) hgd s x ho (xs := vs) (t, A1, ys.length, c1) (momV_one _) hs hx (by omega) hov hc (by omega) hB (fun A' c' w' h2 hbel h3 h4 => ?_)
  have key : ∀ (A2 : Option Addr) (zs : List Int), SI w (fun g => B ≤ g ∧ some g ≠ blockOf A) A2 zs → SI w' (fun g => B ≤ g ∧ some g ≠ blockOf A') A2 zs := by
    intro A2 zs hz
    have hz' : SI w (fun g => B ≤ g ∧ some g ≠ blockOf A ∧ some g ≠ blockOf A') A2 zs := hz.mono (fun g hl hg => ⟨hg.1, hg.2, by
      rcases h4 with e | e
      · rw [e]; exact hg.2
      · rw [e]; intro e'; injection e' with e'; omega⟩)
    exact (hz'.keep (Kept.grown h3 (fun g hg _ => hg.2.1))).mono (fun g _ hg => ⟨hg.1, hg.2.2⟩)
  have hfin := h A' c' w' ⟨vs ++ [(t, A1, ys.length, c1)], h2, by simp [hl], ?_⟩ hbel
  · rw [hl]
    exact hfin
  · intro i v m hv hm
    rw [List.getElem?_append] at hv hm
    by_cases hil : i < vs.length
    · rw [if_pos hil] at hv
      rw [if_pos (by omega)] at hm
      obtain ⟨e1, e2, e3⟩ := hr i v m hv hm
      exact ⟨e1, e2, key _ _ e3⟩
    · rw [if_neg hil] at hv
      rw [if_neg (by omega)] at hm
      have hi0 : i - vs.length = 0 := by
        have := (List.getElem?_eq_some_iff.1 hv).1
        simp at this
        omega
      rw [hi0] at hv
      rw [show i - ms.length = 0 by omega] at hm
      simp at hv hm
      subst hv hm
      exact ⟨rfl, rfl, key A1 ys hrow⟩
end Go.Proofs.YtgpcojmdfmngeaaDoor

namespace Go.Proofs.YtgpcojmdfmngeaaDoor
open Go.RowKit
set_option maxHeartbeats 400000

/-- spans of a node, from moment to moment -/
def witG (v : Int) (til : Int) : List (Int × List Int) → Int → List (Int × Int)
  | [], fr => if 0 ≤ fr then [(fr, til)] else []
  | m :: ms, fr => if m.2.contains v = true then (if 0 ≤ fr then (fr, m.1) :: witG v til ms (-1) else witG v til ms fr) else (if fr < 0 then witG v til ms m.1 else witG v til ms fr)
/-- spans minute by minute -/
def runG (f : Nat → Bool) : Nat → Nat → Int → List (Int × Int)
  | 0, t, fr => if 0 ≤ fr then [(fr, (t : Int))] else []
  | n + 1, t, fr => if f t = true then (if 0 ≤ fr then (fr, (t : Int)) :: runG f n (t + 1) (-1) else runG f n (t + 1) fr) else (if fr < 0 then runG f n (t + 1) t else runG f n (t + 1) fr)

theorem runG_up (f : Nat → Bool) : ∀ (m n t : Nat) (fr : Int), fr < 0 → (∀ s, t ≤ s → s < t + m → f s = true) → runG f (m + n) t fr = runG f n (t + m) fr
  | 0, n, t, fr, _, _ => by rw [Nat.zero_add, Nat.add_zero]
  | m + 1, n, t, fr, h, hf => by
    rw [show m + 1 + n = (m + n) + 1 by omega, runG, if_pos (hf t (by omega) (by omega)), if_neg (by omega), runG_up f m n (t + 1) fr h (fun s h1 h2 => hf s (by omega) (by omega)), show t + 1 + m = t + (m + 1) by omega]
theorem runG_down (f : Nat → Bool) : ∀ (m n t : Nat) (fr : Int), 0 ≤ fr → (∀ s, t ≤ s → s < t + m → f s = false) → runG f (m + n) t fr = runG f n (t + m) fr
  | 0, n, t, fr, _, _ => by rw [Nat.zero_add, Nat.add_zero]
  | m + 1, n, t, fr, h, hf => by
    rw [show m + 1 + n = (m + n) + 1 by omega, runG, if_neg (by rw [hf t (by omega) (by omega)]; simp), if_neg (by omega), runG_down f m n (t + 1) fr h (fun s h1 h2 => hf s (by omega) (by omega)), show t + 1 + m = t + (m + 1) by omega]

/-- the moments fit a function of time -/
def Fits (f : Nat → Bool) (v : Int) (til : Nat) : List (Int × List Int) → Nat → Prop
  | [], t => t = til
  | m :: ms, t => m.1 = (t : Int) ∧ ∃ t', t < t' ∧ t' ≤ til ∧ (∀ s, t ≤ s → s < t' → f s = m.2.contains v) ∧ Fits f v til ms t'
theorem wit_run (f : Nat → Bool) (v : Int) (til : Nat) : ∀ (ms : List (Int × List Int)) (t : Nat) (fr : Int), Fits f v til ms t → witG v til ms fr = runG f (til - t) t fr
  | [], t, fr, h => by
    have h : t = til := h
    subst h
    rw [Nat.sub_self]; rfl
  | m :: ms, t, fr, ⟨h1, t', h2, h3, hf, hr⟩ => by
    have e : til - t = (t' - t - 1 + (til - t')) + 1 := by omega
    have et : t + 1 + (t' - t - 1) = t' := by omega
    rw [e, runG, witG, h1, hf t (Nat.le_refl _) h2]
    by_cases hc : m.2.contains v = true
    · rw [if_pos hc, if_pos hc]
      have hup : ∀ s, t + 1 ≤ s → s < t + 1 + (t' - t - 1) → f s = true := fun s a b => by rw [hf s (by omega) (by omega)]; exact hc
      by_cases hfr : 0 ≤ fr
      · rw [if_pos hfr, if_pos hfr, wit_run f v til ms t' (-1) hr, runG_up f _ _ _ _ (by omega) hup, et]
      · rw [if_neg hfr, if_neg hfr, wit_run f v til ms t' fr hr, runG_up f _ _ _ _ (by omega) hup, et]
    · rw [if_neg hc, if_neg hc]
      have hdn : ∀ s, t + 1 ≤ s → s < t + 1 + (t' - t - 1) → f s = false := fun s a b => by rw [hf s (by omega) (by omega)]; simpa using hc
      by_cases hfr : fr < 0
      · rw [if_pos hfr, if_pos hfr, wit_run f v til ms t' _ hr, runG_down f _ _ _ _ (by omega) hdn, et]
      · rw [if_neg hfr, if_neg hfr, wit_run f v til ms t' fr hr, runG_down f _ _ _ _ (by omega) hdn, et]

/-- changes in order of time -/
def Asc : Int → List Chg → Prop
  | _, [] => True
  | last, x :: xs => last ≤ x.t ∧ Asc x.t xs
theorem Asc.mem : ∀ {xs : List Chg} {last : Int}, Asc last xs → ∀ x ∈ xs, last ≤ x.t
  | [], _, _ => by simp
  | y :: ys, last, h => by
    intro x hx
    rcases List.mem_cons.1 hx with rfl | hx
    · exact h.1
    · have := Asc.mem h.2 x hx
      have := h.1
      omega
theorem Asc.mono {a b : Int} (h : b ≤ a) : ∀ {xs : List Chg}, Asc a xs → Asc b xs
  | [], _ => trivial
  | x :: xs, k => ⟨by have := k.1; omega, k.2⟩
theorem putC_none (s : Int) : ∀ (xs : List Chg) (row : List Int), (∀ x ∈ xs, s < x.t) → putC s row xs = row
  | [], _, _ => rfl
  | x :: xs, row, h => by
    rw [putC, if_neg (by have := h x (by simp); omega)]
    exact putC_none s xs row (fun y hy => h y (by simp [hy]))
theorem putC_app (s : Int) : ∀ (xs ys : List Chg) (row : List Int), putC s row (xs ++ ys) = putC s (putC s row xs) ys
  | [], _, _ => rfl
  | _ :: xs, ys, _ => putC_app s xs ys _
theorem putC_len (s : Int) : ∀ (xs : List Chg) (row : List Int), (putC s row xs).length = row.length
  | [], _ => rfl
  | x :: xs, row => by
    rw [putC, putC_len]
    split <;> simp
theorem putC_pos (s : Int) : ∀ (xs : List Chg) (row : List Int), (∀ x ∈ xs, x.pos = 1 ∨ x.pos = 2) → (∀ p ∈ row, p = 1 ∨ p = 2) → ∀ p ∈ putC s row xs, p = 1 ∨ p = 2
  | [], _, _, h => h
  | x :: xs, row, hx, h => by
    rw [putC]
    refine putC_pos s xs _ (fun y hy => hx y (by simp [hy])) ?_
    split
    · intro p hp
      rcases List.mem_or_eq_of_mem_set hp with h1 | h1
      · exact h p h1
      · rw [h1]; exact hx x (by simp)
    · exact h
theorem takeT_asc (time : Int) : ∀ (xs : List Chg) (row : List Int), Asc time xs → ∀ row' xs', takeT time row xs = (row', xs') →
    (∀ x ∈ xs', time < x.t) ∧ Asc time xs' ∧ xs'.length ≤ xs.length ∧ (∀ x ∈ xs', x ∈ xs) ∧ ∀ s : Int, time ≤ s → putC s row xs = putC s row' xs'
  | [], row, _, row', xs', h => by
    simp only [takeT] at h
    injection h with h1 h2
    subst h1 h2
    exact ⟨by simp, trivial, Nat.le_refl _, by simp, fun _ _ => rfl⟩
  | x :: xs, row, ha, row', xs', h => by
    rw [takeT] at h
    by_cases ht : x.t = time
    · rw [if_pos ht] at h
      obtain ⟨h1, h2, h3, h4, h5⟩ := takeT_asc time xs _ (by have := ha.2; rw [ht] at this; exact this) row' xs' h
      exact ⟨h1, h2, by simp; omega, fun y hy => by simp [h4 y hy], fun s hs => by rw [putC, if_pos (by omega)]; exact h5 s hs⟩
    · rw [if_neg ht] at h
      injection h with e1 e2
      subst e1 e2
      have hx : time < x.t := by have := ha.1; omega
      refine ⟨fun y hy => ?_, ha, Nat.le_refl _, fun y hy => hy, fun _ _ => rfl⟩
      rcases List.mem_cons.1 hy with rfl | hy
      · exact hx
      · have := Asc.mem ha.2 y hy
        omega
theorem fits_mom (g : List Int → List Int) (v : Int) (til : Nat) (f : Nat → Bool) : ∀ (k : Nat) (xs : List Chg) (row : List Int) (t : Nat), xs.length ≤ k → Asc t xs → (∀ x ∈ xs, (t : Int) < x.t ∧ x.t < til) → t < til →
    (∀ s : Nat, t ≤ s → s < til → f s = (g (putC s row xs)).contains v) → Fits f v til ((((t : Int), row) :: momR row xs).map (fun p => (p.1, g p.2))) t
  | _, [], row, t, _, _, _, h, hf => ⟨rfl, til, h, Nat.le_refl _, fun s h1 h2 => hf s h1 h2, rfl⟩
  | 0, x :: xs, _, _, h, _, _, _, _ => by simp at h
  | k + 1, x :: xs, row, t, hk, ha, hx, h, hf => by
    rw [momR_take]
    have e : takeT x.t row (x :: xs) = takeT x.t (row.set x.dev.toNat x.pos) xs := by simp [takeT]
    obtain ⟨row', xs', hT⟩ : ∃ r y, takeT x.t (row.set x.dev.toNat x.pos) xs = (r, y) := ⟨_, _, rfl⟩
    rw [e, hT]
    obtain ⟨h1, h2, h3, h4, h5⟩ := takeT_asc x.t xs _ ha.2 row' xs' hT
    have hx0 := hx x (by simp)
    obtain ⟨t', ht'⟩ := Int.eq_ofNat_of_zero_le (show 0 ≤ x.t by omega)
    have hx1 := hx0
    rw [ht'] at hx1
    refine ⟨rfl, t', by omega, by omega, fun s a b => ?_, ?_⟩
    · rw [hf s a (by omega), putC_none]
      intro y hy
      rcases List.mem_cons.1 hy with rfl | hy
      · omega
      · have := Asc.mem ha.2 y hy
        omega
    · have hrec := fits_mom g v til f k xs' row' t' (by simp at hk; omega) (by rw [← ht']; exact h2) (fun y hy => ⟨by have := h1 y hy; omega, (hx y (by simp [h4 y hy])).2⟩) (by omega) (fun s a b => by
        rw [hf s (by omega) b, putC, if_pos (by omega), h5 s (by omega)])
      rw [← ht'] at hrec
      exact hrec
theorem fits_momL (g : List Int → List Int) (v : Int) (til : Nat) (f : Nat → Bool) (st : List Int) (xs : List Chg) (ha : Asc 0 xs) (hx : ∀ x ∈ xs, x.t < til) (h : 0 < til)
    (hf : ∀ s : Nat, s < til → f s = (g (putC s st xs)).contains v) : Fits f v til ((momL st xs).map (fun p => (p.1, g p.2))) 0 := by
  unfold momL
  obtain ⟨row', xs', hT⟩ : ∃ r y, takeT 0 st xs = (r, y) := ⟨_, _, rfl⟩
  rw [hT]
  obtain ⟨h1, h2, h3, h4, h5⟩ := takeT_asc 0 xs _ ha row' xs' hT
  exact fits_mom g v til f xs'.length xs' row' 0 (Nat.le_refl _) h2 (fun x hx' => ⟨h1 x hx', hx x (h4 x hx')⟩) h (fun s _ b => by rw [hf s b, h5 s (by omega)])
theorem chgE_asc {n : Nat} {most : Int} : ∀ {xs : List Chg} {last : Int}, chgE n most xs last = 0 → Asc last xs ∧ ∀ x ∈ xs, x.t ≤ most
  | [], _, _ => ⟨trivial, by simp⟩
  | x :: xs, last, h => by
    unfold chgE at h
    split at h
    · cases h
    · rename_i h1
      split at h
      · cases h
      · split at h
        · cases h
        · obtain ⟨a, b⟩ := chgE_asc h
          refine ⟨⟨by omega, a⟩, fun y hy => ?_⟩
          rcases List.mem_cons.1 hy with rfl | hy
          · omega
          · exact b y hy

theorem runG_ok (f : Nat → Bool) : ∀ (n t : Nat) (fr : Int), fr < t → ∀ p ∈ runG f n t fr, 0 ≤ p.1 ∧ p.1 < p.2 ∧ p.2 ≤ (t : Int) + n ∧ (fr < 0 → (t : Int) ≤ p.1)
  | 0, t, fr, h => by
    intro p hp
    rw [runG] at hp
    split at hp
    · simp at hp
      subst hp
      refine ⟨by omega, h, by simp, by omega⟩
    · simp at hp
  | n + 1, t, fr, h => by
    intro p hp
    rw [runG] at hp
    split at hp
    · split at hp
      · rcases List.mem_cons.1 hp with rfl | hp
        · exact ⟨by omega, h, by simp; omega, by omega⟩
        · have := runG_ok f n (t + 1) (-1) (by omega) p hp
          omega
      · have := runG_ok f n (t + 1) fr (by omega) p hp
        omega
    · split at hp
      · have := runG_ok f n (t + 1) t (by omega) p hp
        have h2 : (t : Int) ≤ p.1 := by
          clear this
          exact runG_from f n (t + 1) t (by omega) (by omega) p hp
        omega
      · have := runG_ok f n (t + 1) fr (by omega) p hp
        omega
where
  runG_from (f : Nat → Bool) : ∀ (n t : Nat) (fr : Int), 0 ≤ fr → fr < t → ∀ p ∈ runG f n t fr, fr ≤ p.1
    | 0, t, fr, h0, h => by
      intro p hp
      rw [runG, if_pos h0] at hp
      simp at hp
      subst hp
      exact Int.le_refl _
    | n + 1, t, fr, h0, h => by
      intro p hp
      rw [runG] at hp
      split at hp
      · rcases List.mem_cons.1 hp with rfl | hp
        · exact Int.le_refl _
        · have := runG_low f n (t + 1) (-1) (by omega) p hp
          omega
      · rw [if_neg (by omega)] at hp
        exact runG_from f n (t + 1) fr h0 (by omega) p hp
  runG_low (f : Nat → Bool) : ∀ (n t : Nat) (fr : Int), fr < 0 → ∀ p ∈ runG f n t fr, (t : Int) ≤ p.1
    | 0, t, fr, h => by
      intro p hp
      rw [runG, if_neg (by omega)] at hp
      simp at hp
    | n + 1, t, fr, h => by
      intro p hp
      rw [runG] at hp
      split at hp
      · rw [if_neg (by omega)] at hp
        have := runG_low f n (t + 1) fr h p hp
        omega
      · exact runG_from f n (t + 1) t (by omega) (by omega) p hp
theorem runG_few (f : Nat → Bool) : ∀ (n t : Nat) (fr : Int), (runG f n t fr).length ≤ n + 1
  | 0, t, fr => by rw [runG]; split <;> simp
  | n + 1, t, fr => by
    have h1 := runG_few f n (t + 1) (-1)
    have h2 := runG_few f n (t + 1) fr
    have h3 := runG_few f n (t + 1) t
    rw [runG]
    split
    · split
      · simp; omega
      · omega
    · split <;> omega
theorem witG_few (v til : Int) : ∀ (ms : List (Int × List Int)) (fr : Int), (witG v til ms fr).length ≤ ms.length + 1
  | [], fr => by rw [witG]; split <;> simp
  | m :: ms, fr => by
    have h1 := witG_few v til ms (-1)
    have h2 := witG_few v til ms fr
    have h3 := witG_few v til ms m.1
    rw [witG]
    split
    · split
      · simp; omega
      · simp; omega
    · split <;> simp <;> omega
theorem runG_congr {f f' : Nat → Bool} : ∀ (n t : Nat) (fr : Int), (∀ s, t ≤ s → s < t + n → f s = f' s) → runG f n t fr = runG f' n t fr
  | 0, _, _, _ => rfl
  | n + 1, t, fr, h => by
    rw [runG, runG, h t (by omega) (by omega), runG_congr n (t + 1) (-1) (fun s a b => h s (by omega) (by omega)), runG_congr n (t + 1) fr (fun s a b => h s (by omega) (by omega)), runG_congr n (t + 1) t (fun s a b => h s (by omega) (by omega))]
/-- how many minutes are without -/
def cntG (f : Nat → Bool) : Nat → Nat → Int
  | 0, _ => 0
  | n + 1, t => (if f t = true then 0 else 1) + cntG f n (t + 1)
theorem cntG_congr {f f' : Nat → Bool} : ∀ (n t : Nat), (∀ s, t ≤ s → s < t + n → f s = f' s) → cntG f n t = cntG f' n t
  | 0, _, _ => rfl
  | n + 1, t, h => by rw [cntG, cntG, h t (by omega) (by omega), cntG_congr n (t + 1) (fun s a b => h s (by omega) (by omega))]
theorem cntG_add (f : Nat → Bool) : ∀ (m n t : Nat), cntG f (m + n) t = cntG f m t + cntG f n (t + m)
  | 0, n, t => by simp [cntG]
  | m + 1, n, t => by rw [show m + 1 + n = (m + n) + 1 by omega, cntG, cntG, cntG_add f m n (t + 1), show t + 1 + m = t + (m + 1) by omega, Int.add_assoc]
theorem cntG_shift (f : Nat → Bool) (a : Nat) : ∀ (n t : Nat), cntG (fun s => f (a + s)) n t = cntG f n (a + t)
  | 0, _ => rfl
  | n + 1, t => by rw [cntG, cntG, cntG_shift f a n (t + 1), Nat.add_assoc]
theorem cntG_le (f : Nat → Bool) : ∀ (n t : Nat), 0 ≤ cntG f n t ∧ cntG f n t ≤ n
  | 0, _ => by simp [cntG]
  | n + 1, t => by
    have := cntG_le f n (t + 1)
    rw [cntG]
    split <;> simp <;> omega
theorem runG_sum (f : Nat → Bool) : ∀ (n t : Nat) (fr : Int), ((runG f n t fr).map (fun p => p.2 - p.1)).sum = cntG f n t + (if 0 ≤ fr then (t : Int) - fr else 0)
  | 0, t, fr => by
    rw [runG, cntG]
    split <;> simp
  | n + 1, t, fr => by
    have h1 := runG_sum f n (t + 1) (-1)
    have h2 := runG_sum f n (t + 1) fr
    have h3 := runG_sum f n (t + 1) t
    rw [if_neg (by omega)] at h1
    rw [if_pos (by omega)] at h3
    rw [runG, cntG]
    by_cases hf : f t = true
    · rw [if_pos hf, if_pos hf]
      by_cases hr : 0 ≤ fr
      · rw [if_pos hr, if_pos hr, List.map_cons, List.sum_cons, h1]
        omega
      · rw [if_neg hr, if_neg hr, h2, if_neg hr]
        omega
    · rw [if_neg hf, if_neg hf]
      by_cases hr : fr < 0
      · rw [if_pos hr, h3, if_neg (by omega)]
        omega
      · rw [if_neg hr, h2, if_pos (by omega), if_pos (by omega)]
        omega
end Go.Proofs.YtgpcojmdfmngeaaDoor

namespace Go.Proofs.YtgpcojmdfmngeaaDoor
open Go.RowKit
set_option maxHeartbeats 400000

/-- an outage -/
structure Out where
  node : Int
  cust : Int
  fr : Int
  til : Int
deriving DecidableEq
def outV (x : Out) : List Value := [.int .i64 x.node, .int .i64 x.cust, .int .i64 x.fr, .int .i64 x.til]
def catN {α : Type} (h : Nat → List α) : Nat → List α
  | 0 => []
  | k + 1 => catN h k ++ h k
theorem catN_congr {α : Type} {h h' : Nat → List α} : ∀ (k : Nat), (∀ i, i < k → h i = h' i) → catN h k = catN h' k
  | 0, _ => rfl
  | k + 1, e => by rw [catN, catN, catN_congr k (fun i hi => e i (by omega)), e k (by omega)]
theorem catN_mem {α : Type} {h : Nat → List α} : ∀ {k : Nat} {x : α}, x ∈ catN h k → ∃ i, i < k ∧ x ∈ h i
  | 0, _, hx => by simp [catN] at hx
  | k + 1, x, hx => by
    rw [catN, List.mem_append] at hx
    rcases hx with hx | hx
    · obtain ⟨i, h1, h2⟩ := catN_mem hx
      exact ⟨i, by omega, h2⟩
    · exact ⟨k, by omega, hx⟩
theorem catN_few {α : Type} {h : Nat → List α} {m : Nat} : ∀ (k : Nat), (∀ i, i < k → (h i).length ≤ m) → (catN h k).length ≤ k * m
  | 0, _ => by simp [catN]
  | k + 1, e => by
    have h1 := catN_few k (fun i hi => e i (by omega))
    have h2 := e k (by omega)
    rw [catN, List.length_append, Nat.add_mul]
    omega
def mkOut (v : Nat) (cu : Int) (p : Int × Int) : Out := ⟨v, cu, p.1, p.2⟩
/-- what moments give for a node -/
def outsW (ns : List Node) (ms : List (Int × List Int)) (til : Int) (v : Nat) : List Out := if custAt ns v = 0 then [] else (witG v til ms (-1)).map (mkOut v (custAt ns v))
/-- what minutes give for a node -/
def outsR (ns : List Node) (F : Nat → Nat → Bool) (til : Nat) (v : Nat) : List Out := if custAt ns v = 0 then [] else (runG (F v) til 0 (-1)).map (mkOut v (custAt ns v))
def supF (ns : List Node) (ds : List Dev) (st : List Int) (xs : List Chg) (v s : Nat) : Bool := (supL ns ds (putC s st xs)).contains (v : Int)
def supM (ns : List Node) (ds : List Dev) (p : Int × List Int) : Int × List Int := (p.1, supL ns ds p.2)
def outL (ns : List Node) (F : Nat → Nat → Bool) (til : Nat) : List Out := catN (outsR ns F til) ns.length
theorem outs_eq (ns : List Node) (ds : List Dev) (st : List Int) (xs : List Chg) (til : Nat) (ha : Asc 0 xs) (hx : ∀ x ∈ xs, x.t < til) (h : 0 < til) (k : Nat) :
    catN (outsW ns ((momL st xs).map (supM ns ds)) til) k = catN (outsR ns (supF ns ds st xs) til) k := by
  refine catN_congr k (fun v _ => ?_)
  unfold outsW outsR
  split
  · rfl
  · congr 1
    have := wit_run (supF ns ds st xs v) v til _ 0 (-1) (fits_momL (supL ns ds) v til (supF ns ds st xs v) st xs ha hx h (fun s _ => rfl))
    exact this

/-- an outage within a time line -/
def OkO (til : Int) (o : Out) : Prop := 0 ≤ o.fr ∧ o.fr < o.til ∧ o.til ≤ til ∧ 0 ≤ o.cust ∧ o.cust ≤ 1048576
theorem outL_ok {ns : List Node} {F : Nat → Nat → Bool} {til : Nat} (hc : ∀ x ∈ ns, 0 ≤ x.cust ∧ x.cust ≤ 1048576) : ∀ o ∈ outL ns F til, OkO til o := by
  intro o ho
  obtain ⟨v, hv, h⟩ := catN_mem ho
  unfold outsR at h
  split at h
  · simp at h
  · rw [List.mem_map] at h
    obtain ⟨p, hp, rfl⟩ := h
    have := runG_ok (F v) til 0 (-1) (by omega) p hp
    have e : custAt ns v = ns[v].cust := custAt_nat hv
    have := hc ns[v] (List.getElem_mem hv)
    refine ⟨by show 0 ≤ p.1; omega, by show p.1 < p.2; omega, by show p.2 ≤ til; omega, ?_, ?_⟩
    · show 0 ≤ custAt ns v
      omega
    · show custAt ns v ≤ _
      omega
theorem outL_few (ns : List Node) (F : Nat → Nat → Bool) (til : Nat) : (outL ns F til).length ≤ ns.length * (til + 1) := by
  refine catN_few ns.length (fun v _ => ?_)
  unfold outsR
  split
  · simp
  · rw [List.length_map]
    exact runG_few (F v) til 0 (-1)

def minO (o : Out) : Int := o.cust * (o.til - o.fr)
def minL (l : List Out) : Int := (l.map minO).sum
def longL (k : Int) (l : List Out) : Int := (l.map (fun o => if k < o.til - o.fr then o.cust else 0)).sum
/-- customers, weighed -/
def sumC (ns : List Node) (c : Nat → Int) : Nat → Int
  | 0 => 0
  | k + 1 => sumC ns c k + custAt ns k * c k
theorem sumC_congr (ns : List Node) {c c' : Nat → Int} : ∀ (k : Nat), (∀ i, i < k → c i = c' i) → sumC ns c k = sumC ns c' k
  | 0, _ => rfl
  | k + 1, e => by rw [sumC, sumC, sumC_congr ns k (fun i hi => e i (by omega)), e k (by omega)]
theorem sumC_add (ns : List Node) (c c' : Nat → Int) : ∀ (k : Nat), sumC ns (fun v => c v + c' v) k = sumC ns c k + sumC ns c' k
  | 0 => rfl
  | k + 1 => by rw [sumC, sumC, sumC, sumC_add ns c c' k, Int.mul_add]; omega
theorem sum_scale (cu : Int) (v : Nat) : ∀ (l : List (Int × Int)), ((l.map (mkOut v cu)).map minO).sum = cu * (l.map (fun p => p.2 - p.1)).sum
  | [] => by simp
  | p :: l => by
    rw [List.map_cons, List.map_cons, List.sum_cons, sum_scale cu v l, List.map_cons, List.sum_cons, Int.mul_add]
    rfl
theorem min_outs (ns : List Node) (F : Nat → Nat → Bool) (til : Nat) : ∀ (k : Nat), minL (catN (outsR ns F til) k) = sumC ns (fun v => cntG (F v) til 0) k
  | 0 => rfl
  | k + 1 => by
    have ih := min_outs ns F til k
    unfold minL at *
    rw [catN, List.map_append, List.sum_append, ih, sumC]
    congr 1
    unfold outsR
    split
    · rename_i h
      rw [h]; simp
    · rw [sum_scale, runG_sum, if_neg (by omega), Int.add_zero]
/-- the index of the first greatest of the first k + 1 -/
def bestN (f : Nat → Int) : Nat → Nat
  | 0 => 0
  | k + 1 => if f (bestN f k) < f k then k else bestN f k
theorem bestN_lt (f : Nat → Int) : ∀ (k : Nat), bestN f k < k + 1 ∧ (0 < k → bestN f k < k)
  | 0 => by simp [bestN]
  | k + 1 => by
    have := bestN_lt f k
    rw [bestN]
    split <;> omega
theorem bestN_max (f : Nat → Int) : ∀ (k i : Nat), i < k → f i ≤ f (bestN f k)
  | 0, i, h => by omega
  | k + 1, i, h => by
    rw [bestN]
    by_cases hi : i = k
    · subst hi
      split <;> omega
    · have := bestN_max f k i (by omega)
      split <;> omega
def minAt (l : List Out) (i : Nat) : Int := ((l[i]?).map minO).getD 0
theorem minAt_get {l : List Out} {i : Nat} (h : i < l.length) : minAt l i = minO l[i] := by simp [minAt, List.getElem?_eq_getElem h]
/-- the greatest one has at least the average -/
theorem best_avg (l : List Out) (m : Int) (h : ∀ o ∈ l, minO o ≤ m) : minL l ≤ m * l.length := by
  induction l with
  | nil => simp [minL]
  | cons o l ih =>
    have := ih (fun x hx => h x (by simp [hx]))
    have h2 := h o (by simp)
    unfold minL at *
    rw [List.map_cons, List.sum_cons, List.length_cons, Int.natCast_add, Int.mul_add]
    omega
/-- the first error of outages -/
def outErr : List Out → Int
  | [] => 0
  | o :: l => if 0 ≤ o.fr ∧ o.fr < o.til ∧ o.til ≤ 16777216 then (if o.cust < 0 ∨ 1048576 < o.cust then 5 else outErr l) else 11
def outsE (l : List Out) : Int := if 4096 < l.length then 1 else outErr l
theorem outErr_drop (l : List Out) (k : Nat) (h : k < l.length) : outErr (l.drop k) = if 0 ≤ l[k].fr ∧ l[k].fr < l[k].til ∧ l[k].til ≤ 16777216 then (if l[k].cust < 0 ∨ 1048576 < l[k].cust then 5 else outErr (l.drop (k + 1))) else 11 := by
  rw [List.drop_eq_getElem_cons h]; rfl
theorem outErr_zero : ∀ {l : List Out}, outErr l = 0 → ∀ o ∈ l, OkO 16777216 o
  | [], _ => by simp
  | o :: l, h => by
    rw [outErr] at h
    split at h
    · rename_i h1
      split at h
      · cases h
      · rename_i h2
        intro x hx
        rcases List.mem_cons.1 hx with rfl | hx
        · exact ⟨h1.1, h1.2.1, h1.2.2, by omega, by omega⟩
        · exact outErr_zero h x hx
    · cases h
theorem outErr_ok : ∀ {l : List Out}, (∀ o ∈ l, OkO 16777216 o) → outErr l = 0
  | [], _ => rfl
  | o :: l, h => by
    obtain ⟨h1, h2, h3, h4, h5⟩ := h o (by simp)
    rw [outErr, if_pos ⟨h1, h2, h3⟩, if_neg (by omega)]
    exact outErr_ok (fun x hx => h x (by simp [hx]))
theorem minO_bound {o : Out} (h : OkO 16777216 o) : 0 ≤ minO o ∧ minO o ≤ 17592186044416 := by
  obtain ⟨h1, h2, h3, h4, h5⟩ := h
  have a : 0 ≤ o.til - o.fr := by omega
  have b : o.til - o.fr ≤ 16777216 := by omega
  refine ⟨Int.mul_nonneg h4 a, ?_⟩
  have := Int.mul_le_mul h5 b a (by decide)
  exact this
theorem minL_bound : ∀ {l : List Out}, (∀ o ∈ l, OkO 16777216 o) → 0 ≤ minL l ∧ minL l ≤ 17592186044416 * l.length
  | [], _ => by simp [minL]
  | o :: l, h => by
    have h1 := minO_bound (h o (by simp))
    have h2 := minL_bound (l := l) (fun x hx => h x (by simp [hx]))
    unfold minL at *
    rw [List.map_cons, List.sum_cons, List.length_cons]
    omega
theorem longL_bound (k : Int) : ∀ {l : List Out}, (∀ o ∈ l, OkO 16777216 o) → 0 ≤ longL k l ∧ longL k l ≤ 1048576 * l.length
  | [], _ => by simp [longL]
  | o :: l, h => by
    obtain ⟨_, _, _, h4, h5⟩ := h o (by simp)
    have h2 := longL_bound k (l := l) (fun x hx => h x (by simp [hx]))
    unfold longL at *
    rw [List.map_cons, List.sum_cons, List.length_cons]
    split <;> omega
theorem minL_take (l : List Out) (k : Nat) (h : k < l.length) : minL (l.take (k + 1)) = minL (l.take k) + minO l[k] := by
  unfold minL
  rw [List.take_succ_eq_append_getElem h, List.map_append, List.sum_append]
  simp
theorem longL_take (m : Int) (l : List Out) (k : Nat) (h : k < l.length) : longL m (l.take (k + 1)) = longL m (l.take k) + (if m < l[k].til - l[k].fr then l[k].cust else 0) := by
  unfold longL
  rw [List.take_succ_eq_append_getElem h, List.map_append, List.sum_append]
  simp
theorem longL_all {l : List Out} (h : ∀ o ∈ l, OkO 16777216 o) : longL (-1) l = (l.map (·.cust)).sum := by
  unfold longL
  congr 1
  refine List.map_congr_left (fun o ho => ?_)
  have := h o ho
  rw [if_pos (by have := this.2.1; omega)]
theorem longL_none {l : List Out} {k : Int} (h : ∀ o ∈ l, OkO k o) : longL k l = 0 := by
  induction l with
  | nil => rfl
  | cons o l ih =>
    have h1 := h o (by simp)
    have := ih (fun x hx => h x (by simp [hx]))
    unfold longL at *
    rw [List.map_cons, List.sum_cons, this, if_neg (by have := h1.1; have := h1.2.2.1; omega)]
    rfl
end Go.Proofs.YtgpcojmdfmngeaaDoor

namespace Go.Proofs.YtgpcojmdfmngeaaDoor
open Go.RowKit
set_option maxHeartbeats 400000
set_option maxRecDepth 100000

theorem takeT_len (time : Int) : ∀ (xs : List Chg) (row : List Int), (takeT time row xs).2.length ≤ xs.length
  | [], _ => Nat.le_refl _
  | x :: xs, row => by
    unfold takeT
    split
    · have := takeT_len time xs (row.set x.dev.toNat x.pos)
      simp; omega
    · exact Nat.le_refl _
theorem take_more {xs : List Chg} {k k' : Nat} {row row' : List Int} (hk : k < xs.length) (h : takeT xs[k].t row (xs.drop k) = (row', xs.drop k')) : k + 1 ≤ k' := by
  rw [takeT_drop _ _ _ _ hk, if_pos rfl] at h
  have h1 := takeT_len xs[k].t (xs.drop (k + 1)) (row.set xs[k].dev.toNat xs[k].pos)
  rw [h] at h1
  simp at h1
  omega

theorem SV.recAt {α : Type} {f : α → List Value} {m : Nat} {w : World} {S : Nat → Prop} {b off : Nat} {xs : List α} (h : SV w S (some ⟨b, off, none⟩) (recV f xs)) (hf : ∀ x, (f x).length = m) (hm : 0 < m) {k : Nat} (hk : k < xs.length) :
    ∀ j u, (f xs[k])[j]? = some u → w.cell? ⟨b, off + k * m + j, none⟩ = some u := by
  obtain ⟨b', off', e, _, _, hc⟩ := h.rec hf hm hk
  injection e with e
  injection e with e e'
  subst e e'
  exact hc

set_option maxHeartbeats 8000000 in
theorem moments_ok (w : World) (h : TabC w) (ht : Tab w) (S : Nat → Prop) (A1 A2 : Option Addr) (c1 c2 : Nat) (ns : List Node) (ds : List Dev) (hn : NetIn w S A1 A2 ns ds) (hc : checkL ns ds = 0)
    (U : Option Addr) (cu : Nat) (st : List Int) (hs : SI w S U st) (hsl : st.length = ds.length) (hsp : ∀ x ∈ st, x = 1 ∨ x = 2) (T : Nat → Prop) (A : Option Addr) (c : Nat) (xs : List Chg) (hx : SV w T A (recV chgV xs)) (hxl : xs.length ≤ 4096)
    (hdv : ∀ x ∈ xs, 0 ≤ x.dev ∧ x.dev < ds.length ∧ (x.pos = 1 ∨ x.pos = 2)) :
    Calls Tryd.prog 145 #[.agg #[.slice A1 ns.length c1, .slice A2 ds.length c2], .slice U st.length cu, .slice A xs.length c] w fun e w' =>
      ∃ A' c', e = .returned (.slice A' (momL st xs).length c') ∧ SM w' (fun g => w.heap.size ≤ g) A' ((momL st xs).map (supM ns ds)) ∧ (momL st xs).length ≤ xs.length + 1 ∧ Below w.heap.size w w' := by
  have hb := (Below.refl w.heap.size w).alloc (Nat.le_refl _) (.cells #[.slice A1 ns.length c1, .slice A2 ds.length c2] 26)
  have hbox : (w.alloc (.cells #[.slice A1 ns.length c1, .slice A2 ds.length c2] 26)).heap[w.heap.size]? = some (.cells #[.slice A1 ns.length c1, .slice A2 ds.length c2] 26 (0, 0)) := heap_alloc_new w _
  have hbz : w.heap.size ≤ (w.alloc (.cells #[.slice A1 ns.length c1, .slice A2 ds.length c2] 26)).heap.size := hb.size
  have b0 : (w.alloc (.cells #[.slice A1 ns.length c1, .slice A2 ds.length c2] 26)).cell? ⟨w.heap.size, 0, none⟩ = some (.slice A1 ns.length c1) := by rw [cell_of_row _ _ 0 _ _ _ hbox]; rfl
  have b1 : (w.alloc (.cells #[.slice A1 ns.length c1, .slice A2 ds.length c2] 26)).cell? ⟨w.heap.size, 1, none⟩ = some (.slice A2 ds.length c2) := by rw [cell_of_row _ _ 1 _ _ _ hbox]; rfl
  have hn1 := hn.below hb
  have hdevs := (checkL_zero hc).dev
  have Hc := Lib.hid hc
  have Hsl := Lib.hid hsl
  have Hdv := Lib.hid hdv
  have hstl : st.length ≤ 65536 := by omega
  have HQ := Lib.hid (clone_any _ S U cu st (hs.keep (Kept.of_below hb)) hstl)
  have hxb := (hx.mono (T := fun g => g < w.heap.size) (fun g hl _ => hl)).keep (Kept.of_below hb)
  clear hc hsl hdv hn hs hx hbox
  go_enter Tryd.func145, Tryd.ntmps145
  go_wp2_with (fail)
  generalize w.alloc (.cells #[.slice A1 ns.length c1, .slice A2 ds.length c2] 26) = wb at *
  refine HQ.out.mono ?_
  rintro e w3 ⟨A3, c3, rfl, ho3, hb3⟩
  have ho3 : OI w3 (fun g => wb.heap.size ≤ g ∧ g < w3.heap.size) A3 c3 st := ho3.mono (fun g hl hg => ⟨hg, hl⟩)
  have hx3 : SV w3 (fun g => g < wb.heap.size) A (recV chgV xs) := (hxb.mono (fun g _ hg => by have hg : g < w.heap.size := hg; show g < wb.heap.size; omega)).keep (Kept.of_below hb3)
  obtain ⟨zs, hzs⟩ : ∃ x, x = wb.heap.size := ⟨_, rfl⟩
  obtain ⟨zo, hzo⟩ : ∃ x, x = w3.heap.size := ⟨_, rfl⟩
  have hzso : zs ≤ zo := by rw [hzs, hzo]; exact hb3.size
  have hzo3 : zo ≤ w3.heap.size := by omega
  have hzsb : wb.heap.size ≤ zs := by omega
  have hzsb' : zs ≤ wb.heap.size := by omega
  rw [← hzs] at ho3 hx3
  rw [← hzo] at ho3
  clear hzs hzo hxb HQ
  go_wp2_with (fail)
  go_loopg [7, 8] (xs.length + 1) (fun g v i wr => ∃ (k : Nat) (row : List Int) (ms : List (Int × List Int)) (A' : Option Addr) (c' : Nat), i = .int .i64 k ∧ v = .slice A' ms.length c' ∧ k ≤ xs.length ∧ xs.length + (if ms = [] then 1 else 0) ≤ k + g ∧ row.length = st.length ∧ (∀ x ∈ row, x = 1 ∨ x = 2) ∧
    OI wr (fun g => zs ≤ g ∧ g < zo) A3 c3 row ∧ OM wr (fun g => zo ≤ g) A' c' (ms.map (supM ns ds)) ∧ SV wr (fun g => g < zs) A (recV chgV xs) ∧ Below wb.heap.size wb wr ∧ zo ≤ wr.heap.size ∧ ms.length ≤ k + 1 ∧ (ms = [] → k = 0 ∧ row = st) ∧ (ms ≠ [] → momL st xs = ms ++ momR row (xs.drop k)))
  case atStart => exact ⟨0, st, [], none, 0, rfl, rfl, by omega, by simp, rfl, hsp, ho3, OM.nil _ _, hx3, hb3, hzo3, by simp, fun _ => ⟨rfl, rfl⟩, fun h => absurd rfl h⟩
  case round =>
    clear ho3 hx3 hb3 hzo3
    obtain ⟨k, row, ms, A', c', rfl, rfl, hkl, hgas, hrl, hpp, ho, oN, hx1, hB, hzr, hmk, hfirst, hlater⟩ := hrel
    obtain ⟨gko, rfl⟩ : ∃ x, x = gk := ⟨_, rfl⟩
    have Hrl := Lib.hid hrl
    have Hpp := Lib.hid hpp
    clear hrl hpp
    by_cases hms : ms = []
    · have Hk0 := Lib.hid (hfirst hms).1
      have Hrow := Lib.hid (hfirst hms).2
      subst hms
      rw [if_pos rfl] at hgas
      clear hfirst hlater
      by_cases hkt : k < xs.length
      · obtain ⟨b, off, rfl, hbz', _, hc⟩ := hx1.rec chgV_len (by decide) hkt
        clear hc
        go_wp2_with (fail)
        go_loopg [8] (xs.length - k) (fun g i wr => ∃ (k' : Nat) (row' : List Int), i = .int .i64 k' ∧ k ≤ k' ∧ k' + g = xs.length ∧ row'.length = st.length ∧ (∀ x ∈ row', x = 1 ∨ x = 2) ∧ OI wr (fun g => zs ≤ g ∧ g < zo) A3 c3 row' ∧ OM wr (fun g => zo ≤ g) A' c' (([] : List (Int × List Int)).map (supM ns ds)) ∧ SV wr (fun g => g < zs) (some ⟨b, off, none⟩) (recV chgV xs) ∧ Below wb.heap.size wb wr ∧ zo ≤ wr.heap.size ∧ takeT (0 : Int) row (xs.drop k) = takeT (0 : Int) row' (xs.drop k'))
        case atStart => exact ⟨k, row, rfl, Nat.le_refl _, by omega, Hrl.out, Hpp.out, ho, oN, hx1, hB, hzr, rfl⟩
        case round =>
          clear ho oN hx1 hB hzr
          obtain ⟨k', row', rfl, hkk', hkg, hrl', hpp', ho', oN', hx', hB', hzr', hT⟩ := hrel
          have Hkg := Lib.hid hkg
          have Hrl' := Lib.hid hrl'
          have Hpp' := Lib.hid hpp'
          have HT := Lib.hid hT
          clear hkg hrl' hpp' hT
          have hk'l : k' ≤ xs.length := by have := Hkg.out; omega
          by_cases hlt' : k' < xs.length
          · have hc := SV.recAt hx' chgV_len (by decide) hlt'
            have q0 := hc 0 _ rfl
            have q1 := hc 1 _ rfl
            have q2 := hc 2 _ rfl
            simp only [Nat.add_zero] at q0
            have hd := takeT_drop (0 : Int) row' xs k' hlt'
            have hdv := Hdv.out xs[k'] (List.getElem_mem hlt')
            clear hc
            by_cases ht1 : (xs[k'].t == (0 : Int)) = true
            · have HT := Lib.hid (show takeT (0 : Int) row (xs.drop k) = takeT (0 : Int) (row'.set xs[k'].dev.toNat xs[k'].pos) (xs.drop (k' + 1)) by rw [HT.out, hd, if_pos (by simpa using ht1)])
              obtain ⟨dn, hdn⟩ := Int.eq_ofNat_of_zero_le hdv.1
              have hdr : dn < row'.length := by rw [Hrl'.out, Hsl.out]; omega
              have hds : dn < st.length := by rw [Hsl.out]; omega
              obtain ⟨g4, o4, rfl, hg4, hg4l, r1, r2⟩ := ho'.at_ hdr
              rw [hdn] at q1 HT
              rw [Int.toNat_natCast] at HT
              have Hps := Lib.hid (show ∀ x ∈ row'.set dn xs[k'].pos, x = 1 ∨ x = 2 from fun x hx => by rcases List.mem_or_eq_of_mem_set hx with h1 | h1; exact Hpp'.out x h1; rw [h1]; exact hdv.2.2)
              clear hd hdn
              generalize xs[k'].pos = ps at *
              go_wp2_with (fail)
              go_still_tail 12, (by kernel_rfl)
              change wpList _ _ _ _ _ wr.drew
              go_wp2_with (fail)
              go_roundg (gk - 1)
              case measure => have := Hkg.out; omega
              case rel => exact ⟨k' + 1, row'.set dn ps, by go_num, by omega, by have := Hkg.out; omega, by rw [List.length_set]; exact Hrl'.out, Hps.out, (ho'.set dn ps).keep (Kept.drew _ _), (oN'.keep (Kept.setCell (p := ⟨g4, _, none⟩) (by show ¬ zo ≤ g4; omega) _)).keep (Kept.drew _ _), (hx'.keep (Kept.setCell (p := ⟨g4, _, none⟩) (by show ¬ g4 < zs; omega) _)).keep (Kept.drew _ _), (hB'.setCell (p := ⟨g4, _, none⟩) (by show wb.heap.size ≤ g4; omega) _).drew, by simpa [World.setCell, World.drew] using hzr', HT.out⟩
            · have ht1 : (xs[k'].t == (0 : Int)) = false := by simpa using ht1
              have HT := Lib.hid (show takeT (0 : Int) row (xs.drop k) = (row', xs.drop k') by rw [HT.out, hd, if_neg (by simpa using ht1)])
              clear hd q1 q2
              have HS := Lib.hid (Supplied_len wr (h.below (hb.trans (hB'.mono hbz))) (ht.below (hb.trans (hB'.mono hbz))) (fun _ => True) A1 A2 c1 c2 ns ds ((hn1.below hB').mono (fun _ _ _ => trivial)) Hc.out A3 st.length c3 row' Hrl'.out.symm ((OI.si ho').mono (fun _ _ _ => trivial)) (by rw [Hrl'.out]; exact Hsl.out) Hpp'.out)
              have n0 := (hB'.cell (p := ⟨w.heap.size, 0, none⟩) (World.block_lt_of_cell? _ _ b0)).trans b0
              have n1 := (hB'.cell (p := ⟨w.heap.size, 1, none⟩) (World.block_lt_of_cell? _ _ b1)).trans b1
              go_wp2_with (fail)
              refine HS.out.mono ?_
              rintro e ws ⟨As, cs, rfl, hoS, hbS⟩
              have hzs' := hbS.size
              have hAn : ∀ g, blockOf A' = some g → g < wr.heap.size := fun g hg => by
                obtain ⟨vs, ho, _⟩ := oN'
                exact (OV.block ho g hg).2
              have oN'' := (oN'.keep (Kept.of_below hbS)).keep (Kept.alloc (fun g => zo ≤ g) ws (.cells #[.int .i64 (0 : Int), .slice As (supL ns ds row').length cs] 162))
              have sS := (((OI.si hoS).mono (T := fun g => zo ≤ g ∧ some g ≠ blockOf A') (fun g _ hg => ⟨by have hg : wr.heap.size ≤ g := hg; omega, fun e => by have := hAn g e.symm; have hg : wr.heap.size ≤ g := hg; omega⟩)).keep (Kept.alloc (fun g => zo ≤ g ∧ some g ≠ blockOf A') ws (.cells #[.int .i64 (0 : Int), .slice As (supL ns ds row').length cs] 162)))
              clear n0 n1 HS
              have hml : (([] : List (Int × List Int)).map (supM ns ds)).length = ([] : List (Int × List Int)).length := List.length_map ..
              go_wp2_with (at_builtin; go_must (refine wpList_pushM (B := zo) (A1 := As) (c1 := cs) rfl (.tmp 64) (.tmp 68) rfl (0 : Int) (supL ns ds row') rfl rfl rfl oN'' (mom_cells ws _ rfl ((0 : Int), As, (supL ns ds row').length, cs)) sS (by rw [hml]; omega) (by simp; omega) ?_); intro A5 c5 w5 ho5 hb5; rw [hml])
              go_roundg (gko - 1)
              case measure => omega
              case rel =>
                have hpl : momL st xs = [] ++ [((0 : Int), row')] ++ momR row' (xs.drop k') := by have e := HT.out; rw [Hk0.out, Hrow.out, List.drop_zero] at e; rw [momL, e]; rfl
                have hbn := ((hB'.trans (hbS.mono (by omega))).alloc (by omega) (.cells #[.int .i64 (0 : Int), .slice As (supL ns ds row').length cs] 162)).trans (hb5.mono (by omega))
                have hk0 := Kept.of_below (S := fun _ => True) hbS
                refine ⟨k', row', ([] : List (Int × List Int)) ++ [((0 : Int), row')], A5, c5, rfl, by simp, hk'l, by rw [if_neg (by simp)]; omega, Hrl'.out, Hpp'.out, ?_, by rw [List.map_append]; exact ho5, ?_, hbn, by have := hb5.size; simp at this; omega, by simp, fun h => by simp at h, fun _ => hpl⟩
                · exact ((ho'.keep (Kept.of_below hbS)).keep (Kept.alloc _ _ _)).keep ⟨hb5.size, fun b hb _ => hb5.block b hb.2⟩
                · exact ((hx'.keep (Kept.of_below hbS)).keep (Kept.alloc _ _ _)).keep ⟨hb5.size, fun b hb _ => hb5.block b (by have hb : b < zs := hb; omega)⟩
          · have HT := Lib.hid (show takeT (0 : Int) row (xs.drop k) = (row', xs.drop k') by rw [HT.out, List.drop_of_length_le (i := k') (by omega)]; rfl)
            have HS := Lib.hid (Supplied_len wr (h.below (hb.trans (hB'.mono hbz))) (ht.below (hb.trans (hB'.mono hbz))) (fun _ => True) A1 A2 c1 c2 ns ds ((hn1.below hB').mono (fun _ _ _ => trivial)) Hc.out A3 st.length c3 row' Hrl'.out.symm ((OI.si ho').mono (fun _ _ _ => trivial)) (by rw [Hrl'.out]; exact Hsl.out) Hpp'.out)
            have n0 := (hB'.cell (p := ⟨w.heap.size, 0, none⟩) (World.block_lt_of_cell? _ _ b0)).trans b0
            have n1 := (hB'.cell (p := ⟨w.heap.size, 1, none⟩) (World.block_lt_of_cell? _ _ b1)).trans b1
            go_wp2_with (fail)
            refine HS.out.mono ?_
            rintro e ws ⟨As, cs, rfl, hoS, hbS⟩
            have hzs' := hbS.size
            have hAn : ∀ g, blockOf A' = some g → g < wr.heap.size := fun g hg => by
              obtain ⟨vs, ho, _⟩ := oN'
              exact (OV.block ho g hg).2
            have oN'' := (oN'.keep (Kept.of_below hbS)).keep (Kept.alloc (fun g => zo ≤ g) ws (.cells #[.int .i64 (0 : Int), .slice As (supL ns ds row').length cs] 162))
            have sS := (((OI.si hoS).mono (T := fun g => zo ≤ g ∧ some g ≠ blockOf A') (fun g _ hg => ⟨by have hg : wr.heap.size ≤ g := hg; omega, fun e => by have := hAn g e.symm; have hg : wr.heap.size ≤ g := hg; omega⟩)).keep (Kept.alloc (fun g => zo ≤ g ∧ some g ≠ blockOf A') ws (.cells #[.int .i64 (0 : Int), .slice As (supL ns ds row').length cs] 162)))
            clear n0 n1 HS
            have hml : (([] : List (Int × List Int)).map (supM ns ds)).length = ([] : List (Int × List Int)).length := List.length_map ..
            go_wp2_with (at_builtin; go_must (refine wpList_pushM (B := zo) (A1 := As) (c1 := cs) rfl (.tmp 64) (.tmp 68) rfl (0 : Int) (supL ns ds row') rfl rfl rfl oN'' (mom_cells ws _ rfl ((0 : Int), As, (supL ns ds row').length, cs)) sS (by rw [hml]; omega) (by simp; omega) ?_); intro A5 c5 w5 ho5 hb5; rw [hml])
            go_roundg (gko - 1)
            case measure => omega
            case rel =>
              have hpl : momL st xs = [] ++ [((0 : Int), row')] ++ momR row' (xs.drop k') := by have e := HT.out; rw [Hk0.out, Hrow.out, List.drop_zero] at e; rw [momL, e]; rfl
              have hbn := ((hB'.trans (hbS.mono (by omega))).alloc (by omega) (.cells #[.int .i64 (0 : Int), .slice As (supL ns ds row').length cs] 162)).trans (hb5.mono (by omega))
              have hk0 := Kept.of_below (S := fun _ => True) hbS
              refine ⟨k', row', ([] : List (Int × List Int)) ++ [((0 : Int), row')], A5, c5, rfl, by simp, hk'l, by rw [if_neg (by simp)]; omega, Hrl'.out, Hpp'.out, ?_, by rw [List.map_append]; exact ho5, ?_, hbn, by have := hb5.size; simp at this; omega, by simp, fun h => by simp at h, fun _ => hpl⟩
              · exact ((ho'.keep (Kept.of_below hbS)).keep (Kept.alloc _ _ _)).keep ⟨hb5.size, fun b hb _ => hb5.block b hb.2⟩
              · exact ((hx'.keep (Kept.of_below hbS)).keep (Kept.alloc _ _ _)).keep ⟨hb5.size, fun b hb _ => hb5.block b (by have hb : b < zs := hb; omega)⟩
      · have HT := Lib.hid (show takeT (0 : Int) row (xs.drop k) = (row, xs.drop k) by rw [List.drop_of_length_le (by omega)]; rfl)
        obtain ⟨wo, hwo⟩ : ∃ wo, wo = wr := ⟨_, rfl⟩
        subst hwo
        go_wp2_with (fail)
        go_loopg [8] 0 (fun g i wn => i = .int .i64 k ∧ wn = wo)
        case atStart => exact ⟨rfl, rfl⟩
        case round =>
          obtain ⟨rfl, hwn⟩ := hrel
          subst hwn
          have HS := Lib.hid (Supplied_len wr (h.below (hb.trans (hB.mono hbz))) (ht.below (hb.trans (hB.mono hbz))) (fun _ => True) A1 A2 c1 c2 ns ds ((hn1.below hB).mono (fun _ _ _ => trivial)) Hc.out A3 st.length c3 row Hrl.out.symm ((OI.si ho).mono (fun _ _ _ => trivial)) (by rw [Hrl.out]; exact Hsl.out) Hpp.out)
          have n0 := (hB.cell (p := ⟨w.heap.size, 0, none⟩) (World.block_lt_of_cell? _ _ b0)).trans b0
          have n1 := (hB.cell (p := ⟨w.heap.size, 1, none⟩) (World.block_lt_of_cell? _ _ b1)).trans b1
          go_wp2_with (fail)
          refine HS.out.mono ?_
          rintro e ws ⟨As, cs, rfl, hoS, hbS⟩
          have hzs' := hbS.size
          have hAn : ∀ g, blockOf A' = some g → g < wr.heap.size := fun g hg => by
            obtain ⟨vs, ho, _⟩ := oN
            exact (OV.block ho g hg).2
          have oNN := (oN.keep (Kept.of_below hbS)).keep (Kept.alloc (fun g => zo ≤ g) ws (.cells #[.int .i64 (0 : Int), .slice As (supL ns ds row).length cs] 162))
          have sS := (((OI.si hoS).mono (T := fun g => zo ≤ g ∧ some g ≠ blockOf A') (fun g _ hg => ⟨by have hg : wr.heap.size ≤ g := hg; omega, fun e => by have := hAn g e.symm; have hg : wr.heap.size ≤ g := hg; omega⟩)).keep (Kept.alloc (fun g => zo ≤ g ∧ some g ≠ blockOf A') ws (.cells #[.int .i64 (0 : Int), .slice As (supL ns ds row).length cs] 162)))
          clear n0 n1 HS
          have hml : (([] : List (Int × List Int)).map (supM ns ds)).length = ([] : List (Int × List Int)).length := List.length_map ..
          go_wp2_with (at_builtin; go_must (refine wpList_pushM (B := zo) (A1 := As) (c1 := cs) rfl (.tmp 64) (.tmp 68) rfl (0 : Int) (supL ns ds row) rfl rfl rfl oNN (mom_cells ws _ rfl ((0 : Int), As, (supL ns ds row).length, cs)) sS (by rw [hml]; omega) (by simp; omega) ?_); intro A5 c5 w5 ho5 hb5; rw [hml])
          go_roundg (gko - 1)
          case measure => omega
          case rel =>
            have hpl : momL st xs = [] ++ [((0 : Int), row)] ++ momR row (xs.drop k) := by have e := HT.out; rw [Hk0.out, Hrow.out, List.drop_zero] at e ⊢; rw [momL, e]; rfl
            have hbn := ((hB.trans (hbS.mono (by omega))).alloc (by omega) (.cells #[.int .i64 (0 : Int), .slice As (supL ns ds row).length cs] 162)).trans (hb5.mono (by omega))
            have hk0 := Kept.of_below (S := fun _ => True) hbS
            refine ⟨k, row, ([] : List (Int × List Int)) ++ [((0 : Int), row)], A5, c5, rfl, by simp, hkl, by rw [if_neg (by simp)]; omega, Hrl.out, Hpp.out, ?_, by rw [List.map_append]; exact ho5, ?_, hbn, by have := hb5.size; simp at this; omega, by simp, fun h => by simp at h, fun _ => hpl⟩
            · exact ((ho.keep (Kept.of_below hbS)).keep (Kept.alloc _ _ _)).keep ⟨hb5.size, fun b hb _ => hb5.block b hb.2⟩
            · exact ((hx1.keep (Kept.of_below hbS)).keep (Kept.alloc _ _ _)).keep ⟨hb5.size, fun b hb _ => hb5.block b (by have hb : b < zs := hb; omega)⟩
    · rw [if_neg hms] at hgas
      have Hpl := Lib.hid (hlater hms)
      have hm0 : ¬ ms.length = 0 := by intro e; exact hms (List.eq_nil_of_length_eq_zero e)
      have hm1 : decide (0 < ms.length) = true := decide_eq_true (by omega)
      have hm2 : ((ms.length : Int) == 0) = false := by simp; omega
      clear hfirst hlater
      by_cases hkt : k < xs.length
      · obtain ⟨b, off, rfl, hbz', _, hc⟩ := hx1.rec chgV_len (by decide) hkt
        have q0 := hc 0 _ rfl
        simp only [Nat.add_zero] at q0
        clear hc
        go_wp2_with (fail)
        go_loopg [8] (xs.length - k) (fun g i wr => ∃ (k' : Nat) (row' : List Int), i = .int .i64 k' ∧ k ≤ k' ∧ k' + g = xs.length ∧ row'.length = st.length ∧ (∀ x ∈ row', x = 1 ∨ x = 2) ∧ OI wr (fun g => zs ≤ g ∧ g < zo) A3 c3 row' ∧ OM wr (fun g => zo ≤ g) A' c' (ms.map (supM ns ds)) ∧ SV wr (fun g => g < zs) (some ⟨b, off, none⟩) (recV chgV xs) ∧ Below wb.heap.size wb wr ∧ zo ≤ wr.heap.size ∧ takeT xs[k].t row (xs.drop k) = takeT xs[k].t row' (xs.drop k'))
        case atStart => exact ⟨k, row, rfl, Nat.le_refl _, by omega, Hrl.out, Hpp.out, ho, oN, hx1, hB, hzr, rfl⟩
        case round =>
          clear ho oN hx1 hB hzr
          obtain ⟨k', row', rfl, hkk', hkg, hrl', hpp', ho', oN', hx', hB', hzr', hT⟩ := hrel
          have Hkg := Lib.hid hkg
          have Hrl' := Lib.hid hrl'
          have Hpp' := Lib.hid hpp'
          have HT := Lib.hid hT
          clear hkg hrl' hpp' hT
          have hk'l : k' ≤ xs.length := by have := Hkg.out; omega
          by_cases hlt' : k' < xs.length
          · have hc := SV.recAt hx' chgV_len (by decide) hlt'
            have q0 := hc 0 _ rfl
            have q1 := hc 1 _ rfl
            have q2 := hc 2 _ rfl
            simp only [Nat.add_zero] at q0
            have hd := takeT_drop xs[k].t row' xs k' hlt'
            have hdv := Hdv.out xs[k'] (List.getElem_mem hlt')
            clear hc
            by_cases ht1 : (xs[k'].t == xs[k].t) = true
            · have HT := Lib.hid (show takeT xs[k].t row (xs.drop k) = takeT xs[k].t (row'.set xs[k'].dev.toNat xs[k'].pos) (xs.drop (k' + 1)) by rw [HT.out, hd, if_pos (by simpa using ht1)])
              obtain ⟨dn, hdn⟩ := Int.eq_ofNat_of_zero_le hdv.1
              have hdr : dn < row'.length := by rw [Hrl'.out, Hsl.out]; omega
              have hds : dn < st.length := by rw [Hsl.out]; omega
              obtain ⟨g4, o4, rfl, hg4, hg4l, r1, r2⟩ := ho'.at_ hdr
              rw [hdn] at q1 HT
              rw [Int.toNat_natCast] at HT
              have Hps := Lib.hid (show ∀ x ∈ row'.set dn xs[k'].pos, x = 1 ∨ x = 2 from fun x hx => by rcases List.mem_or_eq_of_mem_set hx with h1 | h1; exact Hpp'.out x h1; rw [h1]; exact hdv.2.2)
              clear hd hdn
              generalize xs[k'].pos = ps at *
              go_wp2_with (fail)
              go_still_tail 12, (by kernel_rfl)
              change wpList _ _ _ _ _ wr.drew
              go_wp2_with (fail)
              go_roundg (gk - 1)
              case measure => have := Hkg.out; omega
              case rel => exact ⟨k' + 1, row'.set dn ps, by go_num, by omega, by have := Hkg.out; omega, by rw [List.length_set]; exact Hrl'.out, Hps.out, (ho'.set dn ps).keep (Kept.drew _ _), (oN'.keep (Kept.setCell (p := ⟨g4, _, none⟩) (by show ¬ zo ≤ g4; omega) _)).keep (Kept.drew _ _), (hx'.keep (Kept.setCell (p := ⟨g4, _, none⟩) (by show ¬ g4 < zs; omega) _)).keep (Kept.drew _ _), (hB'.setCell (p := ⟨g4, _, none⟩) (by show wb.heap.size ≤ g4; omega) _).drew, by simpa [World.setCell, World.drew] using hzr', HT.out⟩
            · have ht1 : (xs[k'].t == xs[k].t) = false := by simpa using ht1
              have HT := Lib.hid (show takeT xs[k].t row (xs.drop k) = (row', xs.drop k') by rw [HT.out, hd, if_neg (by simpa using ht1)])
              clear hd q1 q2
              have hkk : k + 1 ≤ k' := take_more hkt HT.out
              have HS := Lib.hid (Supplied_len wr (h.below (hb.trans (hB'.mono hbz))) (ht.below (hb.trans (hB'.mono hbz))) (fun _ => True) A1 A2 c1 c2 ns ds ((hn1.below hB').mono (fun _ _ _ => trivial)) Hc.out A3 st.length c3 row' Hrl'.out.symm ((OI.si ho').mono (fun _ _ _ => trivial)) (by rw [Hrl'.out]; exact Hsl.out) Hpp'.out)
              have n0 := (hB'.cell (p := ⟨w.heap.size, 0, none⟩) (World.block_lt_of_cell? _ _ b0)).trans b0
              have n1 := (hB'.cell (p := ⟨w.heap.size, 1, none⟩) (World.block_lt_of_cell? _ _ b1)).trans b1
              go_wp2_with (fail)
              refine HS.out.mono ?_
              rintro e ws ⟨As, cs, rfl, hoS, hbS⟩
              have hzs' := hbS.size
              have hAn : ∀ g, blockOf A' = some g → g < wr.heap.size := fun g hg => by
                obtain ⟨vs, ho, _⟩ := oN'
                exact (OV.block ho g hg).2
              have oN'' := (oN'.keep (Kept.of_below hbS)).keep (Kept.alloc (fun g => zo ≤ g) ws (.cells #[.int .i64 xs[k].t, .slice As (supL ns ds row').length cs] 162))
              have sS := (((OI.si hoS).mono (T := fun g => zo ≤ g ∧ some g ≠ blockOf A') (fun g _ hg => ⟨by have hg : wr.heap.size ≤ g := hg; omega, fun e => by have := hAn g e.symm; have hg : wr.heap.size ≤ g := hg; omega⟩)).keep (Kept.alloc (fun g => zo ≤ g ∧ some g ≠ blockOf A') ws (.cells #[.int .i64 xs[k].t, .slice As (supL ns ds row').length cs] 162)))
              clear n0 n1 HS
              have hml : (ms.map (supM ns ds)).length = ms.length := List.length_map ..
              go_wp2_with (at_builtin; go_must (refine wpList_pushM (B := zo) (A1 := As) (c1 := cs) rfl (.tmp 64) (.tmp 68) rfl xs[k].t (supL ns ds row') rfl rfl hml.symm oN'' (mom_cells ws _ rfl (xs[k].t, As, (supL ns ds row').length, cs)) sS (by rw [hml]; omega) (by simp; omega) ?_); intro A5 c5 w5 ho5 hb5; rw [hml])
              go_roundg (gko - 1)
              case measure => have := hkk; omega
              case rel =>
                have hpl : momL st xs = ms ++ [(xs[k].t, row')] ++ momR row' (xs.drop k') := by have e := HT.out; rw [Hpl.out, List.append_assoc]; congr 1; rw [List.drop_eq_getElem_cons hkt] at e ⊢; rw [momR_take, e]; rfl
                have hbn := ((hB'.trans (hbS.mono (by omega))).alloc (by omega) (.cells #[.int .i64 xs[k].t, .slice As (supL ns ds row').length cs] 162)).trans (hb5.mono (by omega))
                have hk0 := Kept.of_below (S := fun _ => True) hbS
                refine ⟨k', row', ms ++ [(xs[k].t, row')], A5, c5, rfl, by simp, hk'l, by rw [if_neg (by simp)]; omega, Hrl'.out, Hpp'.out, ?_, by rw [List.map_append]; exact ho5, ?_, hbn, by have := hb5.size; simp at this; omega, by simp; omega, fun h => by simp at h, fun _ => hpl⟩
                · exact ((ho'.keep (Kept.of_below hbS)).keep (Kept.alloc _ _ _)).keep ⟨hb5.size, fun b hb _ => hb5.block b hb.2⟩
                · exact ((hx'.keep (Kept.of_below hbS)).keep (Kept.alloc _ _ _)).keep ⟨hb5.size, fun b hb _ => hb5.block b (by have hb : b < zs := hb; omega)⟩
          · have HT := Lib.hid (show takeT xs[k].t row (xs.drop k) = (row', xs.drop k') by rw [HT.out, List.drop_of_length_le (i := k') (by omega)]; rfl)
            have hkk : k + 1 ≤ k' := take_more hkt HT.out
            have HS := Lib.hid (Supplied_len wr (h.below (hb.trans (hB'.mono hbz))) (ht.below (hb.trans (hB'.mono hbz))) (fun _ => True) A1 A2 c1 c2 ns ds ((hn1.below hB').mono (fun _ _ _ => trivial)) Hc.out A3 st.length c3 row' Hrl'.out.symm ((OI.si ho').mono (fun _ _ _ => trivial)) (by rw [Hrl'.out]; exact Hsl.out) Hpp'.out)
            have n0 := (hB'.cell (p := ⟨w.heap.size, 0, none⟩) (World.block_lt_of_cell? _ _ b0)).trans b0
            have n1 := (hB'.cell (p := ⟨w.heap.size, 1, none⟩) (World.block_lt_of_cell? _ _ b1)).trans b1
            go_wp2_with (fail)
            refine HS.out.mono ?_
            rintro e ws ⟨As, cs, rfl, hoS, hbS⟩
            have hzs' := hbS.size
            have hAn : ∀ g, blockOf A' = some g → g < wr.heap.size := fun g hg => by
              obtain ⟨vs, ho, _⟩ := oN'
              exact (OV.block ho g hg).2
            have oN'' := (oN'.keep (Kept.of_below hbS)).keep (Kept.alloc (fun g => zo ≤ g) ws (.cells #[.int .i64 xs[k].t, .slice As (supL ns ds row').length cs] 162))
            have sS := (((OI.si hoS).mono (T := fun g => zo ≤ g ∧ some g ≠ blockOf A') (fun g _ hg => ⟨by have hg : wr.heap.size ≤ g := hg; omega, fun e => by have := hAn g e.symm; have hg : wr.heap.size ≤ g := hg; omega⟩)).keep (Kept.alloc (fun g => zo ≤ g ∧ some g ≠ blockOf A') ws (.cells #[.int .i64 xs[k].t, .slice As (supL ns ds row').length cs] 162)))
            clear n0 n1 HS
            have hml : (ms.map (supM ns ds)).length = ms.length := List.length_map ..
            go_wp2_with (at_builtin; go_must (refine wpList_pushM (B := zo) (A1 := As) (c1 := cs) rfl (.tmp 64) (.tmp 68) rfl xs[k].t (supL ns ds row') rfl rfl hml.symm oN'' (mom_cells ws _ rfl (xs[k].t, As, (supL ns ds row').length, cs)) sS (by rw [hml]; omega) (by simp; omega) ?_); intro A5 c5 w5 ho5 hb5; rw [hml])
            go_roundg (gko - 1)
            case measure => have := hkk; omega
            case rel =>
              have hpl : momL st xs = ms ++ [(xs[k].t, row')] ++ momR row' (xs.drop k') := by have e := HT.out; rw [Hpl.out, List.append_assoc]; congr 1; rw [List.drop_eq_getElem_cons hkt] at e ⊢; rw [momR_take, e]; rfl
              have hbn := ((hB'.trans (hbS.mono (by omega))).alloc (by omega) (.cells #[.int .i64 xs[k].t, .slice As (supL ns ds row').length cs] 162)).trans (hb5.mono (by omega))
              have hk0 := Kept.of_below (S := fun _ => True) hbS
              refine ⟨k', row', ms ++ [(xs[k].t, row')], A5, c5, rfl, by simp, hk'l, by rw [if_neg (by simp)]; omega, Hrl'.out, Hpp'.out, ?_, by rw [List.map_append]; exact ho5, ?_, hbn, by have := hb5.size; simp at this; omega, by simp; omega, fun h => by simp at h, fun _ => hpl⟩
              · exact ((ho'.keep (Kept.of_below hbS)).keep (Kept.alloc _ _ _)).keep ⟨hb5.size, fun b hb _ => hb5.block b hb.2⟩
              · exact ((hx'.keep (Kept.of_below hbS)).keep (Kept.alloc _ _ _)).keep ⟨hb5.size, fun b hb _ => hb5.block b (by have hb : b < zs := hb; omega)⟩
      · have hml : (momL st xs).length = ms.length := by rw [Hpl.out, List.drop_of_length_le (by omega)]; simp [momR]
        have hme : momL st xs = ms := by rw [Hpl.out, List.drop_of_length_le (by omega)]; simp [momR]
        have Hme := Lib.hid hme
        clear hml hme
        go_wp2_with (fail)
        go_ret
        rw [Hme.out]
        exact ⟨A', c', rfl, oN.sm.mono (fun g _ hg => by have hg : zo ≤ g := hg; show w.heap.size ≤ g; omega), by omega, hb.trans (hB.mono hbz)⟩
end Go.Proofs.YtgpcojmdfmngeaaDoor

namespace Go.Proofs.YtgpcojmdfmngeaaDoor
open Go.RowKit
set_option maxHeartbeats 400000
set_option maxRecDepth 100000

def spV (p : Int × Int) : List Value := [.int .i64 p.1, .int .i64 p.2]
theorem spV_len (p : Int × Int) : (spV p).length = 2 := rfl
theorem spV_one (p : Int × Int) : ∀ u ∈ spV p, u.oneCell' = true := by
  intro u hu
  simp [spV] at hu
  rcases hu with rfl | rfl <;> rfl
theorem spInfo : (Tryd.prog.info? 139).map (fun i => (i.zero, i.size, i.bytes)) = some (some (.agg #[.int .i64 0, .int .i64 0]), 2, 16) := by kernel_rfl
def OS (w : World) (S : Nat → Prop) (A : Option Addr) (c : Nat) (xs : List (Int × Int)) : Prop := OV w S 139 2 A xs.length c (recV spV xs)
/-- what 'without' keeps: until, the result, since when -/
structure WS (w wr : World) (til : Int) (A : Option Addr) (c : Nat) (xs : List (Int × Int)) (fr : Int) : Prop where
  box : wr.heap[w.heap.size]? = some (.cells #[.int .i64 til] 3 (0, 0))
  out : wr.heap[w.heap.size + 1]? = some (.cells #[.slice A xs.length c] 144 (0, 0))
  frm : wr.heap[w.heap.size + 1 + 1]? = some (.cells #[.int .i64 fr] 3 (0, 0))
  own : OS wr (fun g => w.heap.size + 3 ≤ g) A c xs
  bel : Below w.heap.size w wr
section
variable {w wr w' : World} {til fr : Int} {A : Option Addr} {c : Nat} {xs : List (Int × Int)}
theorem WS.size (h : WS w wr til A c xs fr) : w.heap.size + 3 ≤ wr.heap.size := (Array.getElem?_eq_some_iff.1 h.frm).1
theorem WS.c0 (h : WS w wr til A c xs fr) : wr.cell? ⟨w.heap.size, 0, none⟩ = some (.int .i64 til) := by rw [cell_of_row wr _ 0 _ _ _ h.box]; rfl
theorem WS.c1 (h : WS w wr til A c xs fr) : wr.cell? ⟨w.heap.size + 1, 0, none⟩ = some (.slice A xs.length c) := by rw [cell_of_row wr _ 0 _ _ _ h.out]; rfl
theorem WS.c2 (h : WS w wr til A c xs fr) : wr.cell? ⟨w.heap.size + 1 + 1, 0, none⟩ = some (.int .i64 fr) := by rw [cell_of_row wr _ 0 _ _ _ h.frm]; rfl
theorem WS.f1 (h : WS w wr til A c xs fr) : wr.frozen? ⟨w.heap.size + 1, 0, none⟩ = false := by simp [World.frozen?, h.out]
theorem WS.f2 (h : WS w wr til A c xs fr) : wr.frozen? ⟨w.heap.size + 1 + 1, 0, none⟩ = false := by simp [World.frozen?, h.frm]
theorem WS.below (h : WS w wr til A c xs fr) (hb : Below (w.heap.size + 3) wr w') (ho : OS w' (fun g => w.heap.size + 3 ≤ g) A c xs) : WS w w' til A c xs fr :=
  ⟨(hb.block _ (by omega)).trans h.box, (hb.block _ (by omega)).trans h.out, (hb.block _ (by omega)).trans h.frm, ho, h.bel.trans (hb.mono (by omega))⟩
theorem WS.alloc (h : WS w wr til A c xs fr) (o : Obj) : WS w (wr.alloc o) til A c xs fr :=
  h.below ((Below.refl _ _).alloc h.size o) (OV.keep h.own (Kept.alloc _ _ _))
theorem WS.drew (h : WS w wr til A c xs fr) : WS w wr.drew til A c xs fr := h.below (Below.refl _ _).drew (OV.keep h.own (Kept.drew _ _))
theorem WS.from_ (h : WS w wr til A c xs fr) (x : Int) : WS w (wr.setCell ⟨w.heap.size + 1 + 1, 0, none⟩ (.int .i64 x)) til A c xs x := by
  refine ⟨(Below.heap_setCell _ _ _ _ (by show w.heap.size ≠ w.heap.size + 1 + 1; omega)).trans h.box, (Below.heap_setCell _ _ _ _ (by show w.heap.size + 1 ≠ w.heap.size + 1 + 1; omega)).trans h.out, ?_, OV.keep h.own (Kept.setCell (by show ¬ w.heap.size + 3 ≤ w.heap.size + 1 + 1; omega) _), h.bel.setCell (by show w.heap.size ≤ w.heap.size + 1 + 1; omega) _⟩
  simp [World.setCell, Array.getElem?_modify, h.frm]
/-- a new list, stored into the result -/
theorem WS.put (h : WS w wr til A c xs fr) {A' : Option Addr} {c' : Nat} {ys : List (Int × Int)} (hb : Below (w.heap.size + 3) wr w') (ho : OS w' (fun g => w.heap.size + 3 ≤ g) A' c' ys) :
    WS w (w'.setCell ⟨w.heap.size + 1, 0, none⟩ (.slice A' ys.length c')) til A' c' ys fr := by
  refine ⟨(Below.heap_setCell _ _ _ _ (by show w.heap.size ≠ w.heap.size + 1; omega)).trans ((hb.block _ (by omega)).trans h.box), ?_, (Below.heap_setCell _ _ _ _ (by show w.heap.size + 1 + 1 ≠ w.heap.size + 1; omega)).trans ((hb.block _ (by omega)).trans h.frm), OV.keep ho (Kept.setCell (by show ¬ w.heap.size + 3 ≤ w.heap.size + 1; omega) _), (h.bel.trans (hb.mono (by omega))).setCell (by show w.heap.size ≤ w.heap.size + 1; omega) _⟩
  simp [World.setCell, Array.getElem?_modify, (hb.block _ (show w.heap.size + 1 < w.heap.size + 3 by omega)).trans h.out]
end
theorem sp_cells (w : World) (b : Nat) (hb : b = w.heap.size) (x : Int × Int) : ∀ j u, (spV x)[j]? = some u → (w.alloc (.cells (spV x).toArray 139)).cell? ⟨b, j, none⟩ = some u := fun j u hj => by
  subst hb
  rw [cell_of_row _ w.heap.size j _ _ _ (heap_alloc_new w _)]
  simpa using hj

set_option maxHeartbeats 2000000 in
theorem witD (w wr : World) (til : Int) (A : Option Addr) (c : Nat) (xs : List (Int × Int)) (fr : Int) (h : WS w wr til A c xs fr) (hx : xs.length ≤ 10000) (u : FrameMode) :
    CallsD Tryd.prog 165 #[.pointer (some ⟨w.heap.size + 1 + 1, 0, none⟩), .pointer (some ⟨w.heap.size + 1, 0, none⟩), .pointer (some ⟨w.heap.size, 0, none⟩)] u wr fun e u' w' => u' = u ∧ (e = .returned (.tuple #[]) ∧
      ∃ A' c', WS w w' til A' c' (xs ++ (if 0 ≤ fr then [(fr, til)] else [])) fr) := by
  have c0 := h.c0
  have c1 := h.c1
  have c2 := h.c2
  have f1 := h.f1
  obtain ⟨zs, hzs⟩ : ∃ zs, zs = xs ++ (if 0 ≤ fr then [(fr, til)] else []) := ⟨_, rfl⟩
  rw [← hzs]
  have Hz := Lib.hid hzs
  clear hzs
  by_cases hf : 0 ≤ fr
  · have Hz := Lib.hid (show zs = xs ++ [(fr, til)] by rw [Hz.out, if_pos hf])
    have hfd : decide (0 ≤ fr) = true := decide_eq_true hf
    have hz := h.size
    have hw := h.alloc (.cells (spV (fr, til)).toArray 139)
    go_enter_d Tryd.func165, Tryd.ntmps165
    go_wp2_with (at_builtin; go_must (refine wpList_pushRec spV_len (by decide) (B := w.heap.size + 3) 144 139 _ 16 Tryd.underlying144 spInfo rfl (by decide) rfl (.tmp 5) (.tmp 9) rfl (xs := xs) (fr, til) (spV_one _) rfl rfl rfl hw.own (sp_cells wr _ rfl _) (by omega) (by simp; omega) ?_); intro A5 c5 w5 ho5 hb5 _ _; have p1 := (hb5.block (w.heap.size + 1) (by omega)).trans hw.out; have d1 : w5.cell? ⟨w.heap.size + 1, 0, none⟩ = some (.slice A xs.length c) := (by rw [cell_of_row w5 _ 0 _ _ _ p1]; rfl); have d2 : w5.frozen? ⟨w.heap.size + 1, 0, none⟩ = false := (by simp [World.frozen?, p1]); clear p1)
    go_end0
    rw [Hz.out]
    have := hw.put hb5 ho5
    rw [List.length_append] at this
    exact ⟨rfl, A5, c5, this⟩
  · have Hz := Lib.hid (show zs = xs by rw [Hz.out, if_neg hf, List.append_nil])
    have hfd : decide (0 ≤ fr) = false := decide_eq_false hf
    go_enter_d Tryd.func165, Tryd.ntmps165
    go_wp2_with (fail)
    go_end0
    rw [Hz.out]
    exact ⟨rfl, A, c, h⟩

theorem witG_drop (v til : Int) (ms : List (Int × List Int)) (k : Nat) (h : k < ms.length) (fr : Int) : witG v til (ms.drop k) fr =
    if ms[k].2.contains v = true then (if 0 ≤ fr then (fr, ms[k].1) :: witG v til (ms.drop (k + 1)) (-1) else witG v til (ms.drop (k + 1)) fr) else (if fr < 0 then witG v til (ms.drop (k + 1)) ms[k].1 else witG v til (ms.drop (k + 1)) fr) := by
  rw [List.drop_eq_getElem_cons h]; rfl

theorem WS.start (w : World) (til : Int) : WS w (((w.alloc (.cells #[.int .i64 til] 3)).alloc (.cells #[.slice none 0 0] 144)).alloc (.cells #[.int .i64 (-1)] 3)) til none 0 [] (-1) := by
  have e1 : (w.alloc (.cells #[.int .i64 til] 3)).heap.size = w.heap.size + 1 := by simp
  have e2 : ((w.alloc (.cells #[.int .i64 til] 3)).alloc (.cells #[.slice none 0 0] 144)).heap.size = w.heap.size + 1 + 1 := by simp
  have b1 := (Below.refl w.heap.size w).alloc (Nat.le_refl _) (.cells #[.int .i64 til] 3)
  have b2 := (Below.refl (w.heap.size + 1) (w.alloc (.cells #[.int .i64 til] 3))).alloc (by omega) (.cells #[.slice none 0 0] 144)
  have b3 := (Below.refl (w.heap.size + 1 + 1) ((w.alloc (.cells #[.int .i64 til] 3)).alloc (.cells #[.slice none 0 0] 144))).alloc (by omega) (.cells #[.int .i64 (-1)] 3)
  have n1 := heap_alloc_new w (.cells #[.int .i64 til] 3)
  have n2 := heap_alloc_new (w.alloc (.cells #[.int .i64 til] 3)) (.cells #[.slice none 0 0] 144)
  have n3 := heap_alloc_new ((w.alloc (.cells #[.int .i64 til] 3)).alloc (.cells #[.slice none 0 0] 144)) (.cells #[.int .i64 (-1)] 3)
  rw [e1] at n2
  rw [e2] at n3
  exact ⟨(b3.block _ (by omega)).trans ((b2.block _ (by omega)).trans n1), (b3.block _ (by omega)).trans n2, n3, OV.nil _ _ _ _, (b1.trans (b2.mono (by omega))).trans (b3.mono (by omega))⟩

set_option maxHeartbeats 8000000 in
theorem without_any (w : World) (S : Nat → Prop) (A : Option Addr) (c : Nat) (ms : List (Int × List Int)) (hm : SM w S A ms) (hml : ms.length ≤ 5000) (hmr : ∀ m ∈ ms, m.2.length ≤ 65536) (v til : Int) :
    Calls Tryd.prog 146 #[.slice A ms.length c, .int .i64 v, .int .i64 til] w fun e w' => ∃ A' c', e = .returned (.slice A' (witG v til ms (-1)).length c') ∧ OS w' (fun g => w.heap.size ≤ g) A' c' (witG v til ms (-1)) ∧ Below w.heap.size w w' := by
  have hmf : ∀ (fn : Fn) (first cap : Array Value) (w : World), (Instr.makeFunc fn first cap).run Tryd.prog w = .ok (.func fn first cap) w := fun _ _ _ _ => rfl
  have Hmr := Lib.hid hmr
  clear hmr
  go_enter_defers Tryd.func146, Tryd.ntmps146
  have D0 := WS.start w til
  go_wp2_with (fail)
  obtain ⟨W0, hW0⟩ : ∃ W0, W0 = ((w.alloc (.cells #[.int .i64 til] 3)).alloc (.cells #[.slice none 0 0] 144)).alloc (.cells #[.int .i64 (-1)] 3) := ⟨_, rfl⟩
  rw [← hW0] at D0 ⊢
  clear hW0
  go_loopg [14] ms.length (fun g i wr => ∃ (k : Nat) (A' : Option Addr) (c' : Nat) (xs : List (Int × Int)) (fr : Int), k + g = ms.length ∧ i = .int .i64 k ∧ WS w wr til A' c' xs fr ∧ xs.length ≤ k ∧ witG v til ms (-1) = xs ++ witG v til (ms.drop k) fr)
  case atStart => exact ⟨0, none, 0, [], -1, by omega, rfl, D0, by simp, rfl⟩
  case round =>
    clear D0
    obtain ⟨k, A', c', xs, fr, hk, rfl, D, hxk, hw⟩ := hrel
    have Hk := Lib.hid hk
    have Hw := Lib.hid hw
    clear hk hw
    by_cases hlt : k < ms.length
    · obtain ⟨b, off, Am, cm, rfl, _, _, q0, q1, hsm⟩ := (hm.keep (Kept.of_below D.bel)).at_ hlt
      have hd := witG_drop v til ms k hlt fr
      have D1 := D.alloc (.cells #[.int .i64 ms[k].1, .slice Am ms[k].2.length cm] 162)
      have hsm1 := hsm.keep (Kept.alloc _ wr (.cells #[.int .i64 ms[k].1, .slice Am ms[k].2.length cm] 162))
      have HC := Lib.hid (contains_any v _ _ Am cm ms[k].2 hsm1 (Hmr.out ms[k] (List.getElem_mem hlt)))
      rw [← List.contains_eq_any_beq] at HC
      have c2 := D1.c2
      have f2 := D1.f2
      have c1 := D1.c1
      have hz := D.size
      clear hsm hsm1
      by_cases hc : ms[k].2.contains v = true
      · rw [if_pos hc] at hd
        rw [hc] at HC
        by_cases hf : 0 ≤ fr
        · have Hd := Lib.hid (show witG v til ms (-1) = (xs ++ [(fr, ms[k].1)]) ++ witG v til (ms.drop (k + 1)) (-1) by rw [Hw.out, hd, if_pos hf, List.append_assoc]; rfl)
          have hfd : decide (0 ≤ fr) = true := decide_eq_true hf
          clear hd hc
          generalize ms[k].1 = mt at *
          generalize ms[k].2.length = ml at *
          have D2 := D1.alloc (.cells (spV (fr, mt)).toArray 139)
          go_wp2_with (fail)
          refine HC.out.mono ?_
          rintro e w' ⟨rfl, rfl⟩
          go_wp2_with (at_builtin; go_must (refine wpList_pushRec spV_len (by decide) (B := w.heap.size + 3) 144 139 _ 16 Tryd.underlying144 spInfo rfl (by decide) rfl (.tmp 37) (.tmp 42) rfl (xs := xs) (fr, mt) (spV_one _) rfl rfl rfl D2.own (sp_cells _ _ (by simp) _) (by omega) (by simp; omega) ?_); intro A5 c5 w5 ho5 hb5 _ _; have p1 := (hb5.block (w.heap.size + 1) (by omega)).trans D2.out; have p2 := (hb5.block (w.heap.size + 1 + 1) (by omega)).trans D2.frm; have d1 : w5.cell? ⟨w.heap.size + 1, 0, none⟩ = some (.slice A' xs.length c') := (by rw [cell_of_row w5 _ 0 _ _ _ p1]; rfl); have d2 : w5.frozen? ⟨w.heap.size + 1, 0, none⟩ = false := (by simp [World.frozen?, p1]); have d3 : w5.cell? ⟨w.heap.size + 1 + 1, 0, none⟩ = some (.int .i64 fr) := (by rw [cell_of_row w5 _ 0 _ _ _ p2]; rfl); have d4 : w5.frozen? ⟨w.heap.size + 1 + 1, 0, none⟩ = false := (by simp [World.frozen?, p2]); clear p1 p2)
          go_roundg (gk - 1)
          case measure => have := Hk.out; omega
          case rel =>
            have D3 := (D2.put hb5 ho5).from_ (-1)
            rw [List.length_append] at D3
            exact ⟨k + 1, A5, c5, xs ++ [(fr, mt)], -1, by have := Hk.out; omega, by go_num, D3, by simp; omega, Hd.out⟩
        · have Hd := Lib.hid (show witG v til ms (-1) = xs ++ witG v til (ms.drop (k + 1)) fr by rw [Hw.out, hd, if_neg hf])
          have hfd : decide (0 ≤ fr) = false := decide_eq_false hf
          clear hd hc
          go_wp2_with (fail)
          refine HC.out.mono ?_
          rintro e w' ⟨rfl, rfl⟩
          go_wp2_with (fail)
          go_roundg (gk - 1)
          case measure => have := Hk.out; omega
          case rel => exact ⟨k + 1, A', c', xs, fr, by have := Hk.out; omega, by go_num, D1, by omega, Hd.out⟩
      · rw [if_neg hc] at hd
        have hc : ms[k].2.contains v = false := by simpa using hc
        rw [hc] at HC
        by_cases hf : fr < 0
        · have Hd := Lib.hid (show witG v til ms (-1) = xs ++ witG v til (ms.drop (k + 1)) ms[k].1 by rw [Hw.out, hd, if_pos hf])
          have hfd : decide (fr < 0) = true := decide_eq_true hf
          clear hd hc
          generalize ms[k].1 = mt at *
          generalize ms[k].2.length = ml at *
          go_wp2_with (fail)
          refine HC.out.mono ?_
          rintro e w' ⟨rfl, rfl⟩
          go_wp2_with (fail)
          go_roundg (gk - 1)
          case measure => have := Hk.out; omega
          case rel => exact ⟨k + 1, A', c', xs, mt, by have := Hk.out; omega, by go_num, D1.from_ mt, by omega, Hd.out⟩
        · have Hd := Lib.hid (show witG v til ms (-1) = xs ++ witG v til (ms.drop (k + 1)) fr by rw [Hw.out, hd, if_neg hf])
          have hfd : decide (fr < 0) = false := decide_eq_false hf
          clear hd hc
          go_wp2_with (fail)
          refine HC.out.mono ?_
          rintro e w' ⟨rfl, rfl⟩
          go_wp2_with (fail)
          go_roundg (gk - 1)
          case measure => have := Hk.out; omega
          case rel => exact ⟨k + 1, A', c', xs, fr, by have := Hk.out; omega, by go_num, D1, by omega, Hd.out⟩
    · have Hd := Lib.hid (show witG v til ms (-1) = xs ++ (if 0 ≤ fr then [(fr, til)] else []) by rw [Hw.out, List.drop_of_length_le (by omega)]; rfl)
      have c1 := D.c1
      have f1 := D.f1
      have D1 := D.put (Below.refl _ _) D.own
      have hxm : xs.length ≤ 10000 := by have := Hk.out; omega
      go_wp2_with (fail)
      refine leaves_cons (f := 165) (args := #[.pointer (some ⟨w.heap.size + 1 + 1, 0, none⟩), .pointer (some ⟨w.heap.size + 1, 0, none⟩), .pointer (some ⟨w.heap.size, 0, none⟩)]) (by simp) (by simp [go_sem]) ?_
      refine (witD w _ til A' c' xs fr D1 hxm _).mono ?_
      rintro e u' w6 ⟨rfl, rfl, A6, c6, D6⟩
      rw [← Hd.out] at D6
      have r1 := D6.c1
      simp [Leaves, settle, results, Tryd.results146, go_sem, r1]
      exact ⟨A6, c6, ⟨rfl, rfl⟩, OV.mono D6.own (fun g _ hg => by have hg : w.heap.size + 3 ≤ g := hg; show w.heap.size ≤ g; omega), D6.bel⟩
end Go.Proofs.YtgpcojmdfmngeaaDoor

namespace Go.Proofs.YtgpcojmdfmngeaaDoor
open Go.RowKit
set_option maxHeartbeats 400000
set_option maxRecDepth 100000

theorem outV_len (x : Out) : (outV x).length = 4 := rfl
theorem outV_one (x : Out) : ∀ u ∈ outV x, u.oneCell' = true := by
  intro u hu
  simp [outV] at hu
  rcases hu with rfl | rfl | rfl | rfl <;> rfl
theorem outInfo : (Tryd.prog.info? 141).map (fun i => (i.zero, i.size, i.bytes)) = some (some (.agg #[.int .i64 0, .int .i64 0, .int .i64 0, .int .i64 0]), 4, 32) := by kernel_rfl
def OO (w : World) (S : Nat → Prop) (A : Option Addr) (c : Nat) (xs : List Out) : Prop := OV w S 141 4 A xs.length c (recV outV xs)
theorem out_cells (w : World) (b : Nat) (hb : b = w.heap.size) (x : Out) : ∀ j u, (outV x)[j]? = some u → (w.alloc (.cells (outV x).toArray 141)).cell? ⟨b, j, none⟩ = some u := fun j u hj => by
  subst hb
  rw [cell_of_row _ w.heap.size j _ _ _ (heap_alloc_new w _)]
  simpa using hj
theorem SV.push {w w' : World} {A A' X : Option Addr} {vs : List Value} (h : SV w (fun g => some g ≠ blockOf A) X vs) (h3 : w.grownBy w' (blockOf A)) (h4 : blockOf A' = blockOf A ∨ blockOf A' = some w.heap.size) : SV w' (fun g => some g ≠ blockOf A') X vs := by
  have hz : SV w (fun g => some g ≠ blockOf A ∧ some g ≠ blockOf A') X vs := h.mono (fun g hl hg => ⟨hg, by
    rcases h4 with e | e
    · rw [e]; exact hg
    · rw [e]; intro e'; injection e' with e'; omega⟩)
  exact (hz.keep (Kept.grown h3 (fun g hg _ => hg.1))).mono (fun g _ hg => hg.2)
theorem SV.box {w : World} {g : Nat} {vs : List Value} {t : TypeId} (h : w.heap[g]? = some (.cells vs.toArray t (0, 0))) (S : Nat → Prop) (hs : S g) : SV w S (some ⟨g, 0, none⟩) vs := fun _ =>
  ⟨g, 0, rfl, hs, (Array.getElem?_eq_some_iff.1 h).1, fun j u hj => by rw [Nat.zero_add, cell_of_row w g j _ _ _ h]; simpa using hj⟩
theorem SV.lit {w : World} {S : Nat → Prop} {g off : Nat} {vs : List Value} (h : SV w S (some ⟨g, off, none⟩) vs) (j : Nat) (u : Value) (hj : vs[j]? = some u) : w.cell? ⟨g, off + j, none⟩ = some u := by
  obtain ⟨b, o, e, _, _, hc⟩ := h (by intro e; rw [e] at hj; simp at hj)
  injection e with e
  injection e with e e'
  subst e e'
  exact hc j u hj
/-- What Outages gives: outages, an error. -/
def outagesE (ns : List Node) (ds : List Dev) (st : List Int) (xs : List Chg) (til : Int) : List Out × Int :=
  if checkE ns ds st xs til ≠ 0 then ([], checkE ns ds st xs til) else (outL ns (supF ns ds st xs) til.toNat, 0)
def RetOE (w : World) (r : List Out × Int) (e : Ending) (w' : World) : Prop :=
  ∃ A c, e = .returned (.tuple #[.slice A r.1.length c, .int .i64 r.2]) ∧ OO w' (fun g => w.heap.size ≤ g) A c r.1 ∧ Below w.heap.size w w'

theorem checkE_zero {ns : List Node} {ds : List Dev} {st : List Int} {xs : List Chg} {til : Int} (h : checkE ns ds st xs til = 0) :
    maskC isPos ns ds st = 0 ∧ 1 ≤ til ∧ til ≤ 16777216 ∧ xs.length ≤ 4096 ∧ chgE ds.length (til - 1) xs 0 = 0 := by
  unfold checkE at h
  split at h
  · rename_i h1
    exact absurd h h1
  · rename_i h1
    split at h
    · cases h
    · unfold changesE at h
      split at h
      · cases h
      · exact ⟨by omega, by omega, by omega, by omega, h⟩

set_option maxHeartbeats 8000000 in
theorem Outages_any (w : World) (h : TabC w) (ht : Tab w) (S : Nat → Prop) (A1 A2 : Option Addr) (c1 c2 : Nat) (ns : List Node) (ds : List Dev) (hn : NetIn w S A1 A2 ns ds) (hl1 : ns.length ≤ 65536) (hl2 : ds.length ≤ 65536)
    (U : Option Addr) (cu : Nat) (st : List Int) (hs : SI w S U st) (hsl : st.length ≤ 65536) (T : Nat → Prop) (A : Option Addr) (c : Nat) (xs : List Chg) (hx : SV w T A (recV chgV xs)) (hxl : xs.length ≤ 1000) (til : Int) :
    Calls Tryd.prog 83 #[.agg #[.slice A1 ns.length c1, .slice A2 ds.length c2], .slice U st.length cu, .slice A xs.length c, .int .i64 til] w (RetOE w (outagesE ns ds st xs til)) := by
  have hb := (Below.refl w.heap.size w).alloc (Nat.le_refl _) (.cells #[.slice A1 ns.length c1, .slice A2 ds.length c2] 26)
  have HC := Lib.hid (icheck_any _ (h.below hb) (ht.below hb) S A1 A2 c1 c2 ns ds (hn.below hb) hl1 hl2 U cu st (hs.keep (Kept.of_below hb)) hsl T A c xs (hx.keep (Kept.of_below hb)) (by omega) til)
  have HE := Lib.hid (show outagesE ns ds st xs til = if checkE ns ds st xs til ≠ 0 then ([], checkE ns ds st xs til) else (outL ns (supF ns ds st xs) til.toNat, 0) from rfl)
  have HZ := Lib.hid (show checkE ns ds st xs til = 0 → _ from checkE_zero)
  generalize checkE ns ds st xs til = ce at *
  by_cases h0 : (ce != 0) = true
  · have H0 := Lib.hid (show ¬ ce = 0 by simpa using h0)
    go_enter Tryd.func83, Tryd.ntmps83
    go_wp2_with (fail)
    refine (HC.out).mono ?_
    rintro e w1 ⟨rfl, hb1⟩
    go_wp2_with (fail)
    go_ret2
    rw [HE.out, if_pos H0.out]
    exact ⟨none, 0, rfl, OV.nil _ _ _ _, hb.trans (hb1.mono hb.size)⟩
  · have h0' : (ce != 0) = false := by simpa using h0
    have hz : ce = 0 := by simpa using h0
    rw [if_neg (by simpa using hz)] at HE
    obtain ⟨hmask, ht1, ht2, _, hcz⟩ := HZ.out hz
    obtain ⟨z1, z2, z3⟩ := maskC_zero hmask
    obtain ⟨ha, hmo⟩ := chgE_asc hcz
    obtain ⟨tn, htn⟩ := Int.eq_ofNat_of_zero_le (show 0 ≤ til by omega)
    have hol := outs_eq ns ds st xs tn ha (fun x hx => by have := hmo x hx; omega) (by omega) ns.length
    rw [← htn] at hol
    have HE := Lib.hid (show outagesE ns ds st xs til = (catN (outsW ns ((momL st xs).map (supM ns ds)) til) ns.length, 0) by rw [HE.out, hol, htn, Int.toNat_natCast]; rfl)
    have hdv := chgE_zero hcz
    clear h0 hmask hcz ha hmo hol htn HZ
    rw [hz] at HC
    have Z1 := Lib.hid z1
    have Z2 := Lib.hid z2
    have Hdv := Lib.hid hdv
    have Z3 := Lib.hid z3
    have hns := (checkL_zero z1).few
    clear z1 z2 z3 hdv h0' hz
    go_enter Tryd.func83, Tryd.ntmps83
    go_wp2_with (fail)
    refine (HC.out).mono ?_
    rintro e w1 ⟨rfl, hb1⟩
    have hbA := hb.trans (hb1.mono hb.size)
    have Hbox := Lib.hid (box_at hb1)
    have n0 : w1.cell? ⟨w.heap.size, 0, none⟩ = some (.slice A1 ns.length c1) := by rw [cell_of_row w1 _ 0 _ _ _ Hbox.out]; rfl
    have n1 : w1.cell? ⟨w.heap.size, 1, none⟩ = some (.slice A2 ds.length c2) := by rw [cell_of_row w1 _ 1 _ _ _ Hbox.out]; rfl
    have HM := Lib.hid (moments_ok w1 (h.below hbA) (ht.below hbA) S A1 A2 c1 c2 ns ds (hn.below hbA) Z1.out U cu st (hs.keep (Kept.of_below hbA)) Z2.out (fun x hx => by have := List.all_eq_true.1 Z3.out x hx; simp [isPos] at this; omega) T A c xs (hx.keep (Kept.of_below hbA)) (by omega) Hdv.out)
    go_wp2_with (fail)
    refine (HM.out).mono ?_
    rintro e w2 ⟨Am, cm, rfl, hsm, hml, hb2⟩
    have hbB := hbA.trans (hb2.mono hbA.size)
    have m0 : w2.cell? ⟨w.heap.size, 0, none⟩ = some (.slice A1 ns.length c1) := (hb2.cell (p := ⟨w.heap.size, 0, none⟩) (World.block_lt_of_cell? _ _ n0)).trans n0
    have hn2 := hn.below hbB
    have hmn : ((momL st xs).map (supM ns ds)).length = (momL st xs).length := List.length_map ..
    have hmr : ∀ m ∈ (momL st xs).map (supM ns ds), m.2.length ≤ 65536 := fun m hm => by
      obtain ⟨p, _, rfl⟩ := List.mem_map.1 hm
      have := supL_len ns ds p.2
      show (supL ns ds p.2).length ≤ _
      omega
    have Hmr := Lib.hid hmr
    have HH := Lib.hid (show ∀ v, outsW ns ((momL st xs).map (supM ns ds)) til v = if custAt ns v = 0 then [] else (witG v til ((momL st xs).map (supM ns ds)) (-1)).map (mkOut v (custAt ns v)) from fun _ => rfl)
    have hfew : ∀ v, (outsW ns ((momL st xs).map (supM ns ds)) til v).length ≤ 1002 := fun v => by
      have := witG_few v til ((momL st xs).map (supM ns ds)) (-1)
      rw [HH.out v]
      split
      · simp
      · rw [List.length_map]; omega
    have Hfew := Lib.hid (show ∀ k, k ≤ ns.length → (catN (outsW ns ((momL st xs).map (supM ns ds)) til) k).length ≤ 33066 from fun k hk => by
      have := catN_few (h := outsW ns ((momL st xs).map (supM ns ds)) til) k (fun i _ => hfew i)
      have := Nat.mul_le_mul_right 1002 (show k ≤ 32 by omega)
      omega)
    have Hwf := Lib.hid (fun v : Int => (witG_few v til ((momL st xs).map (supM ns ds)) (-1)))
    rw [← hmn] at hml
    generalize outsW ns ((momL st xs).map (supM ns ds)) til = H at *
    generalize (momL st xs).map (supM ns ds) = ms at *
    rw [← hmn]
    clear hmn hmr hfew n0 n1 HM Hbox Hdv HC Z1 Z2 Z3 hs hx hb1 hb2 hbA hn hb
    have hsm := hsm.mono (T := fun g => g < w2.heap.size) (fun g hl _ => hl)
    go_wp2_with (fail)
    go_loopg [12, 32] ns.length (fun g v i wr => ∃ (k : Nat) (A' : Option Addr) (c' : Nat), k + g = ns.length ∧ i = .int .i64 k ∧ v = .slice A' (catN H k).length c' ∧ OO wr (fun g => w2.heap.size ≤ g) A' c' (catN H k) ∧ Below w2.heap.size w2 wr)
    case atStart => exact ⟨0, none, 0, by omega, rfl, rfl, OV.nil _ _ _ _, Below.refl _ _⟩
    case round =>
      obtain ⟨k, A', c', hk, rfl, rfl, ho, hB⟩ := hrel
      have Hk := Lib.hid hk
      clear hk m0
      by_cases hlt : k < ns.length
      · obtain ⟨b, off, rfl, _, _, q0, q1, q2⟩ := (hn2.below hB).node hlt
        have hz := hB.size
        have hHk := HH.out k
        rw [custAt_nat hlt] at hHk
        have hBn := hB.alloc hB.size (.cells #[.string ns[k].name, .int .i64 ns[k].cust, .int .i64 ns[k].comp] 104)
        have oN : OO _ (fun g => w2.heap.size ≤ g) A' c' (catN H k) := OV.keep ho (Kept.alloc _ wr (.cells #[.string ns[k].name, .int .i64 ns[k].cust, .int .i64 ns[k].comp] 104))
        by_cases hc0 : (ns[k].cust == 0) = true
        · have Hn := Lib.hid (show catN H (k + 1) = catN H k by rw [catN, hHk, if_pos (by simpa using hc0), List.append_nil])
          clear hHk
          go_wp2_with (fail)
          go_roundg (gk - 1)
          case measure => have := Hk.out; omega
          case rel => exact ⟨k + 1, A', c', by have := Hk.out; omega, by go_num, by rw [Hn.out], by rw [Hn.out]; exact oN, hBn⟩
        · have hc0 : (ns[k].cust == 0) = false := by simpa using hc0
          have Hn := Lib.hid (show catN H (k + 1) = catN H k ++ (witG k til ms (-1)).map (mkOut k ns[k].cust) by rw [catN, hHk, if_neg (by simpa using hc0)])
          clear hHk
          have HW := Lib.hid (without_any _ (fun g => g < w2.heap.size) Am cm ms ((hsm.keep (Kept.of_below (hB.mono (by omega)))).keep (Kept.alloc _ wr (.cells #[.string ns[k].name, .int .i64 ns[k].cust, .int .i64 ns[k].comp] 104))) (by omega) Hmr.out k til)
          have hwf := Hwf.out k
          have hAn : ∀ g, blockOf A' = some g → g < wr.heap.size := fun g hg => (OV.block ho g hg).2
          have hL := Hfew.out k (by omega)
          obtain ⟨cu', hcu⟩ : ∃ x, x = ns[k].cust := ⟨_, rfl⟩
          obtain ⟨cp, hcp⟩ : ∃ x, x = ns[k].comp := ⟨_, rfl⟩
          obtain ⟨nm', hnm⟩ : ∃ x, x = ns[k].name := ⟨_, rfl⟩
          rw [← hcu, ← hcp, ← hnm] at HW hBn oN
          rw [← hcu] at q1 hc0 Hn
          rw [← hcp] at q2
          rw [← hnm] at q0
          clear hcu hcp hnm
          obtain ⟨sp, hsp⟩ : ∃ x, x = witG k til ms (-1) := ⟨_, rfl⟩
          rw [← hsp] at HW Hn hwf
          clear hsp Hwf
          obtain ⟨gko, rfl⟩ : ∃ x : Nat, x = gk := ⟨_, rfl⟩
          obtain ⟨wo, rfl⟩ : ∃ x : World, x = wr := ⟨_, rfl⟩
          go_wp2_with (fail)
          refine (HW.out).mono ?_
          rintro e w4 ⟨As, cs, rfl, hos, hb4⟩
          have hz4 := hb4.size
          have hzn : (wo.alloc (.cells #[.string nm', .int .i64 cu', .int .i64 cp] 104)).heap.size = wo.heap.size + 1 := by simp
          rw [hzn] at hz4
          have bx : SV w4 (fun g => some g ≠ blockOf A') (some ⟨wo.heap.size, 0, none⟩) [.string nm', .int .i64 cu', .int .i64 cp] := SV.box ((hb4.block _ (by omega)).trans (heap_alloc_new wo _)) _ (fun e => by have := hAn _ e.symm; omega)
          have sp4 : SV w4 (fun g => some g ≠ blockOf A') As (recV spV sp) := (OV.sv hos).mono (fun g _ hg e => by have := hAn g e.symm; rw [hzn] at hg; omega)
          have o4 : OO w4 (fun g => w2.heap.size ≤ g) A' c' (catN H k) := OV.keep oN (Kept.of_below hb4)
          have hB4 := hBn.trans (hb4.mono (by rw [hzn]; omega))
          clear HW hos hb4 oN hBn ho hB hAn q0 q1 q2 hsm
          go_wp2_with (fail)
          go_loopg [12, 45] sp.length (fun g v i wn => ∃ (j : Nat) (A5 : Option Addr) (c5 : Nat) (ys : List Out), j + g = sp.length ∧ i = .int .i64 j ∧ ys = catN H k ++ (sp.take j).map (mkOut k cu') ∧ v = .slice A5 ys.length c5 ∧ OO wn (fun g => w2.heap.size ≤ g) A5 c5 ys ∧ Below w2.heap.size w2 wn ∧ SV wn (fun g => some g ≠ blockOf A5) (some ⟨wo.heap.size, 0, none⟩) [.string nm', .int .i64 cu', .int .i64 cp] ∧ SV wn (fun g => some g ≠ blockOf A5) As (recV spV sp) ∧ wo.heap.size + 1 ≤ wn.heap.size)
          case atStart => exact ⟨0, A', c', catN H k, by omega, rfl, by simp, rfl, o4, hB4, bx, sp4, hz4⟩
          case round =>
            clear o4 hB4 bx sp4 hz4
            obtain ⟨j, A5, c5, ys, hj, rfl, hys, rfl, o5, hB5, bx, sp5, hz5⟩ := hrel
            have Hj := Lib.hid hj
            have Hys := Lib.hid hys
            have hyl : ys.length ≤ 50000 := by rw [hys]; simp; omega
            clear hj hys
            by_cases hlj : j < sp.length
            · obtain ⟨b6, o6, rfl, _, _, hc6⟩ := sp5.rec spV_len (by decide) hlj
              have q0 := hc6 0 _ rfl
              have q1 := hc6 1 _ rfl
              simp only [Nat.add_zero] at q0
              have Hy2 := Lib.hid (show ys ++ [mkOut k cu' sp[j]] = catN H k ++ (sp.take (j + 1)).map (mkOut k cu') by rw [Hys.out, List.take_succ_eq_append_getElem hlj, List.map_append, List.append_assoc]; rfl)
              clear hc6
              generalize sp[j] = p at *
              obtain ⟨pf, pt⟩ := p
              simp only at q0 q1
              have hz6 := hB5.size
              have bxa := bx.keep (Kept.alloc _ wr (.cells #[.int .i64 pf, .int .i64 pt] 139))
              have d1 := bxa.lit 1 _ rfl
              rw [Nat.zero_add] at d1
              have o6' := OV.keep (OV.keep o5 (Kept.alloc _ wr (.cells #[.int .i64 pf, .int .i64 pt] 139))) (Kept.alloc _ _ (.cells (outV (mkOut k cu' (pf, pt))).toArray 141))
              go_wp2_with (at_builtin; go_must (refine wpList_pushRec outV_len (by decide) (B := w2.heap.size) 83 141 _ 32 Tryd.underlying83 outInfo rfl (by decide) rfl (.tmp 49) (.tmp 55) rfl (xs := ys) (mkOut k cu' (pf, pt)) (outV_one _) rfl rfl rfl o6' (out_cells _ _ (by simp) _) (by omega) (by simp; omega) ?_); intro A7 c7 w7 ho7 hb7 hg7 ha7)
              go_roundg (gk - 1)
              case measure => have := Hj.out; omega
              case rel =>
                have hza : w2.heap.size ≤ (wr.alloc (.cells #[.int .i64 pf, .int .i64 pt] 139)).heap.size := by simp; omega
                have hbn := ((hB5.alloc hB5.size (.cells #[.int .i64 pf, .int .i64 pt] 139)).alloc hza (.cells (outV (mkOut k cu' (pf, pt))).toArray 141)).trans hb7
                have s1 := (bxa.keep (Kept.alloc _ _ (.cells (outV (mkOut k cu' (pf, pt))).toArray 141))).push hg7 ha7
                have s2 := ((sp5.keep (Kept.alloc _ wr (.cells #[.int .i64 pf, .int .i64 pt] 139))).keep (Kept.alloc _ _ (.cells (outV (mkOut k cu' (pf, pt))).toArray 141))).push hg7 ha7
                exact ⟨j + 1, A7, c7, ys ++ [mkOut k cu' (pf, pt)], by have := Hj.out; omega, by go_num, Hy2.out, by simp, ho7, hbn, s1, s2, by have := hb7.size; simp at this; omega⟩
            · go_wp2_with (fail)
              go_roundg (gko - 1)
              case measure => have := Hk.out; omega
              case rel =>
                have e : ys = catN H (k + 1) := by rw [Hys.out, Hn.out, List.take_of_length_le (by omega)]
                rw [e] at o5
                exact ⟨k + 1, A5, c5, by have := Hk.out; omega, by go_num, by rw [e], o5, hB5⟩
      · go_wp2_with (fail)
        go_ret2
        have := Hk.out
        have hkn : k = ns.length := by omega
        subst hkn
        rw [HE.out]
        exact ⟨A', c', rfl, OV.mono ho (fun g _ hg => by have hg : w2.heap.size ≤ g := hg; have := hbB.size; show w.heap.size ≤ g; omega), hbB.trans (hB.mono hbB.size)⟩
end Go.Proofs.YtgpcojmdfmngeaaDoor

namespace Go.Proofs.YtgpcojmdfmngeaaDoor
open Go.RowKit
set_option maxHeartbeats 400000
set_option maxRecDepth 100000

def validB (a b : Int) : Bool := decide (0 ≤ a) && decide (a < b) && decide (b ≤ 16777216)
theorem calValid_any (w : World) (a b : Int) : Calls Tryd.prog 166 #[.agg #[.int .i64 a, .int .i64 b]] w fun e w' => e = .returned (.bool (validB a b)) ∧ Below w.heap.size w w' := by
  have hb := (Below.refl w.heap.size w).alloc (Nat.le_refl _) (.cells #[.int .i64 a, .int .i64 b] 139)
  by_cases h1 : 0 ≤ a
  · by_cases h2 : a < b
    · by_cases h3 : b ≤ 16777216
      · have hv : validB a b = true := by simp [validB, h1, h2, h3]
        rw [hv]
        go_enter Tryd.func166, Tryd.ntmps166
        go_wp2_with (fail)
        go_ret
        exact ⟨rfl, hb⟩
      · have hv : validB a b = false := by simp [validB, h3]
        rw [hv]
        go_enter Tryd.func166, Tryd.ntmps166
        go_wp2_with (fail)
        go_ret
        exact ⟨rfl, hb⟩
    · have hv : validB a b = false := by simp [validB, h2]
      rw [hv]
      go_enter Tryd.func166, Tryd.ntmps166
      go_wp2_with (fail)
      go_ret
      exact ⟨rfl, hb⟩
  · have hv : validB a b = false := by simp [validB, h1]
    rw [hv]
    go_enter Tryd.func166, Tryd.ntmps166
    go_wp2_with (fail)
    go_ret
    exact ⟨rfl, hb⟩
abbrev outAgg (o : Out) : Value := .agg #[.int .i64 o.node, .int .i64 o.cust, .int .i64 o.fr, .int .i64 o.til]
theorem minutes_any (w : World) (o : Out) (h : OkO 16777216 o) : Calls Tryd.prog 152 #[outAgg o] w fun e w' => e = .returned (.int .i64 (minO o)) ∧ Below w.heap.size w w' := by
  have hb := minO_bound h
  have hba := (Below.refl w.heap.size w).alloc (Nat.le_refl _) (.cells #[.int .i64 o.node, .int .i64 o.cust, .int .i64 o.fr, .int .i64 o.til] 141)
  obtain ⟨h1, h2, h3, h4, h5⟩ := h
  have w1 : IntKind.i64.wrap (o.til - o.fr) = o.til - o.fr := IntWalk.i64_in _ (by omega)
  have w2 : IntKind.i64.wrap (o.cust * (o.til - o.fr)) = minO o := (IntWalk.i64_in _ (by show -9223372036854775808 ≤ minO o ∧ minO o ≤ 9223372036854775807; omega))
  go_enter Tryd.func152, Tryd.ntmps152
  go_wp2_with (fail)
  go_ret
  exact ⟨rfl, hba⟩

set_option maxHeartbeats 2000000 in
theorem ocheck_any (w : World) (S : Nat → Prop) (A : Option Addr) (c : Nat) (l : List Out) (hs : SV w S A (recV outV l)) (hl : l.length ≤ 65536) :
    Calls Tryd.prog 151 #[.slice A l.length c] w fun e w' => e = .returned (.int .i64 (outsE l)) ∧ Below w.heap.size w w' := by
  by_cases hf : 4096 < l.length
  · have hfd : decide ((4096 : Int) < l.length) = true := decide_eq_true (by omega)
    have HE := Lib.hid (show outsE l = 1 by unfold outsE; rw [if_pos hf])
    go_enter Tryd.func151, Tryd.ntmps151
    go_wp2_with (fail)
    go_ret
    exact ⟨by rw [HE.out]; rfl, Below.refl _ _⟩
  · have hfd : decide ((4096 : Int) < l.length) = false := decide_eq_false (by omega)
    have HE := Lib.hid (show outsE l = outErr l by unfold outsE; rw [if_neg hf])
    go_enter Tryd.func151, Tryd.ntmps151
    go_wp2_with (fail)
    go_loopg [10] l.length (fun g i wr => ∃ k : Nat, k + g = l.length ∧ i = .int .i64 k ∧ outErr l = outErr (l.drop k) ∧ Below w.heap.size w wr)
    case atStart => exact ⟨0, by omega, rfl, rfl, Below.refl _ _⟩
    case round =>
      obtain ⟨k, hk, rfl, hi, hB⟩ := hrel
      have Hk := Lib.hid hk
      have Hi := Lib.hid hi
      clear hk hi
      by_cases hlt : k < l.length
      · obtain ⟨b, off, rfl, _, _, hc⟩ := (hs.keep (Kept.of_below hB)).rec outV_len (by decide) hlt
        have q0 := hc 0 _ rfl
        have q1 := hc 1 _ rfl
        have q2 := hc 2 _ rfl
        have q3 := hc 3 _ rfl
        simp only [Nat.add_zero] at q0
        have hd := outErr_drop l k hlt
        clear hc
        generalize l[k] = o at *
        obtain ⟨nd, cu, fr, til⟩ := o
        simp only at hd q0 q1 q2 q3
        have hBn := hB.alloc hB.size (.cells #[.int .i64 nd, .int .i64 cu, .int .i64 fr, .int .i64 til] 141)
        have hzn := hB.size
        have hzb : (wr.alloc (.cells #[.int .i64 nd, .int .i64 cu, .int .i64 fr, .int .i64 til] 141)).heap.size = wr.heap.size + 1 := by simp
        have hV := calValid_any (wr.alloc (.cells #[.int .i64 nd, .int .i64 cu, .int .i64 fr, .int .i64 til] 141)) fr til
        have hbox := heap_alloc_new wr (.cells #[.int .i64 nd, .int .i64 cu, .int .i64 fr, .int .i64 til] 141)
        by_cases hv : 0 ≤ fr ∧ fr < til ∧ til ≤ 16777216
        · rw [if_pos hv] at hd
          rw [show validB fr til = true by simp [validB, hv]] at hV
          have HV := Lib.hid hV
          clear hV hv
          by_cases h1 : decide (cu < 0) = true
          · have Hd := Lib.hid (show outErr (l.drop k) = 5 by rw [hd, if_pos (.inl (by simpa using h1))])
            clear hd
            go_wp2_with (fail)
            refine HV.out.mono ?_
            rintro e w1 ⟨rfl, hb1⟩
            have hbx := (hb1.block _ (by omega)).trans hbox
            have p1 : w1.cell? ⟨wr.heap.size, 1, none⟩ = some (.int .i64 cu) := by rw [cell_of_row w1 _ 1 _ _ _ hbx]; rfl
            go_wp2_with (fail)
            go_ret
            exact ⟨by rw [HE.out, Hi.out, Hd.out]; rfl, hBn.trans (hb1.mono (by omega))⟩
          · have h1 : decide (cu < 0) = false := by simpa using h1
            by_cases h2 : decide (1048576 < cu) = true
            · have Hd := Lib.hid (show outErr (l.drop k) = 5 by rw [hd, if_pos (.inr (by simpa using h2))])
              clear hd
              go_wp2_with (fail)
              refine HV.out.mono ?_
              rintro e w1 ⟨rfl, hb1⟩
              have hbx := (hb1.block _ (by omega)).trans hbox
              have p1 : w1.cell? ⟨wr.heap.size, 1, none⟩ = some (.int .i64 cu) := by rw [cell_of_row w1 _ 1 _ _ _ hbx]; rfl
              go_wp2_with (fail)
              go_ret
              exact ⟨by rw [HE.out, Hi.out, Hd.out]; rfl, hBn.trans (hb1.mono (by omega))⟩
            · have h2 : decide (1048576 < cu) = false := by simpa using h2
              have Hd := Lib.hid (show outErr (l.drop k) = outErr (l.drop (k + 1)) by rw [hd, if_neg (by simp at h1 h2; omega)])
              clear hd
              go_wp2_with (fail)
              refine HV.out.mono ?_
              rintro e w1 ⟨rfl, hb1⟩
              have hbx := (hb1.block _ (by omega)).trans hbox
              have p1 : w1.cell? ⟨wr.heap.size, 1, none⟩ = some (.int .i64 cu) := by rw [cell_of_row w1 _ 1 _ _ _ hbx]; rfl
              go_wp2_with (fail)
              go_roundg (gk - 1)
              case measure => have := Hk.out; omega
              case rel => exact ⟨k + 1, by have := Hk.out; omega, by go_num, by rw [Hi.out, Hd.out], hBn.trans (hb1.mono (by omega))⟩
        · rw [if_neg hv] at hd
          rw [show validB fr til = false by simp only [validB, Bool.and_eq_false_iff, decide_eq_false_iff_not]; omega] at hV
          have HV := Lib.hid hV
          have Hd := Lib.hid hd
          clear hV hv hd
          go_wp2_with (fail)
          refine HV.out.mono ?_
          rintro e w1 ⟨rfl, hb1⟩
          go_wp2_with (fail)
          go_ret
          exact ⟨by rw [HE.out, Hi.out, Hd.out]; rfl, hBn.trans (hb1.mono (by omega))⟩
      · go_wp2_with (fail)
        go_ret
        refine ⟨?_, hB⟩
        rw [HE.out, Hi.out, List.drop_of_length_le (by omega)]
        rfl
theorem outsE_zero {l : List Out} (h : outsE l = 0) : l.length ≤ 4096 ∧ ∀ o ∈ l, OkO 16777216 o := by
  unfold outsE at h
  split at h
  · cases h
  · exact ⟨by omega, outErr_zero h⟩
def minutesE (l : List Out) : Int × Int := if outsE l ≠ 0 then (0, outsE l) else (minL l, 0)
def longE (k : Int) (l : List Out) : Int × Int := if outsE l ≠ 0 then (0, outsE l) else (longL k l, 0)

set_option maxHeartbeats 2000000 in
theorem Minutes_any (w : World) (S : Nat → Prop) (A : Option Addr) (c : Nat) (l : List Out) (hs : SV w S A (recV outV l)) (hl : l.length ≤ 65536) :
    Calls Tryd.prog 90 #[.slice A l.length c] w (RetPair w (minutesE l)) := by
  have HC := Lib.hid (ocheck_any w S A c l hs hl)
  have HE := Lib.hid (show minutesE l = if outsE l ≠ 0 then (0, outsE l) else (minL l, 0) from rfl)
  have HZ := Lib.hid (show outsE l = 0 → _ from outsE_zero)
  generalize outsE l = ce at *
  by_cases h0 : (ce != 0) = true
  · have H0 := Lib.hid (show ¬ ce = 0 by simpa using h0)
    go_enter Tryd.func90, Tryd.ntmps90
    go_wp2_with (fail)
    refine (HC.out).mono ?_
    rintro e w1 ⟨rfl, hb1⟩
    go_wp2_with (fail)
    go_ret2
    rw [HE.out, if_pos H0.out]
    exact ⟨rfl, hb1⟩
  · have h0' : (ce != 0) = false := by simpa using h0
    have hz : ce = 0 := by simpa using h0
    rw [if_neg (by simpa using hz)] at HE
    obtain ⟨hl', hok⟩ := HZ.out hz
    have Hok := Lib.hid hok
    rw [hz] at HC
    clear h0 hz hok h0'
    go_enter Tryd.func90, Tryd.ntmps90
    go_wp2_with (fail)
    refine (HC.out).mono ?_
    rintro e w1 ⟨rfl, hb1⟩
    go_wp2_with (fail)
    go_loopg [5, 15] l.length (fun g s i wr => ∃ k : Nat, k + g = l.length ∧ i = .int .i64 k ∧ s = .int .i64 (minL (l.take k)) ∧ Below w.heap.size w wr)
    case atStart => exact ⟨0, by omega, rfl, rfl, hb1⟩
    case round =>
      clear hb1
      obtain ⟨k, hk, rfl, rfl, hB⟩ := hrel
      have Hk := Lib.hid hk
      clear hk
      by_cases hlt : k < l.length
      · obtain ⟨b, off, rfl, _, _, hc⟩ := (hs.keep (Kept.of_below hB)).rec outV_len (by decide) hlt
        have q0 := hc 0 _ rfl
        have q1 := hc 1 _ rfl
        have q2 := hc 2 _ rfl
        have q3 := hc 3 _ rfl
        simp only [Nat.add_zero] at q0
        have ho := Hok.out l[k] (List.getElem_mem hlt)
        have hmt := minL_take l k hlt
        have hb2 := minL_bound (l := l.take k) (fun o h => Hok.out o (List.mem_of_mem_take h))
        have hb3 := minO_bound ho
        rw [List.length_take] at hb2
        have hzn := hB.size
        clear hc
        generalize l[k] = o at *
        have hBn := hB.alloc hB.size (.cells #[.int .i64 o.node, .int .i64 o.cust, .int .i64 o.fr, .int .i64 o.til] 141)
        have HM := Lib.hid (minutes_any (wr.alloc (.cells #[.int .i64 o.node, .int .i64 o.cust, .int .i64 o.fr, .int .i64 o.til] 141)) o ho)
        have Hmt := Lib.hid hmt
        generalize minL (l.take k) = s0 at *
        generalize minO o = s1 at *
        have hwr : IntKind.i64.wrap (s0 + s1) = s0 + s1 := IntWalk.i64_in _ (by omega)
        clear hmt ho
        go_wp2_with (fail)
        refine HM.out.mono ?_
        rintro e w2 ⟨rfl, hb4⟩
        go_wp2_with (fail)
        go_roundg (gk - 1)
        case measure => have := Hk.out; omega
        case rel => exact ⟨k + 1, by have := Hk.out; omega, by go_num, by rw [Hmt.out], hBn.trans (hb4.mono hBn.size)⟩
      · have he : minL (l.take k) = minL l := by rw [List.take_of_length_le (by omega)]
        rw [he]
        go_wp2_with (fail)
        go_ret2
        rw [HE.out]
        exact ⟨rfl, hB⟩

set_option maxHeartbeats 2000000 in
theorem Long_any (w : World) (S : Nat → Prop) (A : Option Addr) (c : Nat) (l : List Out) (hs : SV w S A (recV outV l)) (hl : l.length ≤ 65536) (lim : Int) :
    Calls Tryd.prog 92 #[.slice A l.length c, .int .i64 lim] w (RetPair w (longE lim l)) := by
  have HC := Lib.hid (ocheck_any w S A c l hs hl)
  have HE := Lib.hid (show longE lim l = if outsE l ≠ 0 then (0, outsE l) else (longL lim l, 0) from rfl)
  have HZ := Lib.hid (show outsE l = 0 → _ from outsE_zero)
  generalize outsE l = ce at *
  by_cases h0 : (ce != 0) = true
  · have H0 := Lib.hid (show ¬ ce = 0 by simpa using h0)
    go_enter Tryd.func92, Tryd.ntmps92
    go_wp2_with (fail)
    refine (HC.out).mono ?_
    rintro e w1 ⟨rfl, hb1⟩
    go_wp2_with (fail)
    go_ret2
    rw [HE.out, if_pos H0.out]
    exact ⟨rfl, hb1⟩
  · have h0' : (ce != 0) = false := by simpa using h0
    have hz : ce = 0 := by simpa using h0
    rw [if_neg (by simpa using hz)] at HE
    obtain ⟨hl', hok⟩ := HZ.out hz
    have Hok := Lib.hid hok
    rw [hz] at HC
    clear h0 hz hok h0'
    go_enter Tryd.func92, Tryd.ntmps92
    go_wp2_with (fail)
    refine (HC.out).mono ?_
    rintro e w1 ⟨rfl, hb1⟩
    go_wp2_with (fail)
    go_loopg [7, 17] l.length (fun g s i wr => ∃ k : Nat, k + g = l.length ∧ i = .int .i64 k ∧ s = .int .i64 (longL lim (l.take k)) ∧ Below w.heap.size w wr)
    case atStart => exact ⟨0, by omega, rfl, rfl, hb1⟩
    case round =>
      clear hb1
      obtain ⟨k, hk, rfl, rfl, hB⟩ := hrel
      have Hk := Lib.hid hk
      clear hk
      by_cases hlt : k < l.length
      · obtain ⟨b, off, rfl, _, _, hc⟩ := (hs.keep (Kept.of_below hB)).rec outV_len (by decide) hlt
        have q0 := hc 0 _ rfl
        have q1 := hc 1 _ rfl
        have q2 := hc 2 _ rfl
        have q3 := hc 3 _ rfl
        simp only [Nat.add_zero] at q0
        have ho := Hok.out l[k] (List.getElem_mem hlt)
        have hmt := longL_take lim l k hlt
        have hb2 := longL_bound lim (l := l.take k) (fun o h => Hok.out o (List.mem_of_mem_take h))
        rw [List.length_take] at hb2
        have hzn := hB.size
        clear hc
        generalize l[k] = o at *
        have hBn := hB.alloc hB.size (.cells #[.int .i64 o.node, .int .i64 o.cust, .int .i64 o.fr, .int .i64 o.til] 141)
        generalize longL lim (l.take k) = s0 at *
        obtain ⟨o1, o2, o3, o4, o5⟩ := ho
        obtain ⟨nd, cu, fr, til⟩ := o
        simp only at o1 o2 o3 o4 o5 hmt q0 q1 q2 q3 hBn
        have hw1 : IntKind.i64.wrap (til - fr) = til - fr := IntWalk.i64_in _ (by omega)
        have hwr : IntKind.i64.wrap (s0 + cu) = s0 + cu := IntWalk.i64_in _ (by omega)
        by_cases hg : lim < til - fr
        · have hgd : decide (lim < til - fr) = true := decide_eq_true hg
          have Hmt := Lib.hid (show longL lim (l.take (k + 1)) = s0 + cu by rw [hmt, if_pos hg])
          clear hmt hg
          go_wp2_with (fail)
          go_roundg (gk - 1)
          case measure => have := Hk.out; omega
          case rel => exact ⟨k + 1, by have := Hk.out; omega, by go_num, by rw [Hmt.out], hBn⟩
        · have hgd : decide (lim < til - fr) = false := decide_eq_false hg
          have Hmt := Lib.hid (show longL lim (l.take (k + 1)) = s0 by rw [hmt, if_neg hg, Int.add_zero])
          clear hmt hg
          go_wp2_with (fail)
          go_roundg (gk - 1)
          case measure => have := Hk.out; omega
          case rel => exact ⟨k + 1, by have := Hk.out; omega, by go_num, by rw [Hmt.out], hBn⟩
      · have he : longL lim (l.take k) = longL lim l := by rw [List.take_of_length_le (by omega)]
        rw [he]
        go_wp2_with (fail)
        go_ret2
        rw [HE.out]
        exact ⟨rfl, hB⟩
end Go.Proofs.YtgpcojmdfmngeaaDoor

namespace Go.Proofs.YtgpcojmdfmngeaaDoor
open Go.RowKit
set_option maxHeartbeats 400000
set_option maxRecDepth 100000

def worstE (l : List Out) : Int × Bool := if l = [] ∨ outsE l ≠ 0 then (0, false) else ((bestN (minAt l) l.length : Nat), true)
def RetIB (w : World) (r : Int × Bool) (e : Ending) (w' : World) : Prop := e = .returned (.tuple #[.int .i64 r.1, .bool r.2]) ∧ Below w.heap.size w w'

set_option maxHeartbeats 4000000 in
theorem OWorst_any (w : World) (S : Nat → Prop) (A : Option Addr) (c : Nat) (l : List Out) (hs : SV w S A (recV outV l)) (hl : l.length ≤ 65536) :
    Calls Tryd.prog 94 #[.slice A l.length c] w (RetIB w (worstE l)) := by
  have HC := Lib.hid (ocheck_any w S A c l hs hl)
  have HE := Lib.hid (show worstE l = (if l = [] ∨ outsE l ≠ 0 then ((0 : Int), false) else (((bestN (minAt l) l.length : Nat) : Int), true)) from rfl)
  have HZ := Lib.hid (show outsE l = 0 → _ from outsE_zero)
  generalize outsE l = ce at *
  by_cases hl0 : l.length = 0
  · have hle : l = [] := List.eq_nil_of_length_eq_zero hl0
    have h0d : ((l.length : Int) == 0) = true := by simp [hl0]
    rw [if_pos (Or.inl hle)] at HE
    clear hle
    go_enter Tryd.func94, Tryd.ntmps94
    go_wp2_with (fail)
    go_ret2
    rw [HE.out]
    exact ⟨rfl, Below.refl _ _⟩
  · have hne : l ≠ [] := fun e => hl0 (by rw [e]; rfl)
    have h0d : ((l.length : Int) == 0) = false := by simp; omega
    by_cases h0 : (ce != 0) = true
    · rw [if_pos (Or.inr (by simpa using h0))] at HE
      clear hne
      go_enter Tryd.func94, Tryd.ntmps94
      go_wp2_with (fail)
      refine (HC.out).mono ?_
      rintro e w1 ⟨rfl, hb1⟩
      go_wp2_with (fail)
      go_ret2
      rw [HE.out]
      exact ⟨rfl, hb1⟩
    · have h0' : (ce != 0) = false := by simpa using h0
      have hz : ce = 0 := by simpa using h0
      rw [if_neg (by rintro (h | h); exact hne h; exact h hz)] at HE
      obtain ⟨hl', hok⟩ := HZ.out hz
      have Hok := Lib.hid hok
      rw [hz] at HC
      clear h0 hz hok h0' hne
      go_enter Tryd.func94, Tryd.ntmps94
      go_wp2_with (fail)
      refine (HC.out).mono ?_
      rintro e w1 ⟨rfl, hb1⟩
      go_wp2_with (fail)
      go_loopg [4, 17] l.length (fun g s i wr => ∃ k : Nat, k + g = l.length ∧ i = .int .i64 k ∧ s = .int .i64 (bestN (minAt l) k : Nat) ∧ Below w.heap.size w wr)
      case atStart => exact ⟨0, by omega, rfl, rfl, hb1⟩
      case round =>
        clear hb1
        obtain ⟨k, hk, rfl, rfl, hB⟩ := hrel
        have Hk := Lib.hid hk
        clear hk
        by_cases hlt : k < l.length
        · obtain ⟨b, off, rfl, _, _, hc⟩ := (hs.keep (Kept.of_below hB)).rec outV_len (by decide) hlt
          have q0 := hc 0 _ rfl
          have q1 := hc 1 _ rfl
          have q2 := hc 2 _ rfl
          have q3 := hc 3 _ rfl
          simp only [Nat.add_zero] at q0
          have ho := Hok.out l[k] (List.getElem_mem hlt)
          have hbn : bestN (minAt l) k < l.length := by have := bestN_lt (minAt l) k; omega
          have hp := Hok.out _ (List.getElem_mem hbn)
          have hst : bestN (minAt l) (k + 1) = if minO l[bestN (minAt l) k] < minO l[k] then k else bestN (minAt l) k := by rw [bestN, minAt_get hlt, minAt_get hbn]
          obtain ⟨b', off', e1, _, _, hc'⟩ := ((hs.keep (Kept.of_below hB)).keep (Kept.alloc _ wr (.cells #[.int .i64 l[k].node, .int .i64 l[k].cust, .int .i64 l[k].fr, .int .i64 l[k].til] 141))).rec outV_len (by decide) hbn
          injection e1 with e1
          injection e1 with e1 e2
          subst e1 e2
          have r0 := hc' 0 _ rfl
          have r1 := hc' 1 _ rfl
          have r2 := hc' 2 _ rfl
          have r3 := hc' 3 _ rfl
          simp only [Nat.add_zero] at r0
          have hzn := hB.size
          have hBn := hB.alloc hB.size (.cells #[.int .i64 l[k].node, .int .i64 l[k].cust, .int .i64 l[k].fr, .int .i64 l[k].til] 141)
          have hbox := heap_alloc_new wr (.cells #[.int .i64 l[k].node, .int .i64 l[k].cust, .int .i64 l[k].fr, .int .i64 l[k].til] 141)
          clear hc hc'
          generalize l[bestN (minAt l) k] = p at *
          generalize l[k] = o at *
          generalize bestN (minAt l) k = bi at *
          have Hst := Lib.hid hst
          clear hst
          obtain ⟨wi, hwi⟩ : ∃ x, x = wr.alloc (.cells #[.int .i64 o.node, .int .i64 o.cust, .int .i64 o.fr, .int .i64 o.til] 141) := ⟨_, rfl⟩
          have bx0 : wi.cell? ⟨wr.heap.size, 0, none⟩ = some (.int .i64 o.node) := by rw [hwi, cell_of_row _ _ 0 _ _ _ hbox]; rfl
          have bx1 : wi.cell? ⟨wr.heap.size, 1, none⟩ = some (.int .i64 o.cust) := by rw [hwi, cell_of_row _ _ 1 _ _ _ hbox]; rfl
          have bx2 : wi.cell? ⟨wr.heap.size, 2, none⟩ = some (.int .i64 o.fr) := by rw [hwi, cell_of_row _ _ 2 _ _ _ hbox]; rfl
          have bx3 : wi.cell? ⟨wr.heap.size, 3, none⟩ = some (.int .i64 o.til) := by rw [hwi, cell_of_row _ _ 3 _ _ _ hbox]; rfl
          rw [← hwi] at r0 r1 r2 r3 hBn
          have Hwi := Lib.hid hwi
          clear hwi hbox
          go_upto_region 7 with (fail)
          rw [← Hwi.out]
          clear q0 q1 q2 q3
          go_cut [29] (fun v wx => v = .bool (decide (minO p < minO o)) ∧ Below wi.heap.size wi wx)
          case first =>
            refine wp_region_ext1 (by kernel_rfl) 8 [22, 23, 24, 25, 26, 27, 28, 29] (fun w' => Below wi.heap.size wi w') (fun a b => Below a.heap.size a b) (fun d vv w' => if d = 22 then vv = outAgg o else if d = 23 then vv = .int .i64 (minO o) else if d = 24 then vv = .slice (some ⟨b, off, none⟩) l.length c else if d = 25 then vv = .int .i64 (bi : Nat) else if d = 26 then vv = .pointer (some ⟨b, off + bi * 4, none⟩) else if d = 27 then vv = outAgg p else if d = 28 then vv = .int .i64 (minO p) else if d = 29 then vv = .bool (decide (minO p < minO o)) else False) (by kernel_rfl) ((Below.refl _ _).drew) (fun _ _ _ _ _ _ h => h) ?_ ?_
            · intro i o d hi ho hd f w1 hC hdep K hK
              have hi' : i = 0 ∨ i = 1 ∨ i = 2 ∨ i = 3 ∨ i = 4 ∨ i = 5 ∨ i = 6 ∨ i = 7 := by omega
              rcases hi' with rfl | rfl | rfl | rfl | rfl | rfl | rfl | rfl
              · simp only [List.getElem?_toArray, List.getElem?_cons_zero, Option.some.injEq] at ho
                subst ho
                simp only [Option.some.injEq] at hd
                subst hd
                generalize hA : fr _ _ _ f = A at hK ⊢
                have e6 : A.tmps[6]?.getD undef = .pointer (some ⟨wr.heap.size, 0, none⟩) := by rw [← hA]; exact fr_out _ _ _ _ 6 _ (by decide) rfl
                clear hA hdep
                have hc0 := (hC.cell (p := ⟨wr.heap.size, 0, none⟩) (World.block_lt_of_cell? _ _ bx0)).trans bx0
                have hc1 := (hC.cell (p := ⟨wr.heap.size, 1, none⟩) (World.block_lt_of_cell? _ _ bx1)).trans bx1
                have hc2 := (hC.cell (p := ⟨wr.heap.size, 2, none⟩) (World.block_lt_of_cell? _ _ bx2)).trans bx2
                have hc3 := (hC.cell (p := ⟨wr.heap.size, 3, none⟩) (World.block_lt_of_cell? _ _ bx3)).trans bx3
                go_simp
                exact hK _ _ (Below.refl _ _) hC rfl
              · simp only [List.getElem?_toArray, List.getElem?_cons_zero, List.getElem?_cons_succ, Option.some.injEq] at ho
                subst ho
                simp only [Option.some.injEq] at hd
                subst hd
                have h22 : f 22 = outAgg o := hdep { on := 0, ground := .data } (by simp) rfl 22 rfl
                generalize hA : fr _ _ _ f = A at hK ⊢
                have e22 : A.tmps[22]?.getD undef = f 22 := by rw [← hA]; exact fr_in _ _ _ _ 22 (by decide) (by simp)
                clear hA hdep
                rw [h22] at e22
                clear h22
                go_simp
                refine (minutes_any w1 o ho).mono ?_
                rintro e' w2 ⟨rfl, hb2⟩
                exact hK _ _ hb2 (hC.trans (hb2.mono hC.size)) rfl
              · simp only [List.getElem?_toArray, List.getElem?_cons_zero, List.getElem?_cons_succ, Option.some.injEq] at ho
                subst ho
                simp only [Option.some.injEq] at hd
                subst hd
                generalize hA : fr _ _ _ f = A at hK ⊢
                have e0 : A.tmps[0]?.getD undef = .slice (some ⟨b, off, none⟩) l.length c := by rw [← hA]; exact fr_out _ _ _ _ 0 _ (by decide) rfl
                clear hA hdep
                go_simp
                exact hK _ _ (Below.refl _ _) hC rfl
              · simp only [List.getElem?_toArray, List.getElem?_cons_zero, List.getElem?_cons_succ, Option.some.injEq] at ho
                subst ho
                simp only [Option.some.injEq] at hd
                subst hd
                generalize hA : fr _ _ _ f = A at hK ⊢
                have e4 : A.tmps[4]?.getD undef = .int .i64 (bi : Nat) := by rw [← hA]; exact fr_out _ _ _ _ 4 _ (by decide) rfl
                clear hA hdep
                go_simp
                exact hK _ _ (Below.refl _ _) hC rfl
              · simp only [List.getElem?_toArray, List.getElem?_cons_zero, List.getElem?_cons_succ, Option.some.injEq] at ho
                subst ho
                simp only [Option.some.injEq] at hd
                subst hd
                have h24 : f 24 = .slice (some ⟨b, off, none⟩) l.length c := hdep { on := 2, ground := .data } (by simp) rfl 24 rfl
                have h25 : f 25 = .int .i64 (bi : Nat) := hdep { on := 3, ground := .data } (by simp) rfl 25 rfl
                generalize hA : fr _ _ _ f = A at hK ⊢
                have e24 : A.tmps[24]?.getD undef = f 24 := by rw [← hA]; exact fr_in _ _ _ _ 24 (by decide) (by simp)
                have e25 : A.tmps[25]?.getD undef = f 25 := by rw [← hA]; exact fr_in _ _ _ _ 25 (by decide) (by simp)
                clear hA hdep
                rw [h24] at e24
                clear h24
                rw [h25] at e25
                clear h25
                go_simp
                exact hK _ _ (Below.refl _ _) hC rfl
              · simp only [List.getElem?_toArray, List.getElem?_cons_zero, List.getElem?_cons_succ, Option.some.injEq] at ho
                subst ho
                simp only [Option.some.injEq] at hd
                subst hd
                have h26 : f 26 = .pointer (some ⟨b, off + bi * 4, none⟩) := hdep { on := 4, ground := .data } (by simp) rfl 26 rfl
                generalize hA : fr _ _ _ f = A at hK ⊢
                have e26 : A.tmps[26]?.getD undef = f 26 := by rw [← hA]; exact fr_in _ _ _ _ 26 (by decide) (by simp)
                clear hA hdep
                rw [h26] at e26
                clear h26
                have hc0 := (hC.cell (World.block_lt_of_cell? _ _ r0)).trans r0
                have hc1 := (hC.cell (World.block_lt_of_cell? _ _ r1)).trans r1
                have hc2 := (hC.cell (World.block_lt_of_cell? _ _ r2)).trans r2
                have hc3 := (hC.cell (World.block_lt_of_cell? _ _ r3)).trans r3
                go_simp
                exact hK _ _ (Below.refl _ _) hC rfl
              · simp only [List.getElem?_toArray, List.getElem?_cons_zero, List.getElem?_cons_succ, Option.some.injEq] at ho
                subst ho
                simp only [Option.some.injEq] at hd
                subst hd
                have h27 : f 27 = outAgg p := hdep { on := 5, ground := .data } (by simp) rfl 27 rfl
                generalize hA : fr _ _ _ f = A at hK ⊢
                have e27 : A.tmps[27]?.getD undef = f 27 := by rw [← hA]; exact fr_in _ _ _ _ 27 (by decide) (by simp)
                clear hA hdep
                rw [h27] at e27
                clear h27
                go_simp
                refine (minutes_any w1 p hp).mono ?_
                rintro e' w2 ⟨rfl, hb2⟩
                exact hK _ _ hb2 (hC.trans (hb2.mono hC.size)) rfl
              · simp only [List.getElem?_toArray, List.getElem?_cons_zero, List.getElem?_cons_succ, Option.some.injEq] at ho
                subst ho
                simp only [Option.some.injEq] at hd
                subst hd
                have h23 : f 23 = .int .i64 (minO o) := hdep { on := 1, ground := .data } (by simp) rfl 23 rfl
                have h28 : f 28 = .int .i64 (minO p) := hdep { on := 6, ground := .data } (by simp) rfl 28 rfl
                generalize hA : fr _ _ _ f = A at hK ⊢
                have e23 : A.tmps[23]?.getD undef = f 23 := by rw [← hA]; exact fr_in _ _ _ _ 23 (by decide) (by simp)
                have e28 : A.tmps[28]?.getD undef = f 28 := by rw [← hA]; exact fr_in _ _ _ _ 28 (by decide) (by simp)
                clear hA hdep
                rw [h23] at e23
                clear h23
                rw [h28] at e28
                clear h28
                go_simp
                exact hK _ _ (Below.refl _ _) hC rfl
            · intro f w1 hC hall
              have q0 : f 29 = .bool (decide (minO p < minO o)) := hall 7 29 (by decide) rfl
              have H0 := Lib.hid q0
              clear hall q0
              simp only [fr, upd, List.mapIdx_cons, List.mapIdx_nil]
              simp
              go_wp2_with fail
              go_meet
              case rel => exact ⟨H0.out, hC⟩
          case rest =>
            obtain ⟨rfl, hb2⟩ := hcut
            by_cases hg : minO p < minO o
            · have hgd : decide (minO p < minO o) = true := decide_eq_true hg
              have Hst := Lib.hid (show bestN (minAt l) (k + 1) = k by rw [Hst.out, if_pos hg])
              rw [hgd]
              clear hg
              go_wp2_with (fail)
              go_roundg (gk - 1)
              case measure => have := Hk.out; omega
              case rel => exact ⟨k + 1, by have := Hk.out; omega, by go_num, by rw [Hst.out], hBn.trans (hb2.mono hBn.size)⟩
            · have hgd : decide (minO p < minO o) = false := decide_eq_false hg
              have Hst := Lib.hid (show bestN (minAt l) (k + 1) = bi by rw [Hst.out, if_neg hg])
              rw [hgd]
              clear hg
              go_wp2_with (fail)
              go_roundg (gk - 1)
              case measure => have := Hk.out; omega
              case rel => exact ⟨k + 1, by have := Hk.out; omega, by go_num, by rw [Hst.out], hBn.trans (hb2.mono hBn.size)⟩
        · have hkn : k = l.length := by have := Hk.out; omega
          subst hkn
          go_wp2_with (fail)
          go_ret2
          rw [HE.out]
          exact ⟨rfl, hB⟩
end Go.Proofs.YtgpcojmdfmngeaaDoor

namespace Go.Proofs.YtgpcojmdfmngeaaDoor
open Go.RowKit
set_option maxHeartbeats 400000
set_option maxRecDepth 100000

def awN22 : List Node := [⟨⟨#[65]⟩, 10, 0⟩]
def awD22 : List Dev := [⟨⟨#[83]⟩, 5, 0, -1, 0⟩]
def awC22 : List Chg := [⟨5, 0, 1⟩, ⟨8, 0, 2⟩]
def awO22 : List Out := [⟨0, 10, 5, 8⟩]
theorem aw22_out : outagesE awN22 awD22 [2] awC22 20 = (awO22, 0) := by decide +kernel
theorem aw22_min : minutesE awO22 = (30, 0) := by decide +kernel

set_option maxHeartbeats 2000000 in
theorem awake22 (w : World) (h : TabC w) (ht : Tab w) : Calls Tryd.prog 81 #[] w (RetT w) := by
  go_enter Tryd.func81, Tryd.ntmps81
  go_wp2_with (fail)
  obtain ⟨e1, e2, e3, e4, ez, eb⟩ := four w (.cells (nodesV awN22).toArray 104) (.cells (devsV awD22).toArray 78) (.cells #[.slice (some ⟨w.heap.size, 0, none⟩) 1 1, .slice (some ⟨w.heap.size + 1, 0, none⟩) 1 1] 26) (.cells (ints [2]).toArray 3)
  obtain ⟨V, hV⟩ : ∃ V, V = ((((w.alloc (.cells (nodesV awN22).toArray 104)).alloc (.cells (devsV awD22).toArray 78)).alloc (.cells #[.slice (some ⟨w.heap.size, 0, none⟩) 1 1, .slice (some ⟨w.heap.size + 1, 0, none⟩) 1 1] 26)).alloc (.cells (ints [2]).toArray 3)) := ⟨_, rfl⟩
  rw [← hV] at e1 e2 e3 e4 ez eb
  have e5 := heap_alloc_new V (.cells (recV chgV awC22).toArray 86)
  have bV := (Below.refl V.heap.size V).alloc (Nat.le_refl _) (.cells (recV chgV awC22).toArray 86)
  obtain ⟨W, hW⟩ : ∃ W, W = V.alloc (.cells (recV chgV awC22).toArray 86) := ⟨_, rfl⟩
  rw [← hW] at e5 bV
  have hbW := eb.trans (bV.mono eb.size)
  have hin : NetIn W (fun _ => True) (some ⟨w.heap.size, 0, none⟩) (some ⟨w.heap.size + 1, 0, none⟩) awN22 awD22 := NetIn.below ⟨SV.block e1, SV.block e2, by decide, by decide⟩ bV
  have hu : SI W (fun _ => True) (some ⟨w.heap.size + 1 + 1 + 1, 0, none⟩) [2] := SI.keep (SV.block e4) (Kept.of_below bV)
  have hx : SV W (fun _ => True) (some ⟨V.heap.size, 0, none⟩) (recV chgV awC22) := SV.block e5
  have HC := Outages_any W (h.below hbW) (ht.below hbW) _ _ _ 1 1 awN22 awD22 hin (by decide) (by decide) _ 1 [2] hu (by decide) _ _ 2 awC22 hx (by decide) 20
  rw [aw22_out, ez, hW, hV] at HC
  have HC := Lib.hid HC
  refine HC.out.mono ?_
  rw [← hV, ← hW]
  rintro e w1 ⟨A', c', rfl, ho1, hb1⟩
  clear HC hin hu hx e1 e2 e3 e4 e5 hV hW ez eb bV
  have hb1' := hbW.trans (hb1.mono hbW.size)
  have s1 := OV.sv ho1
  have HM := Minutes_any w1 _ A' c' awO22 s1 (by decide)
  rw [aw22_min] at HM
  have HM := Lib.hid HM
  go_wp2_with (fail)
  refine HM.out.mono ?_
  rintro e w2 ⟨rfl, hb2⟩
  have hb2' := hb1'.trans (hb2.mono hb1'.size)
  have s2 := s1.keep (Kept.of_below hb2)
  obtain ⟨b, off, rfl, _, _, hc⟩ := s2.rec outV_len (by decide) (show 0 < awO22.length by decide)
  have q2 := hc 2 _ rfl
  have q3 := hc 3 _ rfl
  have hal : awO22.length = 1 := rfl
  rw [Nat.zero_mul, Nat.add_zero] at q2 q3
  clear hc
  go_wp2_with (fail)
  go_ret
  exact ⟨rfl, hb2'⟩
end Go.Proofs.YtgpcojmdfmngeaaDoor

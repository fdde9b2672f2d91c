/-
  The walk of the reference's Way.
-/
import Derived.Test.YtgpcojmdfmngeaaDoorRStep
import Derived.Test.YtgpcojmdfmngeaaDoorGd
namespace Go.Proofs.YtgpcojmdfmngeaaDoor
open Go.RowKit
set_option maxHeartbeats 400000
set_option maxRecDepth 100000

/-- The blocks of the reference's Way: the boxed network, the steps; all of it below M. -/
structure WSt (w : World) (v1 v2 : Value) (n g M : Nat) (wr : World) (out : List Int) : Prop where
  box : wr.heap[w.heap.size]? = some (.cells #[v1, v2] 26 (0, 0))
  out : OIb wr g n out
  bel : Below w.heap.size w wr
  gm : g < M
  wm : w.heap.size < M
  top : M ≤ wr.heap.size
section
variable {w wr w' : World} {v1 v2 : Value} {n g M : Nat} {out : List Int}
theorem WSt.belowM (h : WSt w v1 v2 n g M wr out) (hb : Below M wr w') : WSt w v1 v2 n g M w' out :=
  ⟨(hb.block _ h.wm).trans h.box, h.out.fr (hb.block _ h.gm), h.bel.trans (hb.mono (by have := h.wm; omega)), h.gm, h.wm, Nat.le_trans h.top hb.size⟩
theorem WSt.below (h : WSt w v1 v2 n g M wr out) (hb : Below wr.heap.size wr w') : WSt w v1 v2 n g M w' out := h.belowM (hb.mono h.top)
theorem WSt.n0 (h : WSt w v1 v2 n g M wr out) : wr.cell? ⟨w.heap.size, 0, none⟩ = some v1 := by rw [cell_of_row wr _ 0 _ _ _ h.box]; rfl
theorem WSt.n1 (h : WSt w v1 v2 n g M wr out) : wr.cell? ⟨w.heap.size, 1, none⟩ = some v2 := by rw [cell_of_row wr _ 1 _ _ _ h.box]; rfl
end
theorem existsB_neg {n : Nat} {a : Int} (h : a < 0) : existsB n a = false := by unfold existsB; simp; omega
theorem existsB_big {n : Nat} {a : Int} (h : (n : Int) ≤ a) : existsB n a = false := by unfold existsB; simp; omega
theorem other_ok {ns : List Node} {ds : List Dev} (hc : checkL ns ds = 0) {m : Nat} (hm : m < ds.length) (v : Int) : otherL ns ds m v = acrossL ds[m] v := by
  unfold otherL
  rw [if_pos ⟨hc, by omega, by omega⟩]
  simp [hm]

set_option maxHeartbeats 4000000 in
theorem refWay_any (w : World) (S : Nat → Prop) (A1 A2 : Option Addr) (c1 c2 : Nat) (ns : List Node) (ds : List Dev) (hn : NetIn w S A1 A2 ns ds) (hl1 : ns.length ≤ 65536) (hl2 : ds.length ≤ 65536)
    (U : Option Addr) (cu : Nat) (use : List Bool) (hu : SB w S U use) (_hul : use.length ≤ 65536) (a b : Int) :
    Calls Tryd.prog 29 #[.agg #[.slice A1 ns.length c1, .slice A2 ds.length c2], .slice U use.length cu, .int .i64 a, .int .i64 b] w (RetWay w (wayL ns ds use a b)) := by
  have hb := (Below.refl w.heap.size w).alloc (Nat.le_refl _) (.cells #[.slice A1 ns.length c1, .slice A2 ds.length c2] 26)
  have HC := Lib.hid (refCheck_any _ S A1 A2 c1 c2 ns ds (hn.below hb) hl1 hl2)
  have HZ := @checkL_zero ns ds
  have HO := fun (h : checkL ns ds = 0) (m : Nat) (hm : m < ds.length) (v : Int) => other_ok h hm v
  have HE := Lib.hid (show wayL ns ds use a b = if checkL ns ds ≠ 0 then ([], false, checkL ns ds) else if use.length ≠ ds.length then ([], false, 9) else if existsB ns.length a = false ∨ existsB ns.length b = false then ([], false, 7)
    else if PO.at_ (distL ds use [b.toNat]) a.toNat < 0 then ([], false, 0) else ((trailZ (distL ds use [b.toNat]) (ds.zip use) (PO.at_ (distL ds use [b.toNat]) a.toNat).toNat a.toNat).1, true, 0) from rfl)
  generalize checkL ns ds = ce at *
  have HZ := Lib.hid HZ
  have HO := Lib.hid HO
  by_cases h0 : (ce != 0) = true
  · have H0 := Lib.hid (show ¬ ce = 0 by simpa using h0)
    go_enter Tryd.func29, Tryd.ntmps29
    go_wp2_with (go_at_call 17; (with_reducible refine (HC.out).mono ?_); rintro e w1 ⟨rfl, hb1⟩)
    go_ret3
    rw [HE.out, if_pos H0.out]
    exact ⟨none, 0, rfl, OI.nil _ _, hb.trans (hb1.mono hb.size)⟩
  · have h0' : (ce != 0) = false := by simpa using h0
    have hz : ce = 0 := by simpa using h0
    have hD := HZ.out hz
    have HO := Lib.hid (HO.out hz)
    rw [if_neg (by simpa using hz)] at HE
    clear h0 hz HZ
    by_cases hlen : use.length = ds.length
    · have hlb : ((use.length : Int) != ds.length) = false := by simp [hlen]
      rw [if_neg (by simpa using hlen)] at HE
      have Hlen := Lib.hid hlen
      have HD := Lib.hid hD
      clear hlen hD
      go_enter Tryd.func29, Tryd.ntmps29
      go_wp2_with (fail)
      refine (HC.out).mono ?_
      rintro e w1 ⟨rfl, hb1⟩
      have hbA := hb.trans (hb1.mono hb.size)
      have Hbox := Lib.hid (box_at hb1)
      have n0 : w1.cell? ⟨w.heap.size, 0, none⟩ = some (.slice A1 ns.length c1) := by rw [cell_of_row w1 _ 0 _ _ _ Hbox.out]; rfl
      have n1 : w1.cell? ⟨w.heap.size, 1, none⟩ = some (.slice A2 ds.length c2) := by rw [cell_of_row w1 _ 1 _ _ _ Hbox.out]; rfl
      have hw1 : w.heap.size < w1.heap.size := by have := hb1.size; simp at this; omega
      clear hb1 hb HC
      by_cases ha0 : a < 0
      · rw [if_pos (.inl (existsB_neg ha0))] at HE
        have had : decide (a < 0) = true := decide_eq_true ha0
        go_wp2_with (fail)
        go_ret3
        rw [HE.out]
        exact ⟨none, 0, rfl, OI.nil _ _, hbA⟩
      by_cases hab : (ns.length : Int) ≤ a
      · rw [if_pos (.inl (existsB_big hab))] at HE
        go_wp2_with (fail)
        go_ret3
        rw [HE.out]
        exact ⟨none, 0, rfl, OI.nil _ _, hbA⟩
      obtain ⟨ka, rfl⟩ := Int.eq_ofNat_of_zero_le (show 0 ≤ a by omega)
      have hka : ka < ns.length := by omega
      clear ha0 hab
      by_cases hb0 : b < 0
      · rw [if_pos (.inr (existsB_neg hb0))] at HE
        have hbd : decide (b < 0) = true := decide_eq_true hb0
        go_wp2_with (fail)
        go_ret3
        rw [HE.out]
        exact ⟨none, 0, rfl, OI.nil _ _, hbA⟩
      by_cases hbb : (ns.length : Int) ≤ b
      · rw [if_pos (.inr (existsB_big hbb))] at HE
        go_wp2_with (fail)
        go_ret3
        rw [HE.out]
        exact ⟨none, 0, rfl, OI.nil _ _, hbA⟩
      obtain ⟨kb, rfl⟩ := Int.eq_ofNat_of_zero_le (show 0 ≤ b by omega)
      have hkb : kb < ns.length := by omega
      clear hb0 hbb
      rw [if_neg (by unfold existsB; simp; omega)] at HE
      simp only [Int.toNat_natCast] at HE
      have hn1 : 1 ≤ ns.length := by omega
      have hgs : ∀ g ∈ [kb], g < ns.length := by simpa using hkb
      have Hdd := Lib.hid (dist_ok HD.out hn1 use [kb] hgs)
      have Hfar := Lib.hid (dist_far HD.out hn1 use [kb] hgs)
      have Hstep := Lib.hid (dist_step HD.out hn1 use [kb] hgs)
      have hacr : ∀ d ∈ ds, ∀ v, acrossL d v < ns.length := fun d hd v => across_lt (HD.out.ends d hd).2.2 hn1 v
      have hbD := hbA.alloc hbA.size (.cells #[.int .i64 (kb : Int)] 3)
      have hbd1 := (Below.refl w1.heap.size w1).alloc (Nat.le_refl _) (.cells #[.int .i64 (kb : Int)] 3)
      have HS := Lib.hid (refSteps_any _ (fun _ => True) A1 A2 c1 c2 ns ds ((hn.below hbD).mono (fun _ _ _ => trivial)) HD.out U cu use ((hu.keep (Kept.of_below hbD)).mono (fun _ _ _ => trivial)) Hlen.out (some ⟨w1.heap.size, 0, none⟩) 1 [kb]
            ((OI.lit w1 [(kb : Int)] (by simp [maxLen])).si.mono (fun _ _ _ => trivial)) (by simp) hgs)
      go_wp2_with (fail)
      refine (HS.out).mono ?_
      rintro e w2 ⟨gs, st, rfl, hst, hgs2, hb2, hdi⟩
      have hb12 := hbd1.trans (hb2.mono hbd1.size)
      have Hsame := Lib.hid (fun v => PO.Dist.same hdi Hdd.out v)
      have Hsl := Lib.hid hdi.len
      have Hzero := Lib.hid hdi.zero
      have hw12 := hb12.size
      have hw2s := hb2.size
      have D : WSt w (.slice A1 ns.length c1) (.slice A2 ds.length c2) ns.length gs w2.heap.size w2 st :=
        ⟨(hb12.block _ hw1).trans Hbox.out, hst, hbA.trans (hb12.mono hbA.size), hst.lt, by omega, Nat.le_refl _⟩
      rw [← Hsame.out ka] at HE
      have Htz := Lib.hid (trailZ_same Hsame.out (ds.zip use))
      rw [← Htz.out] at HE
      have Hstep := Lib.hid (fun (v : Nat) (hv : 0 < PO.at_ st v) => by
        have h1 := Hstep.out v (by rw [← Hsame.out v]; exact hv)
        rw [← stepZ_same Hsame.out v] at h1
        exact h1)
      have Hfar := Lib.hid (fun v => by rw [Hsame.out v]; exact Hfar.out v : ∀ v, PO.at_ st v < ns.length)
      clear Htz Hsame Hdd hdi HS hbd1 hbD hb12 hst hgs2 hb2 n0 n1 Hbox hbA hw12 hw2s hgs
      obtain ⟨q1, q2, _⟩ := D.out.at_ (k := ka) (by rw [Hsl.out]; exact hka)
      rw [← at_get (by rw [Hsl.out]; exact hka)] at q1
      have hl32 := HD.out.few
      have hl64 := HD.out.dev
      by_cases hneg : PO.at_ st ka < 0
      · rw [if_pos hneg] at HE
        go_wp2_with (fail)
        go_ret3
        rw [HE.out]
        exact ⟨none, 0, rfl, OI.nil _ _, D.bel⟩
      · rw [if_neg hneg] at HE
        have hnn : 0 ≤ PO.at_ st ka := by omega
        go_wp2_with (fail)
        have hF : (PO.at_ st ka).toNat ≤ 32 := by have := Hfar.out ka; omega
        generalize hFe : (PO.at_ st ka).toNat = F at *
        have HF := Lib.hid hFe
        clear hFe hneg
        go_loopg [13, 14] F (fun g s13 s14 wr => ∃ (u : Nat) (ys : List Nat) (A' : Option Addr) (c' : Nat), u < ns.length ∧ 0 ≤ PO.at_ st u ∧ g = (PO.at_ st u).toNat ∧ s14 = .int .i64 u ∧ s13 = .slice A' ys.length c' ∧ OI wr (fun g => w2.heap.size ≤ g) A' c' (nats ys) ∧ WSt w (.slice A1 ns.length c1) (.slice A2 ds.length c2) ns.length gs w2.heap.size wr st ∧
          (trailZ st (ds.zip use) F ka).1 = ys ++ (trailZ st (ds.zip use) g u).1 ∧ ys.length + g ≤ 32)
        case atStart => exact ⟨ka, [], none, 0, hka, hnn, HF.out.symm, rfl, rfl, OI.nil _ _, D, rfl, by simpa using hF⟩
        case round =>
          clear D hF hnn q1 q2
          obtain ⟨u, ys, A', c', hun, hu0, hgk, rfl, rfl, hown, D, htr, hyl⟩ := hrel
          have Hgk := Lib.hid hgk
          have Htr := Lib.hid htr
          have Hz := Lib.hid (Hzero.out u)
          clear hgk htr
          by_cases hukb : ((u : Int) != (kb : Int)) = true
          · have hpos : 0 < PO.at_ st u := by
              have h1 : ¬ PO.at_ st u = 0 := fun h => by
                have := Hz.out.1 h
                simp at this
                simp [this] at hukb
              omega
            have Hs := Lib.hid (Hstep.out u hpos)
            have n1 := D.n1
            go_wp2_with (fail)
            obtain ⟨wo, rfl⟩ : ∃ wo : World, wo = wr := ⟨_, rfl⟩
            obtain ⟨go, rfl⟩ : ∃ x : Nat, x = gk := ⟨_, rfl⟩
            go_loopg [13, 14, 15] ds.length (fun g s13 s14 i wr => ∃ (m : Nat), m + g = ds.length ∧ i = .int .i64 m ∧ s14 = .int .i64 u ∧ s13 = .slice A' ys.length c' ∧ OI wr (fun g => w2.heap.size ≤ g) A' c' (nats ys) ∧ WSt w (.slice A1 ns.length c1) (.slice A2 ds.length c2) ns.length gs w2.heap.size wr st ∧
              stepZ st u (ds.zip use) 0 = stepZ st u ((ds.zip use).drop m) m)
            case atStart => exact ⟨0, by omega, rfl, rfl, rfl, hown, D, rfl⟩
            case round =>
              clear D hown n1
              obtain ⟨m, hm, rfl, rfl, rfl, hown, D, hst⟩ := hrel
              have Hm := Lib.hid hm
              have Hst := Lib.hid hst
              clear hm hst
              have n0 := D.n0
              have n1 := D.n1
              by_cases hlt : m < ds.length
              · have hmz : m < (ds.zip use).length := by have := Hlen.out; simp; omega
                have hmu : m < use.length := by have := Hlen.out; omega
                have Hd := Lib.hid (show stepZ st u ((ds.zip use).drop m) m = if 0 ≤ acrossL ds[m] u ∧ use[m] = true ∧ PO.at_ st (acrossL ds[m] u).toNat = PO.at_ st u - 1 then some (m, (acrossL ds[m] u).toNat) else stepZ st u ((ds.zip use).drop (m + 1)) (m + 1) from by rw [stepZ_drop st u (ds.zip use) m hmz]; simp)
                have hy := hacr ds[m] (List.getElem_mem hlt) u
                have HOt := refOther_any wr S A1 A2 c1 c2 ns ds (hn.below D.bel) hl1 hl2 m u
                rw [HO.out m hlt u] at HOt
                have HOt := Lib.hid HOt
                generalize acrossL ds[m] u = y at *
                go_wp2_with (fail)
                refine (HOt.out).mono ?_
                rintro e w3 ⟨rfl, hb3⟩
                have D1 := D.below hb3
                have hown1 := hown.keep (Kept.of_below hb3)
                obtain ⟨bu, ou, rfl, _, _, hcu⟩ := (hu.keep (Kept.of_below D1.bel)).at_ hmu
                clear n0 n1 D hown HOt hb3
                by_cases huse : use[m] = true
                · rw [huse] at hcu
                  have HU := Lib.hid huse
                  clear huse
                  by_cases hy0 : 0 ≤ y
                  · obtain ⟨x, rfl⟩ := Int.eq_ofNat_of_zero_le hy0
                    have hxn : x < ns.length := by omega
                    obtain ⟨a1, a2, _⟩ := D1.out.at_ (k := x) (by rw [Hsl.out]; exact hxn)
                    obtain ⟨b1, b2, _⟩ := D1.out.at_ (k := u) (by rw [Hsl.out]; exact hun)
                    rw [← at_get (by rw [Hsl.out]; exact hxn)] at a1
                    rw [← at_get (by rw [Hsl.out]; exact hun)] at b1
                    have hfu := Hfar.out u
                    by_cases heq : PO.at_ st x = PO.at_ st u - 1
                    · have heq' : (PO.at_ st x == PO.at_ st u - 1) = true := by simpa using heq
                      have Heq := Lib.hid heq
                      clear heq
                      have Hd' := Lib.hid (show stepZ st u ((ds.zip use).drop m) m = some (m, x) by rw [Hd.out, if_pos ⟨hy0, HU.out, by simpa using Heq.out⟩]; simp)
                      go_wp2_with (fail)
                      go_quiet (fail)
                      have D2 := D1.belowM (below_drewN w2.heap.size w3 nq)
                      have hown2 := hown1.keep (Kept.drewN _ w3 nq)
                      have hsz2 := D2.top
                      have hyb : ys.length ≤ 32 := by omega
                      go_wp2_with (at_builtin; go_must (refine wpList_push (B := w2.heap.size) rfl (.tmp 93) (.tmp 95) rfl rfl rfl (by simp [nats]) (hown2.keep (Kept.alloc _ _ _)) (new_cell' _ _ _ _ (by simp [World.drewN])) (by simp [nats]; omega) (by simp at hsz2 ⊢; omega) ?_); intro A4 c4 w4 ho4 hb4 _ _)
                      have hgo := Hgk.out
                      go_roundg (go - 1)
                      case measure => omega
                      case rel =>
                        have hx := Heq.out
                        refine ⟨x, ys ++ [m], A4, c4, hxn, by omega, by omega, rfl, ?_, ?_, (D2.belowM ((Below.refl _ _).alloc hsz2 _)).belowM hb4, ?_, ?_⟩
                        · simp [nats]
                        · have e : nats ys ++ [(m : Int)] = nats (ys ++ [m]) := by simp [nats]
                          rw [← e]; exact ho4
                        · obtain ⟨g1, rfl⟩ : ∃ g1, go = g1 + 1 := ⟨go - 1, by omega⟩
                          rw [Htr.out]
                          simp only [trailZ]
                          rw [Hst.out, Hd'.out]
                          simp
                        · simp; omega
                    · have heq' : (PO.at_ st x == PO.at_ st u - 1) = false := by simpa using heq
                      have Hd' := Lib.hid (show stepZ st u ((ds.zip use).drop m) m = stepZ st u ((ds.zip use).drop (m + 1)) (m + 1) by rw [Hd.out, if_neg (fun h => heq (by simpa using h.2.2))])
                      clear heq
                      go_wp2_with (fail)
                      go_quiet (fail)
                      go_wp2_with (fail)
                      go_roundg (gk - 1)
                      case measure => have := Hm.out; omega
                      case rel => exact ⟨m + 1, by have := Hm.out; omega, by go_num, rfl, rfl, hown1.keep (Kept.drewN _ w3 nq), D1.belowM (below_drewN w2.heap.size w3 nq), by rw [Hst.out, Hd'.out]⟩
                  · have hyd : decide (0 ≤ y) = false := by simpa using hy0
                    rw [if_neg (fun h => hy0 h.1)] at Hd
                    go_wp2_with (fail)
                    go_quiet (fail)
                    go_wp2_with (fail)
                    go_roundg (gk - 1)
                    case measure => have := Hm.out; omega
                    case rel => exact ⟨m + 1, by have := Hm.out; omega, by go_num, rfl, rfl, hown1.keep (Kept.drewN _ w3 nq), D1.belowM (below_drewN w2.heap.size w3 nq), by rw [Hst.out, Hd.out]⟩
                · have huse : use[m] = false := by simpa using huse
                  rw [if_neg (by simp [huse])] at Hd
                  rw [huse] at hcu
                  have HU := Lib.hid huse
                  clear huse
                  go_wp2_with (fail)
                  go_quiet (fail)
                  go_wp2_with (fail)
                  go_roundg (gk - 1)
                  case measure => have := Hm.out; omega
                  case rel => exact ⟨m + 1, by have := Hm.out; omega, by go_num, rfl, rfl, hown1.keep (Kept.drewN _ w3 nq), D1.belowM (below_drewN w2.heap.size w3 nq), by rw [Hst.out, Hd.out]⟩
              · have hst := Hst.out
                rw [List.drop_of_length_le (by simp; omega)] at hst
                have := Hs.out
                rw [hst] at this
                cases this
          · have hukb : ((u : Int) != (kb : Int)) = false := by simpa using hukb
            have hg0 : gk = 0 := by
              have h1 : (u : Int) = kb := by simpa using hukb
              have := Hz.out.2 (by simp; omega)
              have := Hgk.out
              omega
            go_wp2_with (fail)
            go_ret3
            subst hg0
            have htr := Htr.out
            simp only [trailZ, List.append_nil] at htr
            rw [HE.out, htr]
            exact ⟨A', c', rfl, hown.mono (T := fun g => w.heap.size ≤ g) (fun g _ hg => by have := D.wm; show _ ≤ g; omega), D.bel⟩
    · have hlb : ((use.length : Int) != ds.length) = true := by simp; omega
      go_enter Tryd.func29, Tryd.ntmps29
      go_wp2_with (fail)
      refine (HC.out).mono ?_
      rintro e w1 ⟨rfl, hb1⟩
      have hbA := hb.trans (hb1.mono hb.size)
      have Hbox := Lib.hid (box_at hb1)
      have n1 : w1.cell? ⟨w.heap.size, 1, none⟩ = some (.slice A2 ds.length c2) := by rw [cell_of_row w1 _ 1 _ _ _ Hbox.out]; rfl
      go_wp2_with (fail)
      go_ret3
      rw [HE.out, if_pos (by omega)]
      exact ⟨none, 0, rfl, OI.nil _ _, hbA⟩
end Go.Proofs.YtgpcojmdfmngeaaDoor

/-
  The walk of the reference's Parts.
-/
import Derived.Test.YtgpcojmdfmngeaaDoorPRef7
import Derived.Test.YtgpcojmdfmngeaaDoorR06s
import Derived.Test.YtgpcojmdfmngeaaDoorGd
import Derived.BigQuiet
namespace Go.Proofs.YtgpcojmdfmngeaaDoor
open Go.RowKit
set_option maxHeartbeats 400000
set_option maxRecDepth 100000

/-- The blocks of the reference's Parts: the boxed network, the numbers. -/
structure PQ (w : World) (v1 v2 : Value) (go n : Nat) (wr : World) (out : List Int) : Prop where
  box : wr.heap[w.heap.size]? = some (.cells #[v1, v2] 26 (0, 0))
  out : OIb wr go n out
  lt : w.heap.size < go
  bel : Below w.heap.size w wr
section
variable {w wr w' : World} {v1 v2 : Value} {go n : Nat} {out : List Int}
theorem PQ.size (h : PQ w v1 v2 go n wr out) : go < wr.heap.size := h.out.lt
theorem PQ.below (h : PQ w v1 v2 go n wr out) (hb : Below wr.heap.size wr w') : PQ w v1 v2 go n w' out := by
  have hs := h.size
  have hl := h.lt
  exact ⟨(hb.block _ (by omega)).trans h.box, h.out.fr (hb.block _ (by omega)), h.lt, h.bel.trans (hb.mono h.bel.size)⟩
theorem PQ.set (h : PQ w v1 v2 go n wr out) (k : Nat) (x : Int) : PQ w v1 v2 go n (wr.setCell ⟨go, k, none⟩ (.int .i64 x)) (out.set k x) :=
  ⟨(Below.heap_setCell _ _ _ _ (by show w.heap.size ≠ go; have := h.lt; omega)).trans h.box, h.out.set k x, h.lt, h.bel.setCell (by show w.heap.size ≤ go; have := h.lt; omega) _⟩
theorem PQ.n0 (h : PQ w v1 v2 go n wr out) : wr.cell? ⟨w.heap.size, 0, none⟩ = some v1 := by rw [cell_of_row wr _ 0 _ _ _ h.box]; rfl
theorem PQ.n1 (h : PQ w v1 v2 go n wr out) : wr.cell? ⟨w.heap.size, 1, none⟩ = some v2 := by rw [cell_of_row wr _ 1 _ _ _ h.box]; rfl
end
/-- The inner loop's relation. -/
def S7 (w : World) (v1 v2 : Value) (go n L : Nat) (ds : List Dev) (st : List Int) (m0 : Nat) (g : Nat) (ch i : Value) (wr : World) : Prop :=
  ∃ (m : Nat) (b : Bool) (out : List Int), m + g = L ∧ i = .int .i64 m ∧ ch = .bool b ∧ PQ w v1 v2 go n wr out ∧ PInv n ds st out ∧ muS out ≤ m0 ∧ (b = true → muS out < m0) ∧ (b = false → ∀ z ∈ (ds.zip (useOf st)).take m, Rl7 out z)
theorem S7.more {w wz : World} {v1 v2 : Value} {go n L m0 g m : Nat} {ds : List Dev} {st out out' : List Int} (hm : m + g = L) (hl : m < L) (hle : muS out ≤ m0) (h : PInv n ds st out' ∧ muS out' < muS out) (D : PQ w v1 v2 go n wz out') :
    S7 w v1 v2 go n L ds st m0 (g - 1) (.bool true) (.int .i64 ((m : Int) + 1)) wz :=
  ⟨m + 1, true, out', by omega, by go_num, rfl, D, h.1, by omega, fun _ => by omega, fun h => by cases h⟩
theorem S7.keep {w wz : World} {v1 v2 : Value} {go n L m0 g m : Nat} {ds : List Dev} {st : List Int} {b : Bool} {out : List Int} {z : Dev × Bool} (hm : m + g = L) (hl : m < L) (hR : PInv n ds st out) (hle : muS out ≤ m0) (hb1 : b = true → muS out < m0) (hb2 : b = false → ∀ z ∈ (ds.zip (useOf st)).take m, Rl7 out z)
    (hz : (ds.zip (useOf st)).take (m + 1) = (ds.zip (useOf st)).take m ++ [z]) (hr : Rl7 out z) (D : PQ w v1 v2 go n wz out) :
    S7 w v1 v2 go n L ds st m0 (g - 1) (.bool b) (.int .i64 ((m : Int) + 1)) wz :=
  ⟨m + 1, b, out, by omega, by go_num, rfl, D, hR, hle, hb1, fun h x hx => by
    rw [hz] at hx
    rcases List.mem_append.1 hx with hx | hx
    · exact hb2 h x hx
    · rw [List.mem_singleton.1 hx]; exact hr⟩

set_option maxHeartbeats 8000000 in
theorem refParts_any (w : World) (S : Nat → Prop) (A1 A2 : Option Addr) (c1 c2 : Nat) (ns : List Node) (ds : List Dev) (hn : NetIn w S A1 A2 ns ds) (hl1 : ns.length ≤ 65536) (hl2 : ds.length ≤ 65536)
    (U : Option Addr) (cu : Nat) (st : List Int) (hs : SI w S U st) (hsl : st.length ≤ 65536) :
    Calls Tryd.prog 66 #[.agg #[.slice A1 ns.length c1, .slice A2 ds.length c2], .slice U st.length cu] w (RetIE w (partsE ns ds st)) := by
  have hb := (Below.refl w.heap.size w).alloc (Nat.le_refl _) (.cells #[.slice A1 ns.length c1, .slice A2 ds.length c2] 26)
  have HC := Lib.hid (refState_any _ S A1 A2 c1 c2 ns ds (hn.below hb) hl1 hl2 U cu st (hs.keep (Kept.of_below hb)) hsl)
  have HZ := Lib.hid (@maskC_zero isPos ns ds st)
  have HE := Lib.hid (show partsE ns ds st = if maskC isPos ns ds st ≠ 0 then ([], maskC isPos ns ds st) else (partsL ns.length ds st, 0) from rfl)
  generalize maskC isPos ns ds st = ce at *
  by_cases h0 : (ce != 0) = true
  · have H0 := Lib.hid (show ¬ ce = 0 by simpa using h0)
    go_enter Tryd.func66, Tryd.ntmps66
    go_wp2_with (fail)
    refine (HC.out).mono ?_
    rintro e w1 ⟨rfl, hb1⟩
    go_wp2_with (fail)
    go_ret2
    rw [HE.out, if_pos H0.out]
    exact ⟨none, 0, rfl, OI.nil _ _, hb.trans (hb1.mono hb.size)⟩
  · have h0' : (ce != 0) = false := by simpa using h0
    have hz : ce = 0 := by simpa using h0
    obtain ⟨z1, z2, z3⟩ := HZ.out hz
    have hD := checkL_zero z1
    rw [if_neg (by simpa using hz)] at HE
    have Z2 := Lib.hid z2
    have HD := Lib.hid hD
    have hl1 := hD.few
    have hl2 := hD.dev
    rw [hz] at HC
    clear h0 hz z1 z2 z3 HZ h0' hD
    go_enter Tryd.func66, Tryd.ntmps66
    go_wp2_with (fail)
    refine (HC.out).mono ?_
    rintro e w1 ⟨rfl, hb1⟩
    have hbA := hb.trans (hb1.mono hb.size)
    have Hbox := Lib.hid (box_at hb1)
    have n0 : w1.cell? ⟨w.heap.size, 0, none⟩ = some (.slice A1 ns.length c1) := by rw [cell_of_row w1 _ 0 _ _ _ Hbox.out]; rfl
    obtain ⟨w2, hmk, ho2, hb2, hz2⟩ := make_ints w1 ns.length (by omega)
    have hlt1 : w.heap.size < w1.heap.size := by have := hb1.size; simp at this; omega
    have D0 : PQ w (.slice A1 ns.length c1) (.slice A2 ds.length c2) w1.heap.size ns.length w2 (filled (idL ns.length) 0 0) := by
      rw [filled_zero, idL_len]
      exact ⟨(hb2.block _ hlt1).trans Hbox.out, ho2, hlt1, hbA.trans (hb2.mono hbA.size)⟩
    clear hb2 hz2 ho2 HC hb1 hbA Hbox hb
    go_wp2_with (fail)
    clear hmk n0
    obtain ⟨go, hgo⟩ : ∃ x, x = w1.heap.size := ⟨_, rfl⟩
    rw [← hgo] at D0 ⊢
    clear hgo hlt1
    go_loopg [8] ns.length (fun g i wr => ∃ k : Nat, k + g = ns.length ∧ i = .int .i64 k ∧ PQ w (.slice A1 ns.length c1) (.slice A2 ds.length c2) go ns.length wr (filled (idL ns.length) 0 k))
    case atStart => exact ⟨0, by omega, rfl, D0⟩
    case round =>
      clear D0
      obtain ⟨k, hk, rfl, D⟩ := hrel
      have Hk := Lib.hid hk
      clear hk
      by_cases hlt : k < ns.length
      · obtain ⟨q1, q2, _⟩ := D.out.at_ (k := k) (by rw [filled_len _ _ _ (by rw [idL_len]; omega), idL_len]; exact hlt)
        have Hst := Lib.hid (show (filled (idL ns.length) 0 k).set k (k : Int) = filled (idL ns.length) 0 (k + 1) by rw [← filled_step _ _ k (by rw [idL_len]; exact hlt)]; congr 1; simp [idL])
        go_wp2_with (fail)
        go_roundg (gk - 1)
        case measure => have := Hk.out; omega
        case rel => exact ⟨k + 1, by have := Hk.out; omega, by go_num, by rw [← Hst.out]; exact D.set k k⟩
      · rw [filled_all _ _ _ (by rw [idL_len]; omega)] at D
        have R := PInv.start ns.length ds st
        obtain ⟨out, hout⟩ : ∃ out, out = idL ns.length := ⟨_, rfl⟩
        rw [← hout] at D R
        clear hout Hk
        go_wp2_with (fail)
        clear hlt
        obtain ⟨wo2, rfl⟩ : ∃ wo2 : World, wo2 = wr := ⟨_, rfl⟩
        go_loopg [9] (muS out + 1) (fun g ch wr => ∃ (b : Bool) (out : List Int), ch = .bool b ∧ PQ w (.slice A1 ns.length c1) (.slice A2 ds.length c2) go ns.length wr out ∧ PInv ns.length ds st out ∧ (b = true → muS out + 1 ≤ g) ∧ (b = false → ∀ z ∈ ds.zip (useOf st), Rl7 out z))
        case atStart => exact ⟨true, out, rfl, D, R, fun _ => Nat.le_refl _, fun h => by cases h⟩
        case round =>
          clear D R out
          obtain ⟨b, out0, rfl, D, R, hm, hz⟩ := hrel
          cases b
          · have Hd := Lib.hid (pfix HD.out R (hz rfl))
            have Hdl := Lib.hid R.len
            clear hm hz R
            go_wp2_with (fail)
            go_ret2
            rw [HE.out]
            refine ⟨some ⟨go, 0, none⟩, ns.length, ?_, ?_, D.bel⟩
            · show _ = Ending.returned (.tuple #[.slice (some ⟨go, 0, none⟩) (partsL ns.length ds st).length ns.length, .int .i64 0])
              rw [← Hd.out, Hdl.out]; rfl
            · show OI _ _ _ _ (partsL ns.length ds st)
              rw [← Hd.out]
              exact OI.mono D.out (fun g _ hg => by have := D.lt; have hg : g = go := hg; show w.heap.size ≤ g; omega)
          · have Hm := Lib.hid (hm rfl)
            clear hm hz
            obtain ⟨m0, hm0⟩ : ∃ x, x = muS out0 := ⟨_, rfl⟩
            rw [← hm0] at Hm
            have n1 := D.n1
            go_wp2_with (fail)
            obtain ⟨wo3, rfl⟩ : ∃ wo3 : World, wo3 = wr := ⟨_, rfl⟩
            obtain ⟨gko, rfl⟩ : ∃ x : Nat, x = gk := ⟨_, rfl⟩
            go_loopg [9, 10] ds.length (S7 w (.slice A1 ns.length c1) (.slice A2 ds.length c2) go ns.length ds.length ds st m0)
            case atStart => exact ⟨0, false, out0, by omega, rfl, rfl, D, R, by rw [hm0]; exact Nat.le_refl _, (fun h => by cases h), fun _ z hz => by simp at hz⟩
            case round =>
              clear D R hm0 out0 n1
              obtain ⟨m, b, out, hm, rfl, rfl, D, R, hle, hb1, hb2⟩ := hrel
              have Hk := Lib.hid hm
              have Hle := Lib.hid hle
              have Hb1 := Lib.hid hb1
              have Hb2 := Lib.hid hb2
              clear hm hle hb1 hb2
              have n1 := D.n1
              by_cases hlt : m < ds.length
              · obtain ⟨b', off, rfl, hS, hbl, q0, q1, q2, q3, q4⟩ := (hn.below D.bel).dev hlt
                have hms : m < st.length := by have := Z2.out; omega
                have Hzs := Lib.hid (show (ds.zip (useOf st)).take (m + 1) = (ds.zip (useOf st)).take m ++ [(ds[m], st[m] == 2)] by rw [List.take_succ_eq_append_getElem (by simp [useOf]; omega), List.getElem_zip]; simp [useOf])
                have hbA := (Below.refl wr.heap.size wr).alloc (Nat.le_refl _) (.cells #[.string ds[m].name, .int .i64 ds[m].kind, .int .i64 ds[m].a, .int .i64 ds[m].b, .int .i64 ds[m].comp] 78)
                have D1 := D.below hbA
                have he := (HD.out.ends ds[m] (List.getElem_mem hlt)).2.2
                have HJ := fun q : Nat => refJoins_any ds[m].kind ((wr.alloc (.cells #[.string ds[m].name, .int .i64 ds[m].kind, .int .i64 ds[m].a, .int .i64 ds[m].b, .int .i64 ds[m].comp] 78)).drewN q)
                obtain ⟨bu, ou, rfl, _, _, hcu⟩ := (hs.keep (Kept.of_below D1.bel)).at_ hms
                have HR := Lib.hid R
                by_cases huse : (st[m] != 2) = true
                · have Hr := Lib.hid (show Rl7 out (ds[m], st[m] == 2) from fun h => by simp at h huse; exact absurd h huse)
                  generalize st[m] = sm at *
                  clear he R HJ
                  go_wp2_with (fail)
                  go_quiet (fail)
                  go_wp2_with (fail)
                  go_roundg (gk - 1)
                  case measure => have := Hk.out; omega
                  case rel => exact S7.keep Hk.out hlt HR.out Hle.out Hb1.out Hb2.out Hzs.out Hr.out (D1.below (below_drewN _ _ _))
                · have huse : (st[m] != 2) = false := by simpa using huse
                  have hs2 : st[m] = 2 := by simpa using huse
                  by_cases hj : joinsB ds[m].kind = true
                  · rw [hj] at HJ
                    have HJ := Lib.hid HJ
                    obtain ⟨e1, e2, e3, _⟩ := endsB_parts he
                    have e3 := e3 hj
                    have Hnb := Lib.hid (nb_ends (use := useOf st) HD.out hlt (by simp [useOf]; exact hms) (by simp [useOf, hs2]) hj)
                    have Hrx := Lib.hid (show Rl7 out (ds[m], st[m] == 2) ↔ PO.at_ out ds[m].a.toNat = PO.at_ out ds[m].b.toNat from by unfold Rl7; simp only [hs2, hj, forall_const, beq_self_eq_true])
                    obtain ⟨ka, hka⟩ := Int.eq_ofNat_of_zero_le e1
                    obtain ⟨kb, hkb⟩ := Int.eq_ofNat_of_zero_le e3.1
                    have hkan : ka < ns.length := by omega
                    have hkbn : kb < ns.length := by omega
                    rw [hs2] at hcu Hzs Hrx
                    rw [hka, hkb] at hcu
                    rw [hka] at q2 D1
                    rw [hkb] at q3 D1
                    rw [hka, hkb, Int.toNat_natCast, Int.toNat_natCast] at Hnb Hrx
                    rw [hka, hkb] at HJ
                    clear e1 e2 e3 he hj hka hkb hbA huse hs2
                    have hal : ka < out.length := by rw [R.len]; exact hkan
                    have hbl : kb < out.length := by rw [R.len]; exact hkbn
                    obtain ⟨a1, a2, _⟩ := D1.out.at_ hal
                    obtain ⟨b1, b2, _⟩ := D1.out.at_ hbl
                    rw [← at_get hal] at a1
                    rw [← at_get hbl] at b1
                    have SB := fun h1 => Lib.hid (R.step HD.out (a := ka) (b := kb) hkan hkbn ⟨1, kb, Hnb.out.1, rfl⟩ h1)
                    have hra := R.low ka hkan
                    have hrb := R.low kb hkbn
                    obtain ⟨x, hx⟩ : ∃ x, x = PO.at_ out ka := ⟨_, rfl⟩
                    obtain ⟨y, hy⟩ : ∃ y, y = PO.at_ out kb := ⟨_, rfl⟩
                    rw [← hx] at a1 SB Hrx hra
                    rw [← hy] at b1 SB Hrx hrb
                    have Hab := Lib.hid (show kb = ka → x = y from fun e => by rw [hx, hy, e])
                    clear hx hy R hal hbl
                    by_cases hxy : (x == y) = true
                    · have Hr := Lib.hid (Hrx.out.2 (by simpa using hxy))
                      clear SB hra hrb
                      go_wp2_with (fail)
                      go_quiet (first | exact Calls.quiet_of_same ((HJ.out _).mono (fun _ _ hh => ⟨hh.1, hh.2.symm⟩)))
                      go_wp2_with (fail)
                      go_roundg (gk - 1)
                      case measure => have := Hk.out; omega
                      case rel => exact S7.keep Hk.out hlt HR.out Hle.out Hb1.out Hb2.out Hzs.out Hr.out (D1.below (below_drewN _ _ _))
                    · have hxy : (x == y) = false := by simpa using hxy
                      have HS := SB (by simpa using hxy)
                      have hkab : ¬ kb = ka := fun e => by have := Hab.out e; simp [this] at hxy
                      have hkba : ¬ ka = kb := fun e => hkab e.symm
                      have hgw : ¬ wr.heap.size = go := by have := D.size; omega
                      have hwg : ¬ go = wr.heap.size := by omega
                      clear SB
                      by_cases hyx : y < x
                      · have HS := Lib.hid (show PInv ns.length ds st ((out.set ka y).set kb y) ∧ muS ((out.set ka y).set kb y) < muS out by have e : min x y = y := (by omega); have := HS.out; rw [e] at this; exact this)
                        go_wp2_with (fail)
                        go_quiet (first | exact Calls.quiet_of_same ((HJ.out _).mono (fun _ _ hh => ⟨hh.1, hh.2.symm⟩)))
                        go_wp2_with (fail)
                        go_quiet (fail)
                        go_wp2_with (fail)
                        go_region
                        go_wp2_with (fail)
                        go_roundg (gk - 1)
                        case measure => have := Hk.out; omega
                        case rel => exact S7.more Hk.out hlt Hle.out HS.out (((D1.below (below_drewN _ _ _)).set ka _).set kb _)
                      · have HS := Lib.hid (show PInv ns.length ds st ((out.set ka x).set kb x) ∧ muS ((out.set ka x).set kb x) < muS out by have e : min x y = x := (by omega); have := HS.out; rw [e] at this; exact this)
                        go_wp2_with (fail)
                        go_quiet (first | exact Calls.quiet_of_same ((HJ.out _).mono (fun _ _ hh => ⟨hh.1, hh.2.symm⟩)))
                        go_wp2_with (fail)
                        go_quiet (fail)
                        go_wp2_with (fail)
                        go_region
                        go_wp2_with (fail)
                        go_roundg (gk - 1)
                        case measure => have := Hk.out; omega
                        case rel => exact S7.more Hk.out hlt Hle.out HS.out (((D1.below (below_drewN _ _ _)).set ka _).set kb _)
                  · have hj : joinsB ds[m].kind = false := by simpa using hj
                    have Hr := Lib.hid (show Rl7 out (ds[m], st[m] == 2) from fun _ h => by rw [hj] at h; cases h)
                    rw [hj] at HJ
                    have HJ := Lib.hid HJ
                    rw [hs2] at hcu Hzs Hr
                    clear he hj R hs2 huse
                    go_wp2_with (fail)
                    go_quiet (first | exact Calls.quiet_of_same ((HJ.out _).mono (fun _ _ hh => ⟨hh.1, hh.2.symm⟩)))
                    go_wp2_with (fail)
                    go_roundg (gk - 1)
                    case measure => have := Hk.out; omega
                    case rel => exact S7.keep Hk.out hlt HR.out Hle.out Hb1.out Hb2.out Hzs.out Hr.out (D1.below (below_drewN _ _ _))
              · have hall : b = false → ∀ z ∈ ds.zip (useOf st), Rl7 out z := fun h z hz => Hb2.out h z (by rw [List.take_of_length_le (by simp; omega)]; exact hz)
                have Hall := Lib.hid hall
                have HR := Lib.hid R
                clear hall R
                go_wp2_with (fail)
                go_roundg (gko - 1)
                case measure => have := Hm.out; omega
                case rel => exact ⟨b, out, rfl, D, HR.out, fun h => by have := Hb1.out h; have := Hm.out; omega, Hall.out⟩
end Go.Proofs.YtgpcojmdfmngeaaDoor

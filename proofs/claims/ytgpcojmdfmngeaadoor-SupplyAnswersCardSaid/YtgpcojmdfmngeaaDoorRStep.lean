/-
  The walk of the reference's Steps.
-/
import Derived.Test.YtgpcojmdfmngeaaDoorPStep
import Derived.Test.YtgpcojmdfmngeaaDoorGe
import Derived.Test.YtgpcojmdfmngeaaDoorGd
import Derived.BigQuiet
namespace Go.Proofs.YtgpcojmdfmngeaaDoor
open Go.RowKit
set_option maxHeartbeats 400000
set_option maxRecDepth 100000

/-- The blocks of Steps: the boxed network, the numbers. -/
structure QSt (w : World) (v1 v2 : Value) (n : Nat) (wr : World) (out : List Int) : Prop where
  box : wr.heap[w.heap.size]? = some (.cells #[v1, v2] 26 (0, 0))
  out : OIb wr (w.heap.size + 1) n out
  bel : Below w.heap.size w wr
section
variable {w wr w' : World} {v1 v2 : Value} {n : Nat} {out : List Int}
theorem QSt.size (h : QSt w v1 v2 n wr out) : w.heap.size + 2 ≤ wr.heap.size := h.out.lt
theorem QSt.below (h : QSt w v1 v2 n wr out) (hb : Below wr.heap.size wr w') : QSt w v1 v2 n w' out := by
  have hs := h.size
  exact ⟨(hb.block _ (by omega)).trans h.box, h.out.fr (hb.block _ (by omega)), h.bel.trans (hb.mono h.bel.size)⟩
theorem QSt.set (h : QSt w v1 v2 n wr out) (k : Nat) (x : Int) : QSt w v1 v2 n (wr.setCell ⟨w.heap.size + 1, k, none⟩ (.int .i64 x)) (out.set k x) :=
  ⟨(Below.heap_setCell _ _ _ _ (by show w.heap.size ≠ w.heap.size + 1; omega)).trans h.box, h.out.set k x, h.bel.setCell (by show w.heap.size ≤ w.heap.size + 1; omega) _⟩
theorem QSt.n0 (h : QSt w v1 v2 n wr out) : wr.cell? ⟨w.heap.size, 0, none⟩ = some v1 := by rw [cell_of_row wr _ 0 _ _ _ h.box]; rfl
theorem QSt.n1 (h : QSt w v1 v2 n wr out) : wr.cell? ⟨w.heap.size, 1, none⟩ = some v2 := by rw [cell_of_row wr _ 1 _ _ _ h.box]; rfl
end

/-- The inner loop's relation. -/
def SRel (w : World) (v1 v2 : Value) (n L : Nat) (zs : List (Dev × Bool)) (gs : List Nat) (m0 : Nat) (g : Nat) (ch i : Value) (wr : World) : Prop :=
  ∃ (m : Nat) (b : Bool) (out : List Int), m + g = L ∧ i = .int .i64 m ∧ ch = .bool b ∧ QSt w v1 v2 n wr out ∧ RInv n (nbZ zs) gs out ∧ muL n out ≤ m0 ∧ (b = true → muL n out < m0) ∧ (b = false → ∀ z ∈ zs.take m, Rlx out z)
theorem SRel.more {w wz : World} {v1 v2 : Value} {n L m0 g m : Nat} {zs : List (Dev × Bool)} {gs : List Nat} {out out' : List Int} (hm : m + g = L) (hl : m < L) (hle : muL n out ≤ m0) (h : RInv n (nbZ zs) gs out' ∧ muL n out' < muL n out) (D : QSt w v1 v2 n wz out') :
    SRel w v1 v2 n L zs gs m0 (g - 1) (.bool true) (.int .i64 ((m : Int) + 1)) wz :=
  ⟨m + 1, true, out', by omega, by go_num, rfl, D, h.1, by omega, fun _ => by omega, fun h => by cases h⟩
theorem SRel.keep {w wz : World} {v1 v2 : Value} {n L m0 g m : Nat} {zs : List (Dev × Bool)} {gs : List Nat} {b : Bool} {out : List Int} {z : Dev × Bool} (hm : m + g = L) (hl : m < L) (hR : RInv n (nbZ zs) gs out) (hle : muL n out ≤ m0) (hb1 : b = true → muL n out < m0) (hb2 : b = false → ∀ z ∈ zs.take m, Rlx out z)
    (hz : zs.take (m + 1) = zs.take m ++ [z]) (hr : Rlx out z) (D : QSt w v1 v2 n wz out) :
    SRel w v1 v2 n L zs gs m0 (g - 1) (.bool b) (.int .i64 ((m : Int) + 1)) wz :=
  ⟨m + 1, b, out, by omega, by go_num, rfl, D, hR, hle, hb1, fun h x hx => by
    rw [hz] at hx
    rcases List.mem_append.1 hx with hx | hx
    · exact hb2 h x hx
    · rw [List.mem_singleton.1 hx]; exact hr⟩

set_option maxHeartbeats 4000000 in
theorem refSteps_any (w : World) (S : Nat → Prop) (A1 A2 : Option Addr) (c1 c2 : Nat) (ns : List Node) (ds : List Dev) (hn : NetIn w S A1 A2 ns ds) (hD : DevsIn ns.length ds)
    (U : Option Addr) (cu : Nat) (use : List Bool) (hu : SB w S U use) (hul : use.length = ds.length) (G : Option Addr) (cg : Nat) (gs : List Nat) (hg : SI w S G (nats gs)) (hgl : gs.length ≤ 1000) (hgn : ∀ g ∈ gs, g < ns.length) :
    Calls Tryd.prog 120 #[.agg #[.slice A1 ns.length c1, .slice A2 ds.length c2], .slice U use.length cu, .slice G gs.length cg] w
      fun e w' => ∃ g out, e = .returned (.slice (some ⟨g, 0, none⟩) ns.length ns.length) ∧ OIb w' g ns.length out ∧ w.heap.size ≤ g ∧ Below w.heap.size w w' ∧ PO.Dist ns.length (nbZ (ds.zip use)) gs out := by
  have Hul := Lib.hid hul
  have Hgn := Lib.hid hgn
  have HD := Lib.hid hD
  have hl1 := hD.few
  have hl2 := hD.dev
  clear hul hgn hD
  obtain ⟨w2, hmk, ho2, hb2, hz2⟩ := make_ints (w.alloc (.cells #[.slice A1 ns.length c1, .slice A2 ds.length c2] 26)) ns.length (by omega)
  have D0 : QSt w (.slice A1 ns.length c1) (.slice A2 ds.length c2) ns.length w2 (List.replicate ns.length 0) := by
    have hb0 := ((Below.refl w.heap.size w).alloc (Nat.le_refl _) (.cells #[.slice A1 ns.length c1, .slice A2 ds.length c2] 26))
    exact ⟨(hb2.block _ (by simp)).trans (heap_alloc_new w _), by simpa using ho2, hb0.trans (hb2.mono (by simp))⟩
  clear hb2 hz2 ho2
  go_enter Tryd.func120, Tryd.ntmps120
  go_wp2_with (fail)
  clear hmk
  go_loopg [8] ns.length (fun g i wr => ∃ (k : Nat) (out : List Int), k + g = ns.length ∧ i = .int .i64 k ∧ QSt w (.slice A1 ns.length c1) (.slice A2 ds.length c2) ns.length wr out ∧ out.length = ns.length ∧ out.take k = List.replicate k (-1))
  case atStart => exact ⟨0, _, by omega, rfl, D0, by simp, rfl⟩
  case round =>
    clear D0
    obtain ⟨k, out, hk, rfl, D, hol, htk⟩ := hrel
    have Hk := Lib.hid hk
    have Hol := Lib.hid hol
    have Htk := Lib.hid htk
    clear hk hol htk
    by_cases hlt : k < ns.length
    · obtain ⟨q1, q2, _⟩ := D.out.at_ (k := k) (by rw [Hol.out]; exact hlt)
      go_wp2_with (fail)
      go_roundg (gk - 1)
      case measure => have := Hk.out; omega
      case rel =>
        refine ⟨k + 1, _, by have := Hk.out; omega, by go_num, D.set k (-1), by simp [Hol.out], ?_⟩
        rw [List.take_succ_eq_append_getElem (by simp [Hol.out]; exact hlt), List.getElem_set_self, List.take_set_of_le (Nat.le_refl _), Htk.out, List.replicate_succ']
    · have hout : out = List.replicate ns.length (-1) := by
        have := Htk.out
        rw [List.take_of_length_le (by rw [Hol.out]; omega)] at this
        rw [this]
        have := Hk.out
        rw [show k = ns.length by omega]
      rw [hout] at D
      clear hout Htk Hol Hk
      go_wp2_with (fail)
      clear hlt
      obtain ⟨wo, rfl⟩ : ∃ wo : World, wo = wr := ⟨_, rfl⟩
      go_loopg [9] gs.length (fun g i wr => ∃ (k : Nat) (out : List Int), k + g = gs.length ∧ i = .int .i64 k ∧ QSt w (.slice A1 ns.length c1) (.slice A2 ds.length c2) ns.length wr out ∧ out.length = ns.length ∧ PO.mark (List.replicate ns.length (-1)) gs = PO.mark out (gs.drop k))
      case atStart => exact ⟨0, _, by omega, rfl, D, by simp, rfl⟩
      case round =>
        clear D
        obtain ⟨k, out, hk, rfl, D, hol, hmk⟩ := hrel
        have Hk := Lib.hid hk
        have Hol := Lib.hid hol
        have Hmk := Lib.hid hmk
        clear hk hol hmk
        by_cases hlt : k < gs.length
        · have hgk := Hgn.out gs[k] (List.getElem_mem hlt)
          obtain ⟨gb, go, rfl, _, _, hc0⟩ := (hg.keep (Kept.of_below D.bel)).at_ (k := k) (by simpa [nats] using hlt)
          have hc : wr.cell? ⟨gb, go + k, none⟩ = some (.int .i64 (gs[k] : Nat)) := by rw [hc0]; simp [nats]
          clear hc0
          have Hmk2 := Lib.hid (show PO.mark out (gs.drop k) = PO.mark (out.set gs[k] 0) (gs.drop (k + 1)) by rw [List.drop_eq_getElem_cons hlt]; rfl)
          obtain ⟨x, hx⟩ : ∃ x, x = gs[k] := ⟨_, rfl⟩
          rw [← hx] at hgk hc Hmk2
          obtain ⟨q1, q2, _⟩ := D.out.at_ (k := x) (by rw [Hol.out]; exact hgk)
          clear hx
          go_wp2_with (fail)
          go_roundg (gk - 1)
          case measure => have := Hk.out; omega
          case rel => exact ⟨k + 1, _, by have := Hk.out; omega, by go_num, D.set x 0, by simp [Hol.out], by rw [Hmk.out, Hmk2.out]⟩
        · have hout : PO.mark (List.replicate ns.length (-1)) gs = out := by
            rw [Hmk.out, List.drop_of_length_le (by omega)]; rfl
          have R := RInv.start (nb := nbZ (ds.zip use)) Hgn.out
          rw [hout] at R
          clear hout Hmk Hol Hk
          go_wp2_with (fail)
          clear hlt
          obtain ⟨wo2, rfl⟩ : ∃ wo2 : World, wo2 = wr := ⟨_, rfl⟩
          go_loopg [10] (muL ns.length out + 1) (fun g ch wr => ∃ (b : Bool) (out : List Int), ch = .bool b ∧ QSt w (.slice A1 ns.length c1) (.slice A2 ds.length c2) ns.length wr out ∧ RInv ns.length (nbZ (ds.zip use)) gs out ∧ (b = true → muL ns.length out + 1 ≤ g) ∧
            (b = false → ∀ z ∈ ds.zip use, Rlx out z))
          case atStart => exact ⟨true, out, rfl, D, R, fun _ => Nat.le_refl _, fun h => by cases h⟩
          case round =>
            clear D R out
            obtain ⟨b, out0, rfl, D, R, hm, hz⟩ := hrel
            cases b
            · have Hd := Lib.hid (R.dist (rlx_fix (hz rfl)))
              clear hm hz R
              go_wp2_with (fail)
              go_ret
              exact ⟨_, out0, rfl, D.out, by omega, D.bel, Hd.out⟩
            · have Hm := Lib.hid (hm rfl)
              clear hm hz
              obtain ⟨m0, hm0⟩ : ∃ x, x = muL ns.length out0 := ⟨_, rfl⟩
              rw [← hm0] at Hm
              have n1 := D.n1
              go_wp2_with (fail)
              obtain ⟨wo3, rfl⟩ : ∃ wo3 : World, wo3 = wr := ⟨_, rfl⟩
              obtain ⟨go, rfl⟩ : ∃ x : Nat, x = gk := ⟨_, rfl⟩
              go_loopg [10, 11] ds.length (SRel w (.slice A1 ns.length c1) (.slice A2 ds.length c2) ns.length ds.length (ds.zip use) gs m0)
              case atStart => exact ⟨0, false, out0, by omega, rfl, rfl, D, R, by rw [hm0]; exact Nat.le_refl _, (fun h => by cases h), fun _ z hz => by simp at hz⟩
              case round =>
                clear D R hm0 out0 n1
                obtain ⟨m, b, out, hm, rfl, rfl, D, R, hle, hb1, hb2⟩ := hrel
                have Hk := Lib.hid hm
                have Hle := Lib.hid hle
                have Hb1 := Lib.hid hb1
                have Hb2 := Lib.hid hb2
                clear hm hle hb1 hb2
                have n1 := D.n1
                by_cases hlt : m < ds.length
                · obtain ⟨b', off, rfl, hS, hbl, q0, q1, q2, q3, q4⟩ := (hn.below D.bel).dev hlt
                  have hmu : m < use.length := by have := Hul.out; omega
                  have Hzs := Lib.hid (show (ds.zip use).take (m + 1) = (ds.zip use).take m ++ [(ds[m], use[m])] by rw [List.take_succ_eq_append_getElem (by simp; omega), List.getElem_zip])
                  have hbA := (Below.refl wr.heap.size wr).alloc (Nat.le_refl _) (.cells #[.string ds[m].name, .int .i64 ds[m].kind, .int .i64 ds[m].a, .int .i64 ds[m].b, .int .i64 ds[m].comp] 78)
                  have D1 := D.below hbA
                  have he := (HD.out.ends ds[m] (List.getElem_mem hlt)).2.2
                  have HJ := fun w => refJoins_any ds[m].kind w
                  by_cases huse : use[m] = true
                  · have HU := Lib.hid huse
                    by_cases hj : joinsB ds[m].kind = true
                    · rw [hj] at HJ
                      have HJ := Lib.hid HJ
                      obtain ⟨e1, e2, e3, _⟩ := endsB_parts he
                      have e3 := e3 hj
                      have Hnb := Lib.hid (nb_ends HD.out hlt hmu HU.out hj)
                      have Hrx := Lib.hid (show Rlx out (ds[m], use[m]) ↔ ((0 ≤ PO.at_ out ds[m].a.toNat → 0 ≤ PO.at_ out ds[m].b.toNat ∧ PO.at_ out ds[m].b.toNat ≤ PO.at_ out ds[m].a.toNat + 1) ∧ (0 ≤ PO.at_ out ds[m].b.toNat → 0 ≤ PO.at_ out ds[m].a.toNat ∧ PO.at_ out ds[m].a.toNat ≤ PO.at_ out ds[m].b.toNat + 1)) from by unfold Rlx; simp only [HU.out, hj, forall_const])
                      obtain ⟨ka, hka⟩ := Int.eq_ofNat_of_zero_le e1
                      obtain ⟨kb, hkb⟩ := Int.eq_ofNat_of_zero_le e3.1
                      have hkan : ka < ns.length := by omega
                      have hkbn : kb < ns.length := by omega
                      rw [hka] at q2 D1
                      rw [hkb] at q3 D1
                      rw [hka, hkb, Int.toNat_natCast, Int.toNat_natCast] at Hnb Hrx
                      obtain ⟨bu, ou, rfl, _, _, hcu⟩ := (hu.keep (Kept.of_below D1.bel)).at_ hmu
                      rw [huse] at hcu
                      clear e1 e2 e3 he hj hka hkb hbA huse
                      have hal : ka < out.length := by rw [R.len]; exact hkan
                      have hbl : kb < out.length := by rw [R.len]; exact hkbn
                      obtain ⟨a1, a2, _⟩ := D1.out.at_ hal
                      obtain ⟨b1, b2, _⟩ := D1.out.at_ hbl
                      rw [← at_get hal] at a1
                      rw [← at_get hbl] at b1
                      have xa := R.low ka
                      have xb := R.low kb
                      have ya := R.le ka
                      have yb := R.le kb
                      clear hal hbl
                      have SB := fun h1 h2 => Lib.hid (R.step (w := kb) (v := ka) Hnb.out.1 hkbn h1 h2)
                      have SA := fun h1 h2 => Lib.hid (R.step (w := ka) (v := kb) Hnb.out.2 hkan h1 h2)
                      obtain ⟨x, hx⟩ : ∃ x, x = PO.at_ out ka := ⟨_, rfl⟩
                      obtain ⟨y, hy⟩ : ∃ y, y = PO.at_ out kb := ⟨_, rfl⟩
                      rw [← hx] at a1 xa ya SB SA Hrx
                      rw [← hy] at b1 xb yb SB SA Hrx
                      have HR := Lib.hid R
                      clear hx hy R
                      by_cases hB : 0 ≤ x ∧ (y < 0 ∨ x + 1 < y)
                      · have HS := SB hB.1 hB.2
                        clear SB SA
                        obtain ⟨hx0, hy0⟩ := hB
                        by_cases hyn : y < 0
                        · clear hy0
                          go_wp2_with (fail)
                          refine (HJ.out _).mono ?_
                          rintro e w' ⟨rfl, rfl⟩
                          go_wp2_with (fail)
                          go_quiet (fail)
                          go_wp2_with (fail)
                          go_roundg (gk - 1)
                          case measure => have := Hk.out; omega
                          case rel => exact SRel.more Hk.out hlt Hle.out HS.out ((D1.below (below_drewN _ _ _)).set kb (x + 1))
                        · have hy0 : x + 1 < y := by omega
                          go_wp2_with (fail)
                          refine (HJ.out _).mono ?_
                          rintro e w' ⟨rfl, rfl⟩
                          go_wp2_with (fail)
                          go_quiet (fail)
                          go_wp2_with (fail)
                          go_roundg (gk - 1)
                          case measure => have := Hk.out; omega
                          case rel => exact SRel.more Hk.out hlt Hle.out HS.out ((D1.below (below_drewN _ _ _)).set kb (x + 1))
                      · by_cases hA : 0 ≤ y ∧ (x < 0 ∨ y + 1 < x)
                        · have HS := SA hA.1 hA.2
                          clear SB SA hB
                          obtain ⟨hx0, hy0⟩ := hA
                          by_cases hyn : x < 0
                          · clear hy0
                            go_wp2_with (fail)
                            refine (HJ.out _).mono ?_
                            rintro e w' ⟨rfl, rfl⟩
                            go_wp2_with (fail)
                            go_quiet (fail)
                            go_wp2_with (fail)
                            go_roundg (gk - 1)
                            case measure => have := Hk.out; omega
                            case rel => exact SRel.more Hk.out hlt Hle.out HS.out ((D1.below (below_drewN _ _ _)).set ka (y + 1))
                          · have hy0 : y + 1 < x := by omega
                            go_wp2_with (fail)
                            refine (HJ.out _).mono ?_
                            rintro e w' ⟨rfl, rfl⟩
                            go_wp2_with (fail)
                            go_quiet (fail)
                            go_wp2_with (fail)
                            go_roundg (gk - 1)
                            case measure => have := Hk.out; omega
                            case rel => exact SRel.more Hk.out hlt Hle.out HS.out ((D1.below (below_drewN _ _ _)).set ka (y + 1))
                        · have Hr := Lib.hid (Hrx.out.2 ⟨by omega, by omega⟩)
                          clear SB SA
                          by_cases hx0 : 0 ≤ x
                          · have hy0 : 0 ≤ y := by omega
                            have h1 : y ≤ x + 1 := by omega
                            have h2 : x ≤ y + 1 := by omega
                            clear hA hB
                            go_wp2_with (fail)
                            refine (HJ.out _).mono ?_
                            rintro e w' ⟨rfl, rfl⟩
                            go_wp2_with (fail)
                            go_quiet (fail)
                            go_wp2_with (fail)
                            go_roundg (gk - 1)
                            case measure => have := Hk.out; omega
                            case rel => exact SRel.keep Hk.out hlt HR.out Hle.out Hb1.out Hb2.out Hzs.out Hr.out (D1.below (below_drewN _ _ _))
                          · have hy0 : y < 0 := by omega
                            clear hA hB
                            go_wp2_with (fail)
                            refine (HJ.out _).mono ?_
                            rintro e w' ⟨rfl, rfl⟩
                            go_wp2_with (fail)
                            go_quiet (fail)
                            go_wp2_with (fail)
                            go_roundg (gk - 1)
                            case measure => have := Hk.out; omega
                            case rel => exact SRel.keep Hk.out hlt HR.out Hle.out Hb1.out Hb2.out Hzs.out Hr.out (D1.below (below_drewN _ _ _))
                    · have hj : joinsB ds[m].kind = false := by simpa using hj
                      have Hr := Lib.hid (show Rlx out (ds[m], use[m]) from fun _ h => by rw [hj] at h; cases h)
                      rw [hj] at HJ
                      have HJ := Lib.hid HJ
                      obtain ⟨bu, ou, rfl, _, _, hcu⟩ := (hu.keep (Kept.of_below D1.bel)).at_ hmu
                      rw [huse] at hcu
                      have HR := Lib.hid R
                      clear he hj huse R
                      go_wp2_with (fail)
                      refine (HJ.out _).mono ?_
                      rintro e w' ⟨rfl, rfl⟩
                      go_wp2_with (fail)
                      go_roundg (gk - 1)
                      case measure => have := Hk.out; omega
                      case rel => exact SRel.keep Hk.out hlt HR.out Hle.out Hb1.out Hb2.out Hzs.out Hr.out D1
                  · have huse : use[m] = false := by simpa using huse
                    have Hr := Lib.hid (show Rlx out (ds[m], use[m]) from fun h => by rw [huse] at h; cases h)
                    obtain ⟨bu, ou, rfl, _, _, hcu⟩ := (hu.keep (Kept.of_below D1.bel)).at_ hmu
                    rw [huse] at hcu
                    have HR := Lib.hid R
                    clear he huse R HJ
                    go_wp2_with (fail)
                    go_roundg (gk - 1)
                    case measure => have := Hk.out; omega
                    case rel => exact SRel.keep Hk.out hlt HR.out Hle.out Hb1.out Hb2.out Hzs.out Hr.out D1
                · have hall : b = false → ∀ z ∈ ds.zip use, Rlx out z := fun h z hz => Hb2.out h z (by rw [List.take_of_length_le (by simp; omega)]; exact hz)
                  have Hall := Lib.hid hall
                  have HR := Lib.hid R
                  clear hall R
                  go_wp2_with (fail)
                  go_roundg (go - 1)
                  case measure => have := Hm.out; omega
                  case rel => exact ⟨b, out, rfl, D, HR.out, fun h => by have := Hb1.out h; have := Hm.out; omega, Hall.out⟩
end Go.Proofs.YtgpcojmdfmngeaaDoor

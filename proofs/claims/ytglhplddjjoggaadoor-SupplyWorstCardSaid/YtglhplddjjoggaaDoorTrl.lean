/-
  The walks of network.Trail and network.Way.
-/
import Derived.Test.YtglhplddjjoggaaDoorDst
namespace Go.Proofs.YtglhplddjjoggaaDoor
open Go.RowKit
set_option maxHeartbeats 400000
set_option maxRecDepth 100000

/-- the first device that leads nearer -/
def stepZ (dist : List Int) (v : Nat) : List (Dev × Bool) → Nat → Option (Nat × Nat)
  | [], _ => none
  | z :: zs, i => if 0 ≤ acrossL z.1 v ∧ z.2 = true ∧ PO.at_ dist (acrossL z.1 v).toNat = PO.at_ dist v - 1 then some (i, (acrossL z.1 v).toNat) else stepZ dist v zs (i + 1)
def trailZ (dist : List Int) (zs : List (Dev × Bool)) : Nat → Nat → List Nat × Nat
  | 0, v => ([], v)
  | f + 1, v => match stepZ dist v zs 0 with
    | none => ([], v)
    | some (i, u) => (i :: (trailZ dist zs f u).1, (trailZ dist zs f u).2)
theorem stepZ_drop (dist : List Int) (v : Nat) (zs : List (Dev × Bool)) (m : Nat) (h : m < zs.length) : stepZ dist v (zs.drop m) m =
    if 0 ≤ acrossL zs[m].1 v ∧ zs[m].2 = true ∧ PO.at_ dist (acrossL zs[m].1 v).toNat = PO.at_ dist v - 1 then some (m, (acrossL zs[m].1 v).toNat) else stepZ dist v (zs.drop (m + 1)) (m + 1) := by
  rw [List.drop_eq_getElem_cons h]
  rfl

theorem below_drewN (B : Nat) (w : World) (k : Nat) : Below B w (w.drewN k) := ⟨rfl, rfl, rfl, Nat.le_refl _, fun _ _ => rfl⟩
/-- What Trail hands back. -/
def RetTrail (w : World) (r : List Nat × Nat) (e : Ending) (w' : World) : Prop :=
  ∃ A c, e = .returned (.tuple #[.slice A r.1.length c, .int .i64 r.2]) ∧ OI w' (fun g => w.heap.size ≤ g) A c (nats r.1) ∧ Below w.heap.size w w'

/-- The blocks of the trail. -/
structure TSt (w : World) (v1 v2 : Value) (wr : World) (dist : List Int) : Prop where
  box : wr.heap[w.heap.size]? = some (.cells #[v1, v2] 26 (0, 0))
  arr : Arr wr (w.heap.size + 1) dist
  bel : Below w.heap.size w wr
section
variable {w wr w' : World} {v1 v2 : Value} {dist : List Int}
theorem TSt.size (h : TSt w v1 v2 wr dist) : w.heap.size + 2 ≤ wr.heap.size := h.arr.lt
theorem TSt.belowB (h : TSt w v1 v2 wr dist) (hb : Below (w.heap.size + 2) wr w') : TSt w v1 v2 w' dist :=
  ⟨(hb.block _ (by omega)).trans h.box, h.arr.keep (hb.block _ (by omega)), h.bel.trans (hb.mono (by omega))⟩
theorem TSt.below (h : TSt w v1 v2 wr dist) (hb : Below wr.heap.size wr w') : TSt w v1 v2 w' dist := h.belowB (hb.mono h.size)
theorem TSt.n1 (h : TSt w v1 v2 wr dist) : wr.cell? ⟨w.heap.size, 1, none⟩ = some v2 := by rw [cell_of_row wr _ 1 _ _ _ h.box]; rfl
end

set_option maxHeartbeats 4000000 in
theorem trail_any (w : World) (S : Nat → Prop) (A1 A2 : Option Addr) (c1 c2 : Nat) (ns : List Node) (ds : List Dev) (hn : NetIn w S A1 A2 ns ds) (hl2 : ds.length ≤ 64)
    (U : Option Addr) (cu : Nat) (use : List Bool) (hu : SB w S U use) (hul : use.length = ds.length) (dist : List Int) (hdl : dist.length = 32) (hb32 : ∀ v, PO.at_ dist v ≤ 32) (v : Nat) (hv : v < 32)
    (hd : ∀ d ∈ ds, ∀ v, acrossL d v < 32) (hpr : ∀ v, 0 < PO.at_ dist v → (stepZ dist v (ds.zip use) 0).isSome = true) :
    Calls Tryd.prog 112 #[.agg #[.slice A1 ns.length c1, .slice A2 ds.length c2], .slice U use.length cu, .agg (ints dist).toArray, .int .i64 v] w (RetTrail w (trailZ dist (ds.zip use) (PO.at_ dist v).toNat v)) := by
  have Hul := Lib.hid hul
  have Hdl := Lib.hid hdl
  have Hpr := Lib.hid hpr
  clear hul hdl hpr
  go_enter Tryd.func112, Tryd.ntmps112
  go_wp2_with (fail)
  have hF : (PO.at_ dist v).toNat ≤ 32 := by have := hb32 v; omega
  generalize hFe : (PO.at_ dist v).toNat = F at *
  have HF := Lib.hid hFe
  clear hFe
  go_loopg [3, 10] F (fun g s3 s10 wr => ∃ (u : Nat) (ys : List Nat) (A' : Option Addr) (c' : Nat), u < 32 ∧ g = (PO.at_ dist u).toNat ∧ s3 = .int .i64 u ∧ s10 = .slice A' ys.length c' ∧ OI wr (fun g => w.heap.size + 2 ≤ g) A' c' (nats ys) ∧ TSt w (.slice A1 ns.length c1) (.slice A2 ds.length c2) wr dist ∧
    trailZ dist (ds.zip use) F v = (ys ++ (trailZ dist (ds.zip use) g u).1, (trailZ dist (ds.zip use) g u).2) ∧ ys.length + g ≤ 32)
  case atStart =>
    refine ⟨v, [], none, 0, hv, HF.out.symm, rfl, rfl, OI.nil _ _, ⟨?_, ?_, ((Below.refl _ _).alloc (Nat.le_refl _) _).alloc (by simp) _⟩, rfl, by simpa using hF⟩
    · rw [Below.heap_alloc _ _ _ (by simp)]; exact heap_alloc_new w _
    · have := heap_alloc_new (w.alloc (.cells #[.slice A1 ns.length c1, .slice A2 ds.length c2] 26)) (.cells (ints dist).toArray 120)
      unfold Arr
      simpa using this
  case round =>
    obtain ⟨u, ys, A', c', hu32, hgk, rfl, rfl, hown, D, htr, hyl⟩ := hrel
    have Hgk := Lib.hid hgk
    have Htr := Lib.hid htr
    clear hgk htr
    obtain ⟨a1, a2⟩ := D.arr.at_ (k := u) (by rw [Hdl.out]; exact hu32)
    rw [← at_get (by rw [Hdl.out]; exact hu32)] at a1
    have n1 := D.n1
    have hbu := hb32 u
    by_cases hpos : 0 < PO.at_ dist u
    · have Hs := Lib.hid (Hpr.out u hpos)
      go_wp2_with (fail)
      obtain ⟨wo, rfl⟩ : ∃ wo : World, wo = wr := ⟨_, rfl⟩
      obtain ⟨go, rfl⟩ : ∃ x : Nat, x = gk := ⟨_, rfl⟩
      go_loopg [3, 10, 21] ds.length (fun g s3 s10 i wr => ∃ (m : Nat), m + g = ds.length ∧ i = .int .i64 m ∧ s3 = .int .i64 u ∧ s10 = .slice A' ys.length c' ∧ OI wr (fun g => w.heap.size + 2 ≤ g) A' c' (nats ys) ∧ TSt w (.slice A1 ns.length c1) (.slice A2 ds.length c2) wr dist ∧
        stepZ dist u (ds.zip use) 0 = stepZ dist u ((ds.zip use).drop m) m)
      case atStart => exact ⟨0, by omega, rfl, rfl, rfl, hown, D, rfl⟩
      case round =>
        clear D hown a1 a2 n1
        obtain ⟨m, hm, rfl, rfl, rfl, hown, D, hst⟩ := hrel
        have Hm := Lib.hid hm
        have Hst := Lib.hid hst
        clear hm hst
        by_cases hlt : m < ds.length
        · obtain ⟨b, off, rfl, hS, hbl, q0, q1, q2, q3, q4⟩ := (hn.below D.bel).dev hlt
          have hmz : m < (ds.zip use).length := by have := Hul.out; simp; omega
          have hmu : m < use.length := by have := Hul.out; omega
          have Hd := Lib.hid (show stepZ dist u ((ds.zip use).drop m) m = if 0 ≤ acrossL ds[m] u ∧ use[m] = true ∧ PO.at_ dist (acrossL ds[m] u).toNat = PO.at_ dist u - 1 then some (m, (acrossL ds[m] u).toNat) else stepZ dist u ((ds.zip use).drop (m + 1)) (m + 1) from by rw [stepZ_drop dist u (ds.zip use) m hmz]; simp)
          have hy := hd ds[m] (List.getElem_mem hlt) u
          go_wp2_with (fail)
          refine (across_any ds[m] u _).mono ?_
          rintro e w1 ⟨rfl, hb1⟩
          have hb2 := ((Below.refl wr.heap.size wr).alloc (Nat.le_refl _) (.cells #[.string ds[m].name, .int .i64 ds[m].kind, .int .i64 ds[m].a, .int .i64 ds[m].b, .int .i64 ds[m].comp] 81)).trans (hb1.mono (by simp))
          have D1 := D.below hb2
          have hown1 := hown.keep (Kept.of_below hb2)
          generalize acrossL ds[m] u = y at *
          by_cases hy0 : 0 ≤ y
          · obtain ⟨x, rfl⟩ := Int.eq_ofNat_of_zero_le hy0
            have hx32 : x < 32 := by omega
            obtain ⟨bu, ou, rfl, _, _, hcu⟩ := (hu.keep (Kept.of_below D1.bel)).at_ hmu
            by_cases huse : use[m] = true
            · rw [huse] at hcu
              have HU := Lib.hid huse
              clear huse
              obtain ⟨a1, a2⟩ := D1.arr.at_ (k := x) (by rw [Hdl.out]; exact hx32)
              obtain ⟨b1, b2⟩ := D1.arr.at_ (k := u) (by rw [Hdl.out]; exact hu32)
              rw [← at_get (by rw [Hdl.out]; exact hx32)] at a1
              rw [← at_get (by rw [Hdl.out]; exact hu32)] at b1
              by_cases heq : PO.at_ dist x = PO.at_ dist u - 1
              · have heq' : (PO.at_ dist x == PO.at_ dist u - 1) = true := by simpa using heq
                have Heq := Lib.hid heq
                clear heq
                have Hd' := Lib.hid (show stepZ dist u ((ds.zip use).drop m) m = some (m, x) by rw [Hd.out, if_pos ⟨hy0, HU.out, by simpa using Heq.out⟩]; simp)
                go_wp2_with (fail)
                go_quiet (fail)
                have D2 := D1.belowB (below_drewN (w.heap.size + 2) w1 nq)
                have hown2 := hown1.keep (Kept.drewN _ w1 nq)
                have hsz2 := D2.size
                have hyb : ys.length ≤ 32 := by omega
                go_wp2_with (at_builtin; go_must (refine wpList_push (B := w.heap.size + 2) rfl (.tmp 47) (.tmp 49) rfl rfl rfl (by simp [nats]) (hown2.keep (Kept.alloc _ _ _)) (new_cell' _ _ _ _ (by simp [World.drewN])) (by simp [nats]; omega) (by simp at hsz2 ⊢; omega) ?_); intro A4 c4 w4 ho4 hb4 _ _)
                have hgo := Hgk.out
                go_roundg (go - 1)
                case measure => omega
                case rel =>
                  have hx := Heq.out
                  refine ⟨x, ys ++ [m], A4, c4, hx32, by omega, rfl, ?_, ?_, (D2.belowB ((Below.refl _ _).alloc hsz2 _)).belowB hb4, ?_, ?_⟩
                  · simp [nats]
                  · have e : nats ys ++ [(m : Int)] = nats (ys ++ [m]) := by simp [nats]
                    rw [← e]; exact ho4
                  · obtain ⟨g1, rfl⟩ : ∃ g1, go = g1 + 1 := ⟨go - 1, by omega⟩
                    rw [Htr.out]
                    simp only [trailZ]
                    rw [Hst.out, Hd'.out]
                    simp
                  · simp; omega
              · have heq' : (PO.at_ dist x == PO.at_ dist u - 1) = false := by simpa using heq
                have Hd' := Lib.hid (show stepZ dist u ((ds.zip use).drop m) m = stepZ dist u ((ds.zip use).drop (m + 1)) (m + 1) by rw [Hd.out, if_neg (fun h => heq (by simpa using h.2.2))])
                clear heq
                go_wp2_with (fail)
                go_quiet (fail)
                go_wp2_with (fail)
                go_roundg (gk - 1)
                case measure => have := Hm.out; omega
                case rel => exact ⟨m + 1, by have := Hm.out; omega, by go_num, rfl, rfl, hown1.keep (Kept.drewN _ w1 nq), D1.belowB (below_drewN (w.heap.size + 2) w1 nq), by rw [Hst.out, Hd'.out]⟩
            · have huse : use[m] = false := by simpa using huse
              rw [if_neg (by simp [huse])] at Hd
              rw [huse] at hcu
              have HU := Lib.hid huse
              clear huse
              go_wp2_with (fail)
              go_quiet (fail)
              go_wp2_with (fail)
              go_roundg (gk - 1)
              case measure => have := Hm.out; omega
              case rel => exact ⟨m + 1, by have := Hm.out; omega, by go_num, rfl, rfl, hown1.keep (Kept.drewN _ w1 nq), D1.belowB (below_drewN (w.heap.size + 2) w1 nq), by rw [Hst.out, Hd.out]⟩
          · have hyd : decide (0 ≤ y) = false := by simpa using hy0
            rw [if_neg (fun h => hy0 h.1)] at Hd
            go_wp2_with (fail)
            go_quiet (fail)
            go_wp2_with (fail)
            go_roundg (gk - 1)
            case measure => have := Hm.out; omega
            case rel => exact ⟨m + 1, by have := Hm.out; omega, by go_num, rfl, rfl, hown1.keep (Kept.drewN _ w1 nq), D1.belowB (below_drewN (w.heap.size + 2) w1 nq), by rw [Hst.out, Hd.out]⟩
        · have hst := Hst.out
          rw [List.drop_of_length_le (by simp; omega)] at hst
          have := Hs.out
          rw [hst] at this
          cases this
    · go_wp2_with (fail)
      go_ret2
      have hg0 : gk = 0 := by have := Hgk.out; omega
      subst hg0
      have htr := Htr.out
      simp only [trailZ, List.append_nil] at htr
      rw [htr]
      exact ⟨A', c', rfl, hown.mono (T := fun g => w.heap.size ≤ g) (fun g _ hg => by show _ ≤ g; omega), D.bel⟩
end Go.Proofs.YtglhplddjjoggaaDoor

/-
  The walk of the reference's Colours.
-/
import Derived.Test.YtgpcojmdfmngeaaDoorR07
import Derived.Test.YtgpcojmdfmngeaaDoorGf
namespace Go.Proofs.YtgpcojmdfmngeaaDoor
open Go.RowKit
set_option maxHeartbeats 400000
set_option maxRecDepth 100000

/-- the colours behind some devices -/
def colZ (ps : List Int) (zs : List (Dev × Int)) : List Int := ps.map (bitsZ ps zs)
theorem colZ_len (ps : List Int) (zs : List (Dev × Int)) : (colZ ps zs).length = ps.length := by simp [colZ]
theorem colZ_nil (ps : List Int) : colZ ps [] = List.replicate ps.length 0 := by
  unfold colZ
  rw [List.eq_replicate_iff]
  refine ⟨by simp, fun b hb => ?_⟩
  obtain ⟨p, _, rfl⟩ := List.mem_map.1 hb
  rfl
theorem colZ_get (ps : List Int) (zs : List (Dev × Int)) (v : Nat) (h : v < ps.length) : (colZ ps zs)[v]'(by rw [colZ_len]; exact h) = bitsZ ps zs ps[v] := by simp [colZ]
theorem bits_or_live (x : Int) (h : x = 0 ∨ x = 1 ∨ x = 2 ∨ x = 3) : bits BinOp.or IntKind.i64 x 1 = orL x := by rcases h with rfl | rfl | rfl | rfl <;> decide
theorem bits_or_earth (x : Int) (h : x = 0 ∨ x = 1 ∨ x = 2 ∨ x = 3) : bits BinOp.or IntKind.i64 x 2 = orE x := by rcases h with rfl | rfl | rfl | rfl <;> decide

/-- The blocks of the reference's Colours: the boxed network, the parts, the colours. -/
structure CQ (w : World) (v1 v2 : Value) (go n : Nat) (Ap : Option Addr) (ps : List Int) (wr : World) (out : List Int) : Prop where
  box : wr.heap[w.heap.size]? = some (.cells #[v1, v2] 26 (0, 0))
  parts : SI wr (fun g => w.heap.size < g ∧ g < go) Ap ps
  out : OIb wr go n out
  lt : w.heap.size < go
  bel : Below w.heap.size w wr
section
variable {w wr w' : World} {v1 v2 : Value} {go n : Nat} {Ap : Option Addr} {ps out : List Int}
theorem CQ.size (h : CQ w v1 v2 go n Ap ps wr out) : go < wr.heap.size := h.out.lt
theorem CQ.below (h : CQ w v1 v2 go n Ap ps wr out) (hb : Below wr.heap.size wr w') : CQ w v1 v2 go n Ap ps w' out := by
  have hs := h.size
  have hl := h.lt
  exact ⟨(hb.block _ (by omega)).trans h.box, h.parts.keep (Kept.of_below hb), h.out.fr (hb.block _ (by omega)), h.lt, h.bel.trans (hb.mono h.bel.size)⟩
theorem CQ.set (h : CQ w v1 v2 go n Ap ps wr out) (k : Nat) (x : Int) : CQ w v1 v2 go n Ap ps (wr.setCell ⟨go, k, none⟩ (.int .i64 x)) (out.set k x) :=
  ⟨(Below.heap_setCell _ _ _ _ (by show w.heap.size ≠ go; have := h.lt; omega)).trans h.box, h.parts.keep (Kept.setCell (by show ¬ (w.heap.size < go ∧ go < go); omega) _), h.out.set k x, h.lt, h.bel.setCell (by show w.heap.size ≤ go; have := h.lt; omega) _⟩
theorem CQ.n0 (h : CQ w v1 v2 go n Ap ps wr out) : wr.cell? ⟨w.heap.size, 0, none⟩ = some v1 := by rw [cell_of_row wr _ 0 _ _ _ h.box]; rfl
theorem CQ.n1 (h : CQ w v1 v2 go n Ap ps wr out) : wr.cell? ⟨w.heap.size, 1, none⟩ = some v2 := by rw [cell_of_row wr _ 1 _ _ _ h.box]; rfl
end

set_option maxHeartbeats 8000000 in
theorem refColours_any (w : World) (S : Nat → Prop) (A1 A2 : Option Addr) (c1 c2 : Nat) (ns : List Node) (ds : List Dev) (hn : NetIn w S A1 A2 ns ds) (hl1 : ns.length ≤ 65536) (hl2 : ds.length ≤ 65536)
    (U : Option Addr) (cu : Nat) (st : List Int) (hs : SI w S U st) (hsl : st.length ≤ 65536) :
    Calls Tryd.prog 68 #[.agg #[.slice A1 ns.length c1, .slice A2 ds.length c2], .slice U st.length cu] w (RetIE w (coloursE ns ds st)) := by
  have hb := (Below.refl w.heap.size w).alloc (Nat.le_refl _) (.cells #[.slice A1 ns.length c1, .slice A2 ds.length c2] 26)
  have HC := Lib.hid (refParts_any _ S A1 A2 c1 c2 ns ds (hn.below hb) hl1 hl2 U cu st (hs.keep (Kept.of_below hb)) hsl)
  have HZ := Lib.hid (@maskC_zero isPos ns ds st)
  have HE := Lib.hid (show coloursE ns ds st = if maskC isPos ns ds st ≠ 0 then ([], maskC isPos ns ds st) else (colL ds st (partsL ns.length ds st), 0) from rfl)
  have HPE := Lib.hid (show partsE ns ds st = if maskC isPos ns ds st ≠ 0 then ([], maskC isPos ns ds st) else (partsL ns.length ds st, 0) from rfl)
  generalize maskC isPos ns ds st = ce at *
  by_cases h0 : (ce != 0) = true
  · have H0 := Lib.hid (show ¬ ce = 0 by simpa using h0)
    rw [if_pos H0.out] at HE HPE
    rw [HPE.out] at HC
    go_enter Tryd.func68, Tryd.ntmps68
    go_wp2_with (fail)
    refine (HC.out).mono ?_
    rintro e w1 ⟨Ap, cp, rfl, _, hb1⟩
    go_wp2_with (fail)
    go_ret2
    rw [HE.out]
    exact ⟨none, 0, rfl, OI.nil _ _, hb.trans (hb1.mono hb.size)⟩
  · have h0' : (ce != 0) = false := by simpa using h0
    have hz : ce = 0 := by simpa using h0
    obtain ⟨z1, z2, z3⟩ := HZ.out hz
    have hD := checkL_zero z1
    rw [if_neg (by simpa using hz)] at HE HPE
    rw [HPE.out] at HC
    have Z2 := Lib.hid z2
    have HD := Lib.hid hD
    have hl1 := hD.few
    have hl2 := hD.dev
    have hpl : (partsL ns.length ds st).length = ns.length := partsL_len _ _ _
    have HE := Lib.hid (show coloursE ns ds st = (colZ (partsL ns.length ds st) (ds.zip st), 0) from HE.out)
    clear h0 hz z1 z2 z3 HZ h0' hD HPE
    obtain ⟨ps, hps⟩ : ∃ ps, ps = partsL ns.length ds st := ⟨_, rfl⟩
    rw [← hps] at HC hpl HE
    have Hpl := Lib.hid hpl
    clear hps
    go_enter Tryd.func68, Tryd.ntmps68
    go_wp2_with (fail)
    refine (HC.out).mono ?_
    rintro e w1 ⟨Ap, cp, rfl, oP, hb1⟩
    have hbA := hb.trans (hb1.mono hb.size)
    have Hbox := Lib.hid (box_at hb1)
    have n0 : w1.cell? ⟨w.heap.size, 0, none⟩ = some (.slice A1 ns.length c1) := by rw [cell_of_row w1 _ 0 _ _ _ Hbox.out]; rfl
    obtain ⟨w2, hmk, ho2, hb2, hz2⟩ := make_ints w1 ns.length (by omega)
    have hlt1 : w.heap.size < w1.heap.size := by have := hb1.size; simp at this; omega
    have sP : SI w1 (fun g => w.heap.size < g ∧ g < w1.heap.size) Ap ps := (OI.si oP).mono (fun g hl hg => by simp at hg; omega)
    have D0 : CQ w (.slice A1 ns.length c1) (.slice A2 ds.length c2) w1.heap.size ns.length Ap ps w2 (colZ ps ((ds.zip st).take 0)) := by
      rw [List.take_zero, colZ_nil, hpl]
      exact ⟨(hb2.block _ hlt1).trans Hbox.out, sP.keep (Kept.of_below hb2), ho2, hlt1, hbA.trans (hb2.mono hbA.size)⟩
    clear hb2 hz2 ho2 HC hb1 hbA Hbox hb oP sP hpl
    go_wp2_with (fail)
    clear hmk n0
    obtain ⟨go, hgo⟩ : ∃ x, x = w1.heap.size := ⟨_, rfl⟩
    rw [← hgo] at D0 ⊢
    clear hgo hlt1
    go_loopg [9] ds.length (fun g i wr => ∃ m : Nat, m + g = ds.length ∧ i = .int .i64 m ∧ CQ w (.slice A1 ns.length c1) (.slice A2 ds.length c2) go ns.length Ap ps wr (colZ ps ((ds.zip st).take m)))
    case atStart => exact ⟨0, by omega, rfl, D0⟩
    case round =>
      clear D0
      obtain ⟨m, hm, rfl, D⟩ := hrel
      have Hm := Lib.hid hm
      clear hm
      have n1 := D.n1
      by_cases hlt : m < ds.length
      · obtain ⟨b', off, rfl, hS, hbl, q0, q1, q2, q3, q4⟩ := (hn.below D.bel).dev hlt
        have hms : m < st.length := by have := Z2.out; omega
        have htk := colL_take ds st m hlt hms
        have hbA := (Below.refl wr.heap.size wr).alloc (Nat.le_refl _) (.cells #[.string ds[m].name, .int .i64 ds[m].kind, .int .i64 ds[m].a, .int .i64 ds[m].b, .int .i64 ds[m].comp] 78)
        have D1 := D.below hbA
        have hda := HD.out.first ds[m] (List.getElem_mem hlt)
        have hki := HD.out.ends ds[m] (List.getElem_mem hlt)
        have HJ := refJoins_any ds[m].kind (wr.alloc (.cells #[.string ds[m].name, .int .i64 ds[m].kind, .int .i64 ds[m].a, .int .i64 ds[m].b, .int .i64 ds[m].comp] 78))
        obtain ⟨bu, ou, rfl, _, _, hcu⟩ := (hs.keep (Kept.of_below D1.bel)).at_ hms
        by_cases huse : (st[m] != 2) = true
        · have Hst := Lib.hid (show colZ ps ((ds.zip st).take (m + 1)) = colZ ps ((ds.zip st).take m) by
            rw [htk]; unfold colZ; rw [bits_not]
            simp at huse; simp [huse])
          generalize st[m] = sm at *
          clear HJ htk hda hki
          go_wp2_with (fail)
          go_roundg (gk - 1)
          case measure => have := Hm.out; omega
          case rel => exact ⟨m + 1, by have := Hm.out; omega, by go_num, by rw [Hst.out]; exact D1⟩
        · have huse : (st[m] != 2) = false := by simpa using huse
          have hs2 : st[m] = 2 := by simpa using huse
          by_cases hj : joinsB ds[m].kind = true
          · have Hst := Lib.hid (show colZ ps ((ds.zip st).take (m + 1)) = colZ ps ((ds.zip st).take m) by
              rw [htk]; unfold colZ; rw [bits_not]
              unfold joinsB at hj
              simp at hj
              simp; omega)
            rw [hj] at HJ
            have HJ := Lib.hid HJ
            rw [hs2] at hcu
            clear htk hda hki hj hs2 huse
            go_wp2_with (fail)
            refine HJ.out.mono ?_
            rintro e w' ⟨rfl, rfl⟩
            go_wp2_with (fail)
            go_roundg (gk - 1)
            case measure => have := Hm.out; omega
            case rel => exact ⟨m + 1, by have := Hm.out; omega, by go_num, by rw [Hst.out]; exact D1⟩
          · have hj : joinsB ds[m].kind = false := by simpa using hj
            rw [hj] at HJ
            have hk456 : ds[m].kind = 4 ∨ ds[m].kind = 5 ∨ ds[m].kind = 6 := by
              unfold joinsB at hj
              simp at hj
              have := hki.1
              have := hki.2.1
              omega
            clear hj
            by_cases hk4 : (ds[m].kind == 4) = true
            · have hkk : ds[m].kind = 4 := by simpa using hk4
              have HN := Lib.hid (show ∀ v (hv : v < ps.length), (colZ ps ((ds.zip st).take (m + 1)))[v]'(by rw [colZ_len]; exact hv) = if ps[v] = PO.at_ ps ds[m].a.toNat then orE ((colZ ps ((ds.zip st).take m))[v]'(by rw [colZ_len]; exact hv)) else (colZ ps ((ds.zip st).take m))[v]'(by rw [colZ_len]; exact hv) from fun v hv => by
                rw [colZ_get _ _ _ hv, colZ_get _ _ _ hv, htk, bits_earth ps _ (ds[m], st[m]) hs2 hkk])
              have HO := Lib.hid (show ∀ v (hv : v < ps.length), (colZ ps ((ds.zip st).take m))[v]'(by rw [colZ_len]; exact hv) = 0 ∨ (colZ ps ((ds.zip st).take m))[v]'(by rw [colZ_len]; exact hv) = 1 ∨ (colZ ps ((ds.zip st).take m))[v]'(by rw [colZ_len]; exact hv) = 2 ∨ (colZ ps ((ds.zip st).take m))[v]'(by rw [colZ_len]; exact hv) = 3 from fun v hv => by
                rw [colZ_get _ _ _ hv]; exact bits_cases _ _ _)
              have Hln := Lib.hid (show (colZ ps ((ds.zip st).take (m + 1))).length = (colZ ps ((ds.zip st).take m)).length by rw [colZ_len, colZ_len])
              have Hlo := Lib.hid (show (colZ ps ((ds.zip st).take m)).length = ps.length by rw [colZ_len])
              rw [hs2] at hcu
              obtain ⟨ka, hka⟩ := Int.eq_ofNat_of_zero_le hda.1
              have hkan : ka < ns.length := by omega
              have hkap : ka < ps.length := by rw [Hpl.out]; exact hkan
              rw [hka, Int.toNat_natCast] at HN
              have HN := Lib.hid (fun v hv => (HN.out v hv).trans (by rw [at_get hkap]))
              rw [hka] at q2 D1 HJ hcu
              have bxA := heap_alloc_new wr (.cells #[.string ds[m].name, .int .i64 ds[m].kind, .int .i64 ka, .int .i64 ds[m].b, .int .i64 ds[m].comp] 78)
              have HJ := Lib.hid HJ
              clear htk hda hki hs2 huse hka hbA hkk hk456
              obtain ⟨new, old, hnew, hold, hln, hlo, hN0⟩ : ∃ new old : List Int, colZ ps ((ds.zip st).take (m + 1)) = new ∧ colZ ps ((ds.zip st).take m) = old ∧ new.length = old.length ∧ old.length = ps.length ∧ ∀ v (hv : v < ps.length) (h1 : v < new.length) (h2 : v < old.length), (new[v] = if ps[v] = ps[ka] then orE old[v] else old[v]) ∧ (old[v] = 0 ∨ old[v] = 1 ∨ old[v] = 2 ∨ old[v] = 3) := ⟨_, _, rfl, rfl, Hln.out, Hlo.out, fun v hv _ _ => ⟨HN.out v hv, HO.out v hv⟩⟩
              rw [hold] at D D1
              clear HN HO Hln Hlo
              have HN := Lib.hid hN0
              have Hln := Lib.hid hln
              have Hlo := Lib.hid hlo
              have Hnew := Lib.hid hnew
              clear hnew hold hN0 hln hlo
              obtain ⟨wo, rfl⟩ : ∃ wo : World, wo = wr := ⟨_, rfl⟩
              obtain ⟨gko, rfl⟩ : ∃ x : Nat, x = gk := ⟨_, rfl⟩
              have hgo := D.size
              go_wp2_with (fail)
              refine HJ.out.mono ?_
              rintro e w' ⟨rfl, rfl⟩
              go_wp2_with (fail)
              go_loopg [12] ns.length (fun g i wn => ∃ k : Nat, k + g = ns.length ∧ i = .int .i64 k ∧ CQ w (.slice A1 ns.length c1) (.slice (some ⟨b', off, none⟩) ds.length c2) go ns.length Ap ps wn (mixL new old k) ∧ wn.heap[wo.heap.size]? = some (.cells #[.string ds[m].name, .int .i64 ds[m].kind, .int .i64 ka, .int .i64 ds[m].b, .int .i64 ds[m].comp] 78 (0, 0)))
              case atStart => exact ⟨0, by omega, rfl, by rw [mixL_zero]; exact D1, bxA⟩
              case round =>
                clear D1 D
                obtain ⟨k, hk, rfl, D, bx⟩ := hrel
                have Hk := Lib.hid hk
                clear hk
                by_cases hlk : k < ns.length
                · have hkp : k < ps.length := by rw [Hpl.out]; exact hlk
                  have hko : k < old.length := by rw [Hlo.out]; exact hkp
                  have p2 : wr.cell? ⟨wo.heap.size, 2, none⟩ = some (.int .i64 ka) := by rw [cell_of_row wr _ 2 _ _ _ bx]; rfl
                  obtain ⟨gp, op, rfl, _, _, r1⟩ := D.parts.at_ hkp
                  obtain ⟨gp', op', e1, _, _, r2⟩ := D.parts.at_ hkap
                  injection e1 with e1
                  injection e1 with e1 e2
                  subst e1 e2
                  have hN := (HN.out k hkp (by rw [Hln.out]; exact hko) hko).1
                  have hO := (HN.out k hkp (by rw [Hln.out]; exact hko) hko).2
                  obtain ⟨c1', c2', _⟩ := D.out.at_ (k := k) (by rw [mixL_len Hln.out]; exact hko)
                  rw [mixL_at Hln.out k hko] at c1'
                  have HmS := Lib.hid (mixL_set Hln.out k hko)
                  have HmK := Lib.hid (mixL_same Hln.out k hko)
                  by_cases heq : (ps[k] == ps[ka]) = true
                  · rw [if_pos (by simpa using heq)] at hN
                    have HmS := Lib.hid (show (mixL new old k).set k (orE old[k]) = mixL new old (k + 1) by rw [← hN]; exact HmS.out)
                    have hbits := bits_or_earth old[k] hO
                    clear hN HmK hO
                    generalize ps[k] = x at *
                    generalize ps[ka] = y at *
                    generalize old[k] = z at *
                    go_wp2_with (fail)
                    go_quiet (fail)
                    go_wp2_with (fail)
                    go_roundg (gk - 1)
                    case measure => have := Hk.out; omega
                    case rel => exact ⟨k + 1, by have := Hk.out; omega, by go_num, by rw [← HmS.out]; exact (D.below (below_drewN _ _ _)).set k _, (Below.heap_setCell _ _ _ _ (by show wo.heap.size ≠ go; omega)).trans bx⟩
                  · have heq : (ps[k] == ps[ka]) = false := by simpa using heq
                    rw [if_neg (by simpa using heq)] at hN
                    have HmK := Lib.hid (HmK.out hN)
                    clear hN HmS hO
                    generalize ps[k] = x at *
                    generalize ps[ka] = y at *
                    go_wp2_with (fail)
                    go_quiet (fail)
                    go_wp2_with (fail)
                    go_roundg (gk - 1)
                    case measure => have := Hk.out; omega
                    case rel => exact ⟨k + 1, by have := Hk.out; omega, by go_num, by rw [← HmK.out]; exact D.below (below_drewN _ _ _), bx⟩
                · rw [mixL_all Hln.out k (by rw [Hlo.out, Hpl.out]; omega)] at D
                  go_wp2_with (fail)
                  go_roundg (gko - 1)
                  case measure => have := Hm.out; omega
                  case rel => exact ⟨m + 1, by have := Hm.out; omega, by go_num, by rw [Hnew.out]; exact D⟩
            · have hk4 : (ds[m].kind == 4) = false := by simpa using hk4
              have hkk : ds[m].kind = 5 ∨ ds[m].kind = 6 := by simp at hk4; omega
              have HN := Lib.hid (show ∀ v (hv : v < ps.length), (colZ ps ((ds.zip st).take (m + 1)))[v]'(by rw [colZ_len]; exact hv) = if ps[v] = PO.at_ ps ds[m].a.toNat then orL ((colZ ps ((ds.zip st).take m))[v]'(by rw [colZ_len]; exact hv)) else (colZ ps ((ds.zip st).take m))[v]'(by rw [colZ_len]; exact hv) from fun v hv => by
                rw [colZ_get _ _ _ hv, colZ_get _ _ _ hv, htk, bits_live ps _ (ds[m], st[m]) hs2 hkk])
              have HO := Lib.hid (show ∀ v (hv : v < ps.length), (colZ ps ((ds.zip st).take m))[v]'(by rw [colZ_len]; exact hv) = 0 ∨ (colZ ps ((ds.zip st).take m))[v]'(by rw [colZ_len]; exact hv) = 1 ∨ (colZ ps ((ds.zip st).take m))[v]'(by rw [colZ_len]; exact hv) = 2 ∨ (colZ ps ((ds.zip st).take m))[v]'(by rw [colZ_len]; exact hv) = 3 from fun v hv => by
                rw [colZ_get _ _ _ hv]; exact bits_cases _ _ _)
              have Hln := Lib.hid (show (colZ ps ((ds.zip st).take (m + 1))).length = (colZ ps ((ds.zip st).take m)).length by rw [colZ_len, colZ_len])
              have Hlo := Lib.hid (show (colZ ps ((ds.zip st).take m)).length = ps.length by rw [colZ_len])
              rw [hs2] at hcu
              obtain ⟨ka, hka⟩ := Int.eq_ofNat_of_zero_le hda.1
              have hkan : ka < ns.length := by omega
              have hkap : ka < ps.length := by rw [Hpl.out]; exact hkan
              rw [hka, Int.toNat_natCast] at HN
              have HN := Lib.hid (fun v hv => (HN.out v hv).trans (by rw [at_get hkap]))
              rw [hka] at q2 D1 HJ hcu
              have bxA := heap_alloc_new wr (.cells #[.string ds[m].name, .int .i64 ds[m].kind, .int .i64 ka, .int .i64 ds[m].b, .int .i64 ds[m].comp] 78)
              have HJ := Lib.hid HJ
              clear htk hda hki hs2 huse hka hbA hkk hk456
              obtain ⟨new, old, hnew, hold, hln, hlo, hN0⟩ : ∃ new old : List Int, colZ ps ((ds.zip st).take (m + 1)) = new ∧ colZ ps ((ds.zip st).take m) = old ∧ new.length = old.length ∧ old.length = ps.length ∧ ∀ v (hv : v < ps.length) (h1 : v < new.length) (h2 : v < old.length), (new[v] = if ps[v] = ps[ka] then orL old[v] else old[v]) ∧ (old[v] = 0 ∨ old[v] = 1 ∨ old[v] = 2 ∨ old[v] = 3) := ⟨_, _, rfl, rfl, Hln.out, Hlo.out, fun v hv _ _ => ⟨HN.out v hv, HO.out v hv⟩⟩
              rw [hold] at D D1
              clear HN HO Hln Hlo
              have HN := Lib.hid hN0
              have Hln := Lib.hid hln
              have Hlo := Lib.hid hlo
              have Hnew := Lib.hid hnew
              clear hnew hold hN0 hln hlo
              obtain ⟨wo, rfl⟩ : ∃ wo : World, wo = wr := ⟨_, rfl⟩
              obtain ⟨gko, rfl⟩ : ∃ x : Nat, x = gk := ⟨_, rfl⟩
              have hgo := D.size
              go_wp2_with (fail)
              refine HJ.out.mono ?_
              rintro e w' ⟨rfl, rfl⟩
              go_wp2_with (fail)
              go_loopg [12] ns.length (fun g i wn => ∃ k : Nat, k + g = ns.length ∧ i = .int .i64 k ∧ CQ w (.slice A1 ns.length c1) (.slice (some ⟨b', off, none⟩) ds.length c2) go ns.length Ap ps wn (mixL new old k) ∧ wn.heap[wo.heap.size]? = some (.cells #[.string ds[m].name, .int .i64 ds[m].kind, .int .i64 ka, .int .i64 ds[m].b, .int .i64 ds[m].comp] 78 (0, 0)))
              case atStart => exact ⟨0, by omega, rfl, by rw [mixL_zero]; exact D1, bxA⟩
              case round =>
                clear D1 D
                obtain ⟨k, hk, rfl, D, bx⟩ := hrel
                have Hk := Lib.hid hk
                clear hk
                by_cases hlk : k < ns.length
                · have hkp : k < ps.length := by rw [Hpl.out]; exact hlk
                  have hko : k < old.length := by rw [Hlo.out]; exact hkp
                  have p2 : wr.cell? ⟨wo.heap.size, 2, none⟩ = some (.int .i64 ka) := by rw [cell_of_row wr _ 2 _ _ _ bx]; rfl
                  obtain ⟨gp, op, rfl, _, _, r1⟩ := D.parts.at_ hkp
                  obtain ⟨gp', op', e1, _, _, r2⟩ := D.parts.at_ hkap
                  injection e1 with e1
                  injection e1 with e1 e2
                  subst e1 e2
                  have hN := (HN.out k hkp (by rw [Hln.out]; exact hko) hko).1
                  have hO := (HN.out k hkp (by rw [Hln.out]; exact hko) hko).2
                  obtain ⟨c1', c2', _⟩ := D.out.at_ (k := k) (by rw [mixL_len Hln.out]; exact hko)
                  rw [mixL_at Hln.out k hko] at c1'
                  have HmS := Lib.hid (mixL_set Hln.out k hko)
                  have HmK := Lib.hid (mixL_same Hln.out k hko)
                  by_cases heq : (ps[k] == ps[ka]) = true
                  · rw [if_pos (by simpa using heq)] at hN
                    have HmS := Lib.hid (show (mixL new old k).set k (orL old[k]) = mixL new old (k + 1) by rw [← hN]; exact HmS.out)
                    have hbits := bits_or_live old[k] hO
                    clear hN HmK hO
                    generalize ps[k] = x at *
                    generalize ps[ka] = y at *
                    generalize old[k] = z at *
                    go_wp2_with (fail)
                    go_quiet (fail)
                    go_wp2_with (fail)
                    go_roundg (gk - 1)
                    case measure => have := Hk.out; omega
                    case rel => exact ⟨k + 1, by have := Hk.out; omega, by go_num, by rw [← HmS.out]; exact (D.below (below_drewN _ _ _)).set k _, (Below.heap_setCell _ _ _ _ (by show wo.heap.size ≠ go; omega)).trans bx⟩
                  · have heq : (ps[k] == ps[ka]) = false := by simpa using heq
                    rw [if_neg (by simpa using heq)] at hN
                    have HmK := Lib.hid (HmK.out hN)
                    clear hN HmS hO
                    generalize ps[k] = x at *
                    generalize ps[ka] = y at *
                    go_wp2_with (fail)
                    go_quiet (fail)
                    go_wp2_with (fail)
                    go_roundg (gk - 1)
                    case measure => have := Hk.out; omega
                    case rel => exact ⟨k + 1, by have := Hk.out; omega, by go_num, by rw [← HmK.out]; exact D.below (below_drewN _ _ _), bx⟩
                · rw [mixL_all Hln.out k (by rw [Hlo.out, Hpl.out]; omega)] at D
                  go_wp2_with (fail)
                  go_roundg (gko - 1)
                  case measure => have := Hm.out; omega
                  case rel => exact ⟨m + 1, by have := Hm.out; omega, by go_num, by rw [Hnew.out]; exact D⟩
      · have hfin : (ds.zip st).take m = ds.zip st := List.take_of_length_le (by simp; omega)
        rw [hfin] at D
        clear hfin
        go_wp2_with (fail)
        go_ret2
        rw [HE.out]
        refine ⟨some ⟨go, 0, none⟩, ns.length, ?_, ?_, D.bel⟩
        · show _ = Ending.returned (.tuple #[.slice (some ⟨go, 0, none⟩) (colZ ps (ds.zip st)).length ns.length, .int .i64 0])
          rw [colZ_len, Hpl.out]; rfl
        · exact OI.mono D.out (fun g _ hg => by have := D.lt; have hg : g = go := hg; show w.heap.size ≤ g; omega)
end Go.Proofs.YtgpcojmdfmngeaaDoor

/-
  Walks of the reference's Other and Has.
-/
import Derived.Test.YtglhplddjjoggaaDoorRChk2
namespace Go.Proofs.YtglhplddjjoggaaDoor
open Go.RowKit
set_option maxHeartbeats 400000
set_option maxRecDepth 100000

theorem refHas_any (w : World) (S : Nat → Prop) (A : Option Addr) (c : Nat) (xs : List Int) (hs : SI w S A xs) (hl : xs.length ≤ 65536) (y : Int) :
    Calls Tryd.prog 85 #[.slice A xs.length c, .int .i64 y] w fun e w' => e = .returned (.bool (decide (y ∈ xs))) ∧ w = w' := by
  go_enter Tryd.func85, Tryd.ntmps85
  go_wp2_with (fail)
  go_loopg [5] xs.length (fun g i wr => wr = w ∧ ∃ k : Nat, k + g = xs.length ∧ i = .int .i64 k ∧ ∀ j (h : j < xs.length), j < k → xs[j] ≠ y)
  case atStart => exact ⟨rfl, 0, by omega, rfl, fun j _ h => by omega⟩
  case round =>
    obtain ⟨rfl, k, hk, rfl, hno⟩ := hrel
    have Hk := Lib.hid hk
    have Hno := Lib.hid hno
    clear hk hno
    by_cases hlt : k < xs.length
    · obtain ⟨b, off, rfl, _, _, hc⟩ := hs.at_ hlt
      by_cases he : (xs[k] == y) = true
      · have He := Lib.hid he
        go_wp2_with (fail)
        go_ret
        refine ⟨retB ?_, rfl⟩
        have : xs[k] = y := by simpa using He.out
        rw [decide_eq_true (by rw [← this]; exact List.getElem_mem hlt)]
      · have he : (xs[k] == y) = false := by simpa using he
        have He := Lib.hid he
        go_wp2_with (fail)
        go_roundg (gk - 1)
        case measure => have := Hk.out; omega
        case rel =>
          refine ⟨rfl, k + 1, by have := Hk.out; omega, by go_num, fun j h hj => ?_⟩
          by_cases hjk : j = k
          · subst hjk; simpa using He.out
          · exact Hno.out j h (by omega)
    · go_wp2_with (fail)
      go_ret
      refine ⟨retB ?_, rfl⟩
      rw [decide_eq_false (fun hm => by
        obtain ⟨j, hj, e⟩ := List.getElem_of_mem hm
        exact Hno.out j hj (by omega) e)]

theorem refOther_any (w : World) (S : Nat → Prop) (A1 A2 : Option Addr) (c1 c2 : Nat) (ns : List Node) (ds : List Dev) (hn : NetIn w S A1 A2 ns ds) (hl1 : ns.length ≤ 65536) (hl2 : ds.length ≤ 65536) (i v : Int) :
    Calls Tryd.prog 33 #[.agg #[.slice A1 ns.length c1, .slice A2 ds.length c2], .int .i64 i, .int .i64 v] w fun e w' => e = .returned (.int .i64 (otherL ns ds i v)) ∧ Below w.heap.size w w' := by
  have hb := (Below.refl w.heap.size w).alloc (Nat.le_refl _) (.cells #[.slice A1 ns.length c1, .slice A2 ds.length c2] 26)
  have HC := Lib.hid (refCheck_any _ S A1 A2 c1 c2 ns ds (hn.below hb) hl1 hl2)
  have HE := Lib.hid (show otherL ns ds i v = if checkL ns ds = 0 ∧ 0 ≤ i ∧ i < ds.length then (match ds[i.toNat]? with | some d => acrossL d v | none => -1) else -1 from rfl)
  generalize checkL ns ds = ce at *
  by_cases h0 : (ce != 0) = true
  · have H0 := Lib.hid (show ¬ ce = 0 by simpa using h0)
    go_enter Tryd.func33, Tryd.ntmps33
    go_wp2_with (go_at_call 23; (with_reducible refine (HC.out).mono ?_); rintro e w1 ⟨rfl, hb1⟩)
    go_ret
    exact ⟨by rw [HE.out, if_neg (fun h => H0.out h.1)]; rfl, hb.trans (hb1.mono hb.size)⟩
  · have h0' : (ce != 0) = false := by simpa using h0
    have H0 := Lib.hid (show ce = 0 by simpa using h0)
    clear h0
    by_cases h1 : i < 0
    · have h1' : decide (i < 0) = true := by simp; omega
      go_enter Tryd.func33, Tryd.ntmps33
      go_wp2_with (go_at_call 23; (with_reducible refine (HC.out).mono ?_); rintro e w1 ⟨rfl, hb1⟩)
      go_ret
      exact ⟨by rw [HE.out, if_neg (by omega)]; rfl, hb.trans (hb1.mono hb.size)⟩
    · by_cases h2 : (ds.length : Int) ≤ i
      · go_enter Tryd.func33, Tryd.ntmps33
        go_wp2_with (fail)
        refine (HC.out).mono ?_
        rintro e w1 ⟨rfl, hb1⟩
        have hbox := box_at hb1
        have n1 : w1.cell? ⟨w.heap.size, 1, none⟩ = some (.slice A2 ds.length c2) := by rw [cell_of_row w1 _ 1 _ _ _ hbox]; rfl
        clear hbox
        go_wp2_with (fail)
        go_ret
        exact ⟨by rw [HE.out, if_neg (by omega)]; rfl, hb.trans (hb1.mono hb.size)⟩
      · obtain ⟨k, rfl⟩ := Int.eq_ofNat_of_zero_le (show 0 ≤ i by omega)
        have hk : k < ds.length := by omega
        have HE2 := Lib.hid (show otherL ns ds k v = if joinsB ds[k].kind = false then -1 else if ds[k].a == v then ds[k].b else if ds[k].b == v then ds[k].a else -1 by rw [HE.out, if_pos ⟨H0.out, by omega, by omega⟩]; simp [hk, acrossL])
        clear HE h1 h2
        have HJ := fun w => refJoins_any ds[k].kind w
        generalize joinsB ds[k].kind = jb at *
        have HJ := Lib.hid HJ
        go_enter Tryd.func33, Tryd.ntmps33
        go_wp2_with (fail)
        refine (HC.out).mono ?_
        rintro e w1 ⟨rfl, hb1⟩
        have hbox := box_at hb1
        have n1 : w1.cell? ⟨w.heap.size, 1, none⟩ = some (.slice A2 ds.length c2) := by rw [cell_of_row w1 _ 1 _ _ _ hbox]; rfl
        have hbA := hb.trans (hb1.mono hb.size)
        obtain ⟨b, off, rfl, hS, hbl, q0, q1, q2, q3, q4⟩ := (hn.below hbA).dev hk
        clear hbox
        go_wp2_with (fail)
        refine (HJ.out w1).mono ?_
        rintro e w' ⟨rfl, rfl⟩
        cases jb
        · go_wp2_with (fail)
          go_ret
          exact ⟨by rw [HE2.out]; rfl, hbA⟩
        · by_cases ha : (ds[k].a == v) = true
          · rw [ha] at HE2
            go_wp2_with (fail)
            go_ret
            exact ⟨by rw [HE2.out]; rfl, hbA⟩
          · have ha : (ds[k].a == v) = false := by simpa using ha
            rw [ha] at HE2
            by_cases hb' : (ds[k].b == v) = true
            · rw [hb'] at HE2
              go_wp2_with (fail)
              go_ret
              exact ⟨by rw [HE2.out]; rfl, hbA⟩
            · have hb' : (ds[k].b == v) = false := by simpa using hb'
              rw [hb'] at HE2
              go_wp2_with (fail)
              go_ret
              exact ⟨by rw [HE2.out]; rfl, hbA⟩
end Go.Proofs.YtglhplddjjoggaaDoor

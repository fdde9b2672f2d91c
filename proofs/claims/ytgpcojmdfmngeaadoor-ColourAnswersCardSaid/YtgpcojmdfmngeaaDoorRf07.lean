/-
  Walks of the reference's Faults and Joined.
-/
import Derived.Test.YtgpcojmdfmngeaaDoorR07c
import Derived.Test.YtgpcojmdfmngeaaDoorGe
import Derived.Test.YtgpcojmdfmngeaaDoorRWay
import Derived.Test.YtgpcojmdfmngeaaDoorGa
import Derived.BigQuiet
namespace Go.Proofs.YtgpcojmdfmngeaaDoor
open Go.RowKit
set_option maxHeartbeats 400000
set_option maxRecDepth 100000

set_option maxHeartbeats 2000000 in
theorem refFaults_any (w : World) (S : Nat → Prop) (A1 A2 : Option Addr) (c1 c2 : Nat) (ns : List Node) (ds : List Dev) (hn : NetIn w S A1 A2 ns ds) (hl1 : ns.length ≤ 65536) (hl2 : ds.length ≤ 65536)
    (U : Option Addr) (cu : Nat) (st : List Int) (hs : SI w S U st) (hsl : st.length ≤ 65536) :
    Calls Tryd.prog 72 #[.agg #[.slice A1 ns.length c1, .slice A2 ds.length c2], .slice U st.length cu] w (RetIE w (faultsE ns ds st)) := by
  have hb := (Below.refl w.heap.size w).alloc (Nat.le_refl _) (.cells #[.slice A1 ns.length c1, .slice A2 ds.length c2] 26)
  have HC := Lib.hid (refColours_any _ S A1 A2 c1 c2 ns ds (hn.below hb) hl1 hl2 U cu st (hs.keep (Kept.of_below hb)) hsl)
  have hcl := coloursE_len ns ds st
  unfold faultsE
  generalize coloursE ns ds st = r at *
  obtain ⟨cs, ce⟩ := r
  have hcl : cs.length ≤ 65536 := by simp at hcl; omega
  go_enter Tryd.func72, Tryd.ntmps72
  go_wp2_with (fail)
  refine (HC.out).mono ?_
  rintro e w1 ⟨A, c, rfl, ho1, hb1⟩
  have hbA := hb.trans (hb1.mono hb.size)
  have hs1 : SI w1 (fun g => w.heap.size < g) A cs := (OI.si ho1).mono (fun x _ hx => by simp at hx; show w.heap.size < x; omega)
  clear ho1 hb1 hb HC
  go_wp2_with (fail)
  go_loopg [8, 9] cs.length (fun g v i wr => ∃ (k : Nat) (A' : Option Addr) (c' : Nat) (ys : List Int), k + g = cs.length ∧ i = .int .i64 k ∧ v = .slice A' ys.length c' ∧ OI wr (fun g => w1.heap.size ≤ g) A' c' ys ∧ Below w1.heap.size w1 wr ∧
    ys ++ flt (cs.drop k) k = flt cs 0 ∧ ys.length ≤ k)
  case atStart => exact ⟨0, none, 0, [], by simp, rfl, rfl, OI.nil _ _, Below.refl _ _, rfl, Nat.le_refl _⟩
  case round =>
    obtain ⟨k, A', c', ys, hk, rfl, rfl, hown, hbel, hi, hyl⟩ := hrel
    have Hi := Lib.hid hi
    clear hi
    have Hk := Lib.hid hk
    clear hk
    have hs' := hs1.keep (Kept.of_below hbel)
    by_cases hlt : k < cs.length
    · obtain ⟨b, off, rfl, _, _, hc⟩ := hs'.at_ hlt
      have Hd := Lib.hid (flt_drop cs k hlt)
      go_wp2_with (at_builtin; go_must (refine wpList_push (B := w1.heap.size) rfl (.tmp 27) (.tmp 29) rfl rfl rfl rfl (hown.keep (Kept.alloc _ _ _)) (new_cell _ _ _) (by omega) (by simp; have := hbel.size; omega) ?_); intro A1 c1 w1 ho1 hb1 _ _)
      · go_roundg (gk - 1)
        case measure => have := Hk.out; omega
        case rel =>
          have := Hk.out
          refine ⟨k + 1, _, _, _, by omega, by go_num, ?_, ho1, (hbel.alloc hbel.size _).trans hb1, ?_, ?_⟩
          · simp
          · rw [← Hi.out, Hd.out, if_pos (by simp_all)]; simp
          · simp; omega
      · go_roundg (gk - 1)
        case measure => have := Hk.out; omega
        case rel =>
          have := Hk.out
          refine ⟨k + 1, _, _, _, by omega, by go_num, rfl, hown, hbel, ?_, by omega⟩
          rw [← Hi.out, Hd.out, if_neg (by simp_all)]
    · go_wp2_with (fail)
      go_ret2
      have e := Hi.out
      rw [List.drop_of_length_le (by omega)] at e
      have e : flt cs 0 = ys := by rw [← e]; simp [flt]
      rw [e]
      exact ⟨A', c', rfl, hown.mono (fun x _ hx => by show w.heap.size ≤ x; have := hbA.size; have : w1.heap.size ≤ x := hx; omega), hbA.trans (hbel.mono hbA.size)⟩
set_option maxHeartbeats 4000000 in
theorem refJoined_any (w : World) (S : Nat → Prop) (A1 A2 : Option Addr) (c1 c2 : Nat) (ns : List Node) (ds : List Dev) (hn : NetIn w S A1 A2 ns ds) (hl1 : ns.length ≤ 65536) (hl2 : ds.length ≤ 65536)
    (U : Option Addr) (cu : Nat) (st : List Int) (hs : SI w S U st) (hsl : st.length ≤ 65536) (a b : Int) :
    Calls Tryd.prog 75 #[.agg #[.slice A1 ns.length c1, .slice A2 ds.length c2], .slice U st.length cu, .int .i64 a, .int .i64 b] w fun e w' => e = .returned (.tuple #[.bool (joinedE ns ds st a b).1, .int .i64 (joinedE ns ds st a b).2]) ∧ Below w.heap.size w w' := by
  have hb := (Below.refl w.heap.size w).alloc (Nat.le_refl _) (.cells #[.slice A1 ns.length c1, .slice A2 ds.length c2] 26)
  have HC := refParts_any _ S A1 A2 c1 c2 ns ds (hn.below hb) hl1 hl2 U cu st (hs.keep (Kept.of_below hb)) hsl
  have HE := Lib.hid (show joinedE ns ds st a b = if maskC isPos ns ds st ≠ 0 then (false, maskC isPos ns ds st) else if existsB ns.length a = false ∨ existsB ns.length b = false then (false, 7) else (PO.at_ (partsL ns.length ds st) a.toNat == PO.at_ (partsL ns.length ds st) b.toNat, 0) from rfl)
  have Hpl := partsL_len ns.length ds st
  unfold partsE at HC
  generalize maskC isPos ns ds st = ce at *
  generalize partsL ns.length ds st = ps at *
  by_cases h0 : (ce != 0) = true
  · have H0 := Lib.hid (show ¬ ce = 0 by simpa using h0)
    rw [if_pos H0.out] at HC
    have HC := Lib.hid HC
    go_enter Tryd.func75, Tryd.ntmps75
    go_wp2_with (fail)
    refine (HC.out).mono ?_
    rintro e w1 ⟨A, c, rfl, ho1, hb1⟩
    clear ho1
    go_wp2_with (fail)
    go_ret2
    rw [HE.out, if_pos H0.out]
    exact ⟨rfl, hb.trans (hb1.mono hb.size)⟩
  · have h0' : (ce != 0) = false := by simpa using h0
    have hz : ce = 0 := by simpa using h0
    rw [if_neg (by simpa using hz)] at HE HC
    have HC := Lib.hid HC
    clear h0 h0' hz
    rw [← Hpl] at HE
    have hpl : ps.length ≤ 65536 := by omega
    clear Hpl
    by_cases ha : a < 0
    · have da : decide (a < 0) = true := decide_eq_true ha
      have Ha := Lib.hid ha
      clear ha
      go_enter Tryd.func75, Tryd.ntmps75
      go_wp2_with (fail)
      refine (HC.out).mono ?_
      rintro e w1 ⟨A, c, rfl, ho1, hb1⟩
      clear ho1
      go_wp2_with (fail)
      go_ret2
      rw [HE.out, if_pos (Or.inl (existsB_neg Ha.out))]
      exact ⟨rfl, hb.trans (hb1.mono hb.size)⟩
    · have da : decide (a < 0) = false := decide_eq_false ha
      by_cases ha2 : (ps.length : Int) ≤ a
      · have da2 : decide ((ps.length : Int) ≤ a) = true := decide_eq_true ha2
        have Ha := Lib.hid ha2
        clear ha ha2
        go_enter Tryd.func75, Tryd.ntmps75
        go_wp2_with (fail)
        refine (HC.out).mono ?_
        rintro e w1 ⟨A, c, rfl, ho1, hb1⟩
        clear ho1
        go_wp2_with (fail)
        go_ret2
        rw [HE.out, if_pos (Or.inl (existsB_big Ha.out))]
        exact ⟨rfl, hb.trans (hb1.mono hb.size)⟩
      · have da2 : decide ((ps.length : Int) ≤ a) = false := decide_eq_false ha2
        by_cases hb0 : b < 0
        · have db : decide (b < 0) = true := decide_eq_true hb0
          have Ha := Lib.hid hb0
          clear ha ha2 hb0
          go_enter Tryd.func75, Tryd.ntmps75
          go_wp2_with (fail)
          refine (HC.out).mono ?_
          rintro e w1 ⟨A, c, rfl, ho1, hb1⟩
          clear ho1
          go_wp2_with (fail)
          go_ret2
          rw [HE.out, if_pos (Or.inr (existsB_neg Ha.out))]
          exact ⟨rfl, hb.trans (hb1.mono hb.size)⟩
        · have db : decide (b < 0) = false := decide_eq_false hb0
          by_cases hb2 : (ps.length : Int) ≤ b
          · have db2 : decide ((ps.length : Int) ≤ b) = true := decide_eq_true hb2
            have Ha := Lib.hid hb2
            clear ha ha2 hb0 hb2
            go_enter Tryd.func75, Tryd.ntmps75
            go_wp2_with (fail)
            refine (HC.out).mono ?_
            rintro e w1 ⟨A, c, rfl, ho1, hb1⟩
            clear ho1
            go_wp2_with (fail)
            go_ret2
            rw [HE.out, if_pos (Or.inr (existsB_big Ha.out))]
            exact ⟨rfl, hb.trans (hb1.mono hb.size)⟩
          · obtain ⟨ka, rfl⟩ := Int.eq_ofNat_of_zero_le (show 0 ≤ a by omega)
            obtain ⟨kb, rfl⟩ := Int.eq_ofNat_of_zero_le (show 0 ≤ b by omega)
            have hka : ka < ps.length := by omega
            have hkb : kb < ps.length := by omega
            have db2 : decide ((ps.length : Int) ≤ (kb : Int)) = false := decide_eq_false hb2
            rw [if_neg (by unfold existsB; simp; omega)] at HE
            simp only [Int.toNat_natCast] at HE
            clear ha ha2 hb0 hb2
            go_enter Tryd.func75, Tryd.ntmps75
            go_wp2_with (fail)
            refine (HC.out).mono ?_
            rintro e w1 ⟨A, c, rfl, ho1, hb1⟩
            have hbA := hb.trans (hb1.mono hb.size)
            have hs3 := OI.si ho1
            obtain ⟨g, off, rfl, _, _, q1⟩ := hs3.at_ hka
            obtain ⟨g2, off2, e2, _, _, q2⟩ := hs3.at_ hkb
            injection e2 with e2
            injection e2 with e2 e3
            subst e2 e3
            rw [← at_get hka] at q1
            rw [← at_get hkb] at q2
            clear hs3 ho1 hb1
            go_wp2_with (go_quiet (fail))
            go_ret2
            rw [HE.out]
            exact ⟨rfl, hbA.trans (below_drewN _ _ nq)⟩
end Go.Proofs.YtgpcojmdfmngeaaDoor

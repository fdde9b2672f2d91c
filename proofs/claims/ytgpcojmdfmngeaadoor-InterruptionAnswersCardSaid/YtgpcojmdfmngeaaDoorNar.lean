/-
  Walks of the reference's Node, Device, At, Gap, Operable, of the program's Gap, Operable, and of mk.Light, mk.Mod.
-/
import Derived.Test.YtgpcojmdfmngeaaDoorGd
import Derived.Test.YtgpcojmdfmngeaaDoorGc
import Derived.Test.YtgpcojmdfmngeaaDoorGk
namespace Go.Proofs.YtgpcojmdfmngeaaDoor
open Go.RowKit
set_option maxHeartbeats 400000
set_option maxRecDepth 100000

theorem refCheck_full (w : World) (S : Nat → Prop) (A1 A2 : Option Addr) (c1 c2 : Nat) (ns : List Node) (ds : List Dev) (hn : NetIn w S A1 A2 ns ds) (hl1 : ns.length ≤ maxLen) (hl2 : ds.length ≤ maxLen) :
    Calls Tryd.prog 17 #[.agg #[.slice A1 ns.length c1, .slice A2 ds.length c2]] w fun e w' => e = .returned (.int .i64 (checkL ns ds)) ∧ Below w.heap.size w w' := by
  unfold maxLen at hl1 hl2
  by_cases h1 : ns.length ≤ 65536
  · by_cases h2 : ds.length ≤ 65536
    · exact refCheck_any w S A1 A2 c1 c2 ns ds hn h1 h2
    · by_cases h32 : 32 < ns.length
      · have e1 := Lib.hid (show checkL ns ds = 1 by unfold checkL; rw [if_pos (.inl h32)])
        go_enter Tryd.func17, Tryd.ntmps17
        go_wp2_with (fail)
        go_ret
        exact ⟨by rw [e1.out]; rfl, (Below.refl _ _).alloc (Nat.le_refl _) _⟩
      · have h64 : 64 < ds.length := by omega
        have e1 := Lib.hid (show checkL ns ds = 1 by unfold checkL; rw [if_pos (.inr h64)])
        go_enter Tryd.func17, Tryd.ntmps17
        go_wp2_with (fail)
        go_ret
        exact ⟨by rw [e1.out]; rfl, (Below.refl _ _).alloc (Nat.le_refl _) _⟩
  · have h32 : 32 < ns.length := by omega
    have e1 := Lib.hid (show checkL ns ds = 1 by unfold checkL; rw [if_pos (.inl h32)])
    go_enter Tryd.func17, Tryd.ntmps17
    go_wp2_with (fail)
    go_ret
    exact ⟨by rw [e1.out]; rfl, (Below.refl _ _).alloc (Nat.le_refl _) _⟩

def gapB (k : Int) : Bool := (k == 1) || (k == 3) || (k == 6)
def operB (k : Int) : Bool := decide (1 ≤ k) && decide (k ≤ 6) && (k != 5)
theorem gap_any (k : Int) (w : World) : Calls Tryd.prog 33 #[.int .i64 k] w fun e w' => e = .returned (.bool (gapB k)) ∧ w = w' := by
  by_cases h1 : (k == 1) = true
  · go_enter Tryd.func33, Tryd.ntmps33
    go_wp2
    go_ret
    exact ⟨retB (by simp only [gapB, h1]; rfl), rfl⟩
  · have h1 : (k == 1) = false := by simpa using h1
    by_cases h3 : (k == 3) = true
    · go_enter Tryd.func33, Tryd.ntmps33
      go_wp2
      go_ret
      exact ⟨retB (by simp only [gapB, h1, h3]; rfl), rfl⟩
    · have h3 : (k == 3) = false := by simpa using h3
      go_enter Tryd.func33, Tryd.ntmps33
      go_wp2
      go_ret
      exact ⟨retB (by simp only [gapB, h1, h3]; rfl), rfl⟩
theorem refGap_any (k : Int) (w : World) : Calls Tryd.prog 34 #[.int .i64 k] w fun e w' => e = .returned (.bool (gapB k)) ∧ w = w' := by
  by_cases h1 : (k == 1) = true
  · go_enter Tryd.func34, Tryd.ntmps34
    go_wp2
    go_ret
    exact ⟨retB (by simp only [gapB, h1]; rfl), rfl⟩
  · have h1 : (k == 1) = false := by simpa using h1
    by_cases h3 : (k == 3) = true
    · go_enter Tryd.func34, Tryd.ntmps34
      go_wp2
      go_ret
      exact ⟨retB (by simp only [gapB, h1, h3]; rfl), rfl⟩
    · have h3 : (k == 3) = false := by simpa using h3
      go_enter Tryd.func34, Tryd.ntmps34
      go_wp2
      go_ret
      exact ⟨retB (by simp only [gapB, h1, h3]; rfl), rfl⟩
theorem oper_any (k : Int) (w : World) : Calls Tryd.prog 35 #[.int .i64 k] w fun e w' => e = .returned (.bool (operB k)) ∧ w = w' := by
  by_cases h1 : 1 ≤ k
  · by_cases h6 : k ≤ 6
    · have h6' : decide (k ≤ 6) = true := decide_eq_true h6
      go_enter Tryd.func35, Tryd.ntmps35
      go_wp2
      go_ret
      exact ⟨retB (by simp [operB, h1, h6]), rfl⟩
    · have h6' : decide (k ≤ 6) = false := decide_eq_false h6
      go_enter Tryd.func35, Tryd.ntmps35
      go_wp2
      go_ret
      exact ⟨retB (by simp [operB]; omega), rfl⟩
  · have h1' : decide (1 ≤ k) = false := decide_eq_false h1
    go_enter Tryd.func35, Tryd.ntmps35
    go_wp2
    go_ret
    exact ⟨retB (by simp [operB]; omega), rfl⟩
theorem refOper_any (k : Int) (w : World) : Calls Tryd.prog 36 #[.int .i64 k] w fun e w' => e = .returned (.bool (operB k)) ∧ w = w' := by
  by_cases h1 : 1 ≤ k
  · by_cases h6 : k ≤ 6
    · have h6' : decide (k ≤ 6) = true := decide_eq_true h6
      go_enter Tryd.func36, Tryd.ntmps36
      go_wp2
      go_ret
      exact ⟨retB (by simp [operB, h1, h6]), rfl⟩
    · have h6' : decide (k ≤ 6) = false := decide_eq_false h6
      go_enter Tryd.func36, Tryd.ntmps36
      go_wp2
      go_ret
      exact ⟨retB (by simp [operB]; omega), rfl⟩
  · have h1' : decide (1 ≤ k) = false := decide_eq_false h1
    go_enter Tryd.func36, Tryd.ntmps36
    go_wp2
    go_ret
    exact ⟨retB (by simp [operB]; omega), rfl⟩

def lightB (ns : List Node) (ds : List Dev) : Bool := (decide (ns.length ≤ 40) && decide (ds.length ≤ 14)) || ((checkL ns ds != 0) && decide (ns.length ≤ 100) && decide (ds.length ≤ 200))
theorem light_len {ns : List Node} {ds : List Dev} (h : lightB ns ds = true) : ns.length ≤ 100 ∧ ds.length ≤ 200 := by
  unfold lightB at h
  simp only [Bool.or_eq_true, Bool.and_eq_true, decide_eq_true_eq] at h
  omega
set_option maxHeartbeats 4000000 in
theorem light_any (w : World) (S : Nat → Prop) (A1 A2 : Option Addr) (c1 c2 : Nat) (ns : List Node) (ds : List Dev) (hn : NetIn w S A1 A2 ns ds) (hl1 : ns.length ≤ maxLen) (hl2 : ds.length ≤ maxLen) :
    Calls Tryd.prog 10 #[.agg #[.slice A1 ns.length c1, .slice A2 ds.length c2]] w fun e w' => e = .returned (.bool (lightB ns ds)) ∧ Below w.heap.size w w' := by
  have hb := (Below.refl w.heap.size w).alloc (Nat.le_refl _) (.cells #[.slice A1 ns.length c1, .slice A2 ds.length c2] 26)
  have HC := Lib.hid (refCheck_full _ S A1 A2 c1 c2 ns ds (hn.below hb) hl1 hl2)
  have HE := Lib.hid (show lightB ns ds = ((decide (ns.length ≤ 40) && decide (ds.length ≤ 14)) || ((checkL ns ds != 0) && decide (ns.length ≤ 100) && decide (ds.length ≤ 200))) from rfl)
  unfold maxLen at hl1 hl2
  generalize checkL ns ds = ce at *
  by_cases h1 : ns.length ≤ 40 ∧ ds.length ≤ 14
  · obtain ⟨h1, h2⟩ := h1
    have HE2 : Hid (lightB ns ds = true) := Lib.hid (by rw [HE.out, decide_eq_true h1, decide_eq_true h2]; rfl)
    have d1 : decide ((ns.length : Int) ≤ 40) = true := decide_eq_true (by omega)
    have d2 : decide ((ds.length : Int) ≤ 14) = true := decide_eq_true (by omega)
    go_enter Tryd.func10, Tryd.ntmps10
    go_wp2_with (fail)
    go_ret
    exact ⟨by rw [HE2.out]; rfl, hb⟩
  · have HN := Lib.hid h1
    clear h1
    have key : ∀ (hx : ns.length ≤ 40 → ¬ ds.length ≤ 14), Calls Tryd.prog 10 #[.agg #[.slice A1 ns.length c1, .slice A2 ds.length c2]] w fun e w' => e = .returned (.bool (lightB ns ds)) ∧ Below w.heap.size w w' := by
      intro hx
      have HX := Lib.hid hx
      clear hx
      have HD : Hid ((decide (ns.length ≤ 40) && decide (ds.length ≤ 14)) = false) := Lib.hid (by
        by_cases h : ns.length ≤ 40
        · rw [decide_eq_false (HX.out h), Bool.and_false]
        · rw [decide_eq_false h, Bool.false_and])
      by_cases h40 : ns.length ≤ 40
      all_goals
        have hx := HX.out
        first
          | (have d2 : decide ((ds.length : Int) ≤ 14) = false := decide_eq_false (by have := hx h40; omega); have d1 : decide ((ns.length : Int) ≤ 40) = true := decide_eq_true (by omega))
          | (have d1 : decide ((ns.length : Int) ≤ 40) = false := decide_eq_false (by omega))
        clear hx
        by_cases h0 : (ce != 0) = true
        · by_cases h100 : ns.length ≤ 100
          · have d3 : decide ((ns.length : Int) ≤ 100) = true := decide_eq_true (by omega)
            by_cases h200 : ds.length ≤ 200
            · have d4 : decide ((ds.length : Int) ≤ 200) = true := decide_eq_true (by omega)
              have HE2 : Hid (lightB ns ds = true) := Lib.hid (by rw [HE.out, h0, decide_eq_true h100, decide_eq_true h200, HD.out]; rfl)
              go_enter Tryd.func10, Tryd.ntmps10
              go_wp2_with (fail)
              refine (HC.out).mono ?_
              rintro e w1 ⟨rfl, hb1⟩
              have hbox := box_at hb1
              have n0 : w1.cell? ⟨w.heap.size, 0, none⟩ = some (.slice A1 ns.length c1) := by rw [cell_of_row w1 _ 0 _ _ _ hbox]; rfl
              have n1 : w1.cell? ⟨w.heap.size, 1, none⟩ = some (.slice A2 ds.length c2) := by rw [cell_of_row w1 _ 1 _ _ _ hbox]; rfl
              clear hbox
              go_wp2_with (fail)
              go_ret
              exact ⟨by rw [HE2.out]; rfl, hb.trans (hb1.mono hb.size)⟩
            · have d4 : decide ((ds.length : Int) ≤ 200) = false := decide_eq_false (by omega)
              have HE2 : Hid (lightB ns ds = false) := Lib.hid (by rw [HE.out, h0, decide_eq_true h100, decide_eq_false h200, HD.out]; rfl)
              go_enter Tryd.func10, Tryd.ntmps10
              go_wp2_with (fail)
              refine (HC.out).mono ?_
              rintro e w1 ⟨rfl, hb1⟩
              have hbox := box_at hb1
              have n0 : w1.cell? ⟨w.heap.size, 0, none⟩ = some (.slice A1 ns.length c1) := by rw [cell_of_row w1 _ 0 _ _ _ hbox]; rfl
              have n1 : w1.cell? ⟨w.heap.size, 1, none⟩ = some (.slice A2 ds.length c2) := by rw [cell_of_row w1 _ 1 _ _ _ hbox]; rfl
              clear hbox
              go_wp2_with (fail)
              go_ret
              exact ⟨by rw [HE2.out]; rfl, hb.trans (hb1.mono hb.size)⟩
          · by_cases hq : ns.length ≤ 40
            · exfalso; omega
            · have d3 : decide ((ns.length : Int) ≤ 100) = false := decide_eq_false (by omega)
              have HE2 : Hid (lightB ns ds = false) := Lib.hid (by rw [HE.out, h0, decide_eq_false h100, HD.out]; rfl)
              have hbig : 100 < ns.length := by omega
              clear h40 h100 hq
              go_enter Tryd.func10, Tryd.ntmps10
              go_wp2_with (fail)
              refine (HC.out).mono ?_
              rintro e w1 ⟨rfl, hb1⟩
              have hbox := box_at hb1
              have n0 : w1.cell? ⟨w.heap.size, 0, none⟩ = some (.slice A1 ns.length c1) := by rw [cell_of_row w1 _ 0 _ _ _ hbox]; rfl
              have n1 : w1.cell? ⟨w.heap.size, 1, none⟩ = some (.slice A2 ds.length c2) := by rw [cell_of_row w1 _ 1 _ _ _ hbox]; rfl
              clear hbox
              go_wp2_with (fail)
              go_ret
              exact ⟨by rw [HE2.out]; rfl, hb.trans (hb1.mono hb.size)⟩
        · have h0 : (ce != 0) = false := by simpa using h0
          have HE2 : Hid (lightB ns ds = false) := Lib.hid (by rw [HE.out, h0, HD.out]; rfl)
          go_enter Tryd.func10, Tryd.ntmps10
          go_wp2_with (fail)
          refine (HC.out).mono ?_
          rintro e w1 ⟨rfl, hb1⟩
          go_wp2_with (fail)
          go_ret
          exact ⟨by rw [HE2.out]; rfl, hb.trans (hb1.mono hb.size)⟩
    exact key (fun a b => HN.out ⟨a, b⟩)

theorem refNode_any (w : World) (S : Nat → Prop) (A1 A2 : Option Addr) (c1 c2 : Nat) (ns : List Node) (ds : List Dev) (hn : NetIn w S A1 A2 ns ds) (hl1 : ns.length ≤ 65536) (hl2 : ds.length ≤ 65536) (nm : ByteArray) :
    Calls Tryd.prog 19 #[.agg #[.slice A1 ns.length c1, .slice A2 ds.length c2], .string nm] w fun e w' => e = .returned (.int .i64 (nodeL ns ds nm)) ∧ Below w.heap.size w w' := by
  have hb := (Below.refl w.heap.size w).alloc (Nat.le_refl _) (.cells #[.slice A1 ns.length c1, .slice A2 ds.length c2] 26)
  have HC := Lib.hid (refCheck_any _ S A1 A2 c1 c2 ns ds (hn.below hb) hl1 hl2)
  have HE := Lib.hid (show nodeL ns ds nm = if checkL ns ds = 0 then nodeIdx nm ns 0 else -1 from rfl)
  generalize checkL ns ds = ce at *
  by_cases h0 : (ce != 0) = true
  · have H0 := Lib.hid (show ¬ ce = 0 by simpa using h0)
    go_enter Tryd.func19, Tryd.ntmps19
    go_wp2_with (fail)
    refine (HC.out).mono ?_
    rintro e w1 ⟨rfl, hb1⟩
    go_wp2_with (fail)
    go_ret
    exact ⟨by rw [HE.out, if_neg H0.out]; rfl, hb.trans (hb1.mono hb.size)⟩
  · have h0' : (ce != 0) = false := by simpa using h0
    have H0 := Lib.hid (show ce = 0 by simpa using h0)
    clear h0
    go_enter Tryd.func19, Tryd.ntmps19
    go_wp2_with (fail)
    refine (HC.out).mono ?_
    rintro e w1 ⟨rfl, hb1⟩
    have hbA := hb.trans (hb1.mono hb.size)
    have hbox := box_at hb1
    have n0 : w1.cell? ⟨w.heap.size, 0, none⟩ = some (.slice A1 ns.length c1) := by rw [cell_of_row w1 _ 0 _ _ _ hbox]; rfl
    clear hbox
    go_wp2_with (fail)
    go_loopg [5] ns.length (fun g i wr => wr = w1 ∧ ∃ k : Nat, k + g = ns.length ∧ i = .int .i64 k ∧ nodeIdx nm ns 0 = nodeIdx nm (ns.drop k) k)
    case atStart => exact ⟨rfl, 0, by omega, rfl, rfl⟩
    case round =>
      obtain ⟨rfl, k, hk, rfl, hi⟩ := hrel
      have Hi := Lib.hid hi
      have Hk := Lib.hid hk
      clear hi hk
      by_cases hlt : k < ns.length
      · obtain ⟨b, off, rfl, _, _, q0, q1, q2⟩ := (hn.below hbA).node hlt
        have Hd := Lib.hid (nodeIdx_drop nm ns k hlt)
        generalize ns[k] = x at *
        by_cases he : (x.name.toList == nm.toList) = true
        · have Hd2 : Hid (nodeIdx nm (ns.drop k) k = (k : Int)) := Lib.hid (by rw [Hd.out, if_pos he])
          go_wp2_with (fail)
          go_ret
          exact ⟨by rw [HE.out, if_pos H0.out, Hi.out, Hd2.out]; rfl, hbA⟩
        · have he : (x.name.toList == nm.toList) = false := by simpa using he
          have Hd2 : Hid (nodeIdx nm (ns.drop k) k = nodeIdx nm (ns.drop (k + 1)) (k + 1)) := Lib.hid (by rw [Hd.out, he]; rfl)
          go_wp2_with (fail)
          go_roundg (gk - 1)
          case measure => have := Hk.out; omega
          case rel => exact ⟨rfl, k + 1, by have := Hk.out; omega, by go_num, by rw [Hi.out, Hd2.out]⟩
      · go_wp2_with (fail)
        go_ret
        exact ⟨by rw [HE.out, if_pos H0.out, Hi.out, List.drop_of_length_le (by omega)]; rfl, hbA⟩

theorem refDevice_any (w : World) (S : Nat → Prop) (A1 A2 : Option Addr) (c1 c2 : Nat) (ns : List Node) (ds : List Dev) (hn : NetIn w S A1 A2 ns ds) (hl1 : ns.length ≤ 65536) (hl2 : ds.length ≤ 65536) (nm : ByteArray) :
    Calls Tryd.prog 21 #[.agg #[.slice A1 ns.length c1, .slice A2 ds.length c2], .string nm] w fun e w' => e = .returned (.int .i64 (devL ns ds nm)) ∧ Below w.heap.size w w' := by
  have hb := (Below.refl w.heap.size w).alloc (Nat.le_refl _) (.cells #[.slice A1 ns.length c1, .slice A2 ds.length c2] 26)
  have HC := Lib.hid (refCheck_any _ S A1 A2 c1 c2 ns ds (hn.below hb) hl1 hl2)
  have HE := Lib.hid (show devL ns ds nm = if checkL ns ds = 0 then devIdx nm ds 0 else -1 from rfl)
  generalize checkL ns ds = ce at *
  by_cases h0 : (ce != 0) = true
  · have H0 := Lib.hid (show ¬ ce = 0 by simpa using h0)
    go_enter Tryd.func21, Tryd.ntmps21
    go_wp2_with (fail)
    refine (HC.out).mono ?_
    rintro e w1 ⟨rfl, hb1⟩
    go_wp2_with (fail)
    go_ret
    exact ⟨by rw [HE.out, if_neg H0.out]; rfl, hb.trans (hb1.mono hb.size)⟩
  · have h0' : (ce != 0) = false := by simpa using h0
    have H0 := Lib.hid (show ce = 0 by simpa using h0)
    clear h0
    go_enter Tryd.func21, Tryd.ntmps21
    go_wp2_with (fail)
    refine (HC.out).mono ?_
    rintro e w1 ⟨rfl, hb1⟩
    have hbA := hb.trans (hb1.mono hb.size)
    have hbox := box_at hb1
    have n1 : w1.cell? ⟨w.heap.size, 1, none⟩ = some (.slice A2 ds.length c2) := by rw [cell_of_row w1 _ 1 _ _ _ hbox]; rfl
    clear hbox
    go_wp2_with (fail)
    go_loopg [5] ds.length (fun g i wr => wr = w1 ∧ ∃ k : Nat, k + g = ds.length ∧ i = .int .i64 k ∧ devIdx nm ds 0 = devIdx nm (ds.drop k) k)
    case atStart => exact ⟨rfl, 0, by omega, rfl, rfl⟩
    case round =>
      obtain ⟨rfl, k, hk, rfl, hi⟩ := hrel
      have Hi := Lib.hid hi
      have Hk := Lib.hid hk
      clear hi hk
      by_cases hlt : k < ds.length
      · obtain ⟨b, off, rfl, _, _, q0, q1, q2, q3, q4⟩ := (hn.below hbA).dev hlt
        have Hd := Lib.hid (devIdx_drop nm ds k hlt)
        generalize ds[k] = x at *
        by_cases he : (x.name.toList == nm.toList) = true
        · have Hd2 : Hid (devIdx nm (ds.drop k) k = (k : Int)) := Lib.hid (by rw [Hd.out, if_pos he])
          go_wp2_with (fail)
          go_ret
          exact ⟨by rw [HE.out, if_pos H0.out, Hi.out, Hd2.out]; rfl, hbA⟩
        · have he : (x.name.toList == nm.toList) = false := by simpa using he
          have Hd2 : Hid (devIdx nm (ds.drop k) k = devIdx nm (ds.drop (k + 1)) (k + 1)) := Lib.hid (by rw [Hd.out, he]; rfl)
          go_wp2_with (fail)
          go_roundg (gk - 1)
          case measure => have := Hk.out; omega
          case rel => exact ⟨rfl, k + 1, by have := Hk.out; omega, by go_num, by rw [Hi.out, Hd2.out]⟩
      · go_wp2_with (fail)
        go_ret
        exact ⟨by rw [HE.out, if_pos H0.out, Hi.out, List.drop_of_length_le (by omega)]; rfl, hbA⟩

theorem isL_valid {n : Nat} {d : Dev} (h : endsB d n = true) {v : Int} (hv : 0 ≤ v) : isL d v = ((d.a == v) || (d.b == v)) := by
  obtain ⟨_, _, _, h4⟩ := endsB_parts h
  unfold isL
  cases hj : joinsB d.kind
  · rw [h4 hj, Bool.false_and, show (((-1 : Int) == v) = false) by simp; omega]
  · rw [Bool.true_and]
theorem refAt_any (w : World) (S : Nat → Prop) (A1 A2 : Option Addr) (c1 c2 : Nat) (ns : List Node) (ds : List Dev) (hn : NetIn w S A1 A2 ns ds) (hl1 : ns.length ≤ 65536) (hl2 : ds.length ≤ 65536) (v : Int) :
    Calls Tryd.prog 25 #[.agg #[.slice A1 ns.length c1, .slice A2 ds.length c2], .int .i64 v] w (RetOI w (atL ns ds v)) := by
  have hb := (Below.refl w.heap.size w).alloc (Nat.le_refl _) (.cells #[.slice A1 ns.length c1, .slice A2 ds.length c2] 26)
  have HC := Lib.hid (refCheck_any _ S A1 A2 c1 c2 ns ds (hn.below hb) hl1 hl2)
  have HE := Lib.hid (show atL ns ds v = if checkL ns ds = 0 ∧ existsB ns.length v = true then atFrom v ds 0 else [] from rfl)
  have HZ := Lib.hid (@checkL_zero ns ds)
  generalize checkL ns ds = ce at *
  by_cases h0 : (ce != 0) = true
  · have H0 := Lib.hid (show ¬ ce = 0 by simpa using h0)
    go_enter Tryd.func25, Tryd.ntmps25
    go_wp2_with (fail)
    refine (HC.out).mono ?_
    rintro e w1 ⟨rfl, hb1⟩
    go_wp2_with (fail)
    go_ret
    rw [HE.out, if_neg (fun h => H0.out h.1)]
    exact ⟨none, 0, rfl, OI.nil _ _, hb.trans (hb1.mono hb.size)⟩
  · have h0' : (ce != 0) = false := by simpa using h0
    have H0 := Lib.hid (show ce = 0 by simpa using h0)
    clear h0
    by_cases h1 : v < 0
    · have h1' : decide (v < 0) = true := decide_eq_true h1
      have HE2 : Hid (atL ns ds v = []) := Lib.hid (by rw [HE.out, if_neg]; rintro ⟨_, h⟩; simp [existsB] at h; omega)
      go_enter Tryd.func25, Tryd.ntmps25
      go_wp2_with (fail)
      refine (HC.out).mono ?_
      rintro e w1 ⟨rfl, hb1⟩
      go_wp2_with (fail)
      go_ret
      rw [HE2.out]
      exact ⟨none, 0, rfl, OI.nil _ _, hb.trans (hb1.mono hb.size)⟩
    · have h1' : decide (v < 0) = false := decide_eq_false h1
      by_cases h2 : (ns.length : Int) ≤ v
      · have h2' : decide ((ns.length : Int) ≤ v) = true := decide_eq_true h2
        have HE2 : Hid (atL ns ds v = []) := Lib.hid (by rw [HE.out, if_neg]; rintro ⟨_, h⟩; simp [existsB] at h; omega)
        go_enter Tryd.func25, Tryd.ntmps25
        go_wp2_with (fail)
        refine (HC.out).mono ?_
        rintro e w1 ⟨rfl, hb1⟩
        have hbox := box_at hb1
        have n0 : w1.cell? ⟨w.heap.size, 0, none⟩ = some (.slice A1 ns.length c1) := by rw [cell_of_row w1 _ 0 _ _ _ hbox]; rfl
        clear hbox
        go_wp2_with (fail)
        go_ret
        rw [HE2.out]
        exact ⟨none, 0, rfl, OI.nil _ _, hb.trans (hb1.mono hb.size)⟩
      · have h2' : decide ((ns.length : Int) ≤ v) = false := decide_eq_false h2
        have HE2 : Hid (atL ns ds v = atFrom v ds 0) := Lib.hid (by rw [HE.out, if_pos]; exact ⟨H0.out, by simp [existsB]; omega⟩)
        have HD := Lib.hid (HZ.out H0.out)
        clear HZ
        go_enter Tryd.func25, Tryd.ntmps25
        go_wp2_with (fail)
        refine (HC.out).mono ?_
        rintro e w1 ⟨rfl, hb1⟩
        have hbA := hb.trans (hb1.mono hb.size)
        have Hbox := Lib.hid (box_at hb1)
        have n0 : w1.cell? ⟨w.heap.size, 0, none⟩ = some (.slice A1 ns.length c1) := by rw [cell_of_row w1 _ 0 _ _ _ Hbox.out]; rfl
        go_wp2_with (fail)
        clear n0
        go_loopg [5, 6] ds.length (fun g v' i wr => ∃ (k : Nat) (A' : Option Addr) (c' : Nat) (ys : List Int), k + g = ds.length ∧ i = .int .i64 k ∧ v' = .slice A' ys.length c' ∧ OI wr (fun g => w1.heap.size ≤ g) A' c' ys ∧ Below w1.heap.size w1 wr ∧
          ys ++ atFrom v (ds.drop k) k = atL ns ds v ∧ ys.length ≤ k)
        case atStart => exact ⟨0, none, 0, [], by omega, rfl, rfl, OI.nil _ _, Below.refl _ _, by rw [HE2.out]; rfl, Nat.le_refl _⟩
        case round =>
          obtain ⟨k, A', c', ys, hk, rfl, rfl, hown, hbel, hi, hyl⟩ := hrel
          have Hi := Lib.hid hi
          have Hk := Lib.hid hk
          clear hi hk
          have hbC := hbA.trans (hbel.mono hbA.size)
          have hbox2 := (hbel.block w.heap.size (World.block_lt_of_cell? w1 ⟨w.heap.size, 0, none⟩ (by rw [cell_of_row w1 _ 0 _ _ _ Hbox.out]; rfl))).trans Hbox.out
          have n1 : wr.cell? ⟨w.heap.size, 1, none⟩ = some (.slice A2 ds.length c2) := by rw [cell_of_row wr _ 1 _ _ _ hbox2]; rfl
          clear hbox2
          by_cases hlt : k < ds.length
          · obtain ⟨b, off, rfl, _, _, q0, q1, q2, q3, q4⟩ := (hn.below hbC).dev hlt
            have Hd := Lib.hid (atFrom_drop v ds k hlt)
            have He := Lib.hid (isL_valid (HD.out.ends ds[k] (List.getElem_mem hlt)).2.2 (v := v) (by omega))
            generalize ds[k] = x at *
            have hzs := hbC.size
            have hz1 := hbA.size
            by_cases ha : (x.a == v) = true
            · have Hd2 : Hid (atFrom v (ds.drop k) k = (k : Int) :: atFrom v (ds.drop (k + 1)) (k + 1)) := Lib.hid (by rw [Hd.out, He.out, ha]; rfl)
              go_wp2_with (at_builtin; go_must (refine wpList_push (B := w1.heap.size) rfl (.tmp 46) (.tmp 48) rfl rfl rfl rfl (hown.keep (Kept.alloc _ _ _)) (new_cell _ _ _) (by omega) (by simp; have := hbel.size; omega) ?_); intro A1' c1' w4 ho4 hb4 _ _)
              go_roundg (gk - 1)
              case measure => have := Hk.out; omega
              case rel =>
                refine ⟨k + 1, _, _, _, by have := Hk.out; omega, by go_num, ?_, ho4, (hbel.alloc hbel.size _).trans hb4, ?_, ?_⟩
                · simp
                · rw [← Hi.out, Hd2.out]; simp
                · simp; omega
            · have ha : (x.a == v) = false := by simpa using ha
              by_cases hb' : (x.b == v) = true
              · have Hd2 : Hid (atFrom v (ds.drop k) k = (k : Int) :: atFrom v (ds.drop (k + 1)) (k + 1)) := Lib.hid (by rw [Hd.out, He.out, ha, hb']; rfl)
                go_wp2_with (at_builtin; go_must (refine wpList_push (B := w1.heap.size) rfl (.tmp 46) (.tmp 48) rfl rfl rfl rfl (hown.keep (Kept.alloc _ _ _)) (new_cell _ _ _) (by omega) (by simp; have := hbel.size; omega) ?_); intro A1' c1' w4 ho4 hb4 _ _)
                go_roundg (gk - 1)
                case measure => have := Hk.out; omega
                case rel =>
                  refine ⟨k + 1, _, _, _, by have := Hk.out; omega, by go_num, ?_, ho4, (hbel.alloc hbel.size _).trans hb4, ?_, ?_⟩
                  · simp
                  · rw [← Hi.out, Hd2.out]; simp
                  · simp; omega
              · have hb' : (x.b == v) = false := by simpa using hb'
                have Hd2 : Hid (atFrom v (ds.drop k) k = atFrom v (ds.drop (k + 1)) (k + 1)) := Lib.hid (by rw [Hd.out, He.out, ha, hb']; rfl)
                go_wp2_with (fail)
                go_roundg (gk - 1)
                case measure => have := Hk.out; omega
                case rel => exact ⟨k + 1, _, _, _, by have := Hk.out; omega, by go_num, rfl, hown, hbel, by rw [← Hi.out, Hd2.out], by omega⟩
          · go_wp2_with (fail)
            go_ret
            have := Hi.out
            rw [List.drop_of_length_le (by omega)] at this
            simp [atFrom] at this
            rw [← this]
            exact ⟨A', c', rfl, hown.mono (fun g _ hg => by have hg : w1.heap.size ≤ g := hg; have := hbA.size; show w.heap.size ≤ g; omega), hbC⟩
theorem atL_len (ns : List Node) (ds : List Dev) (v : Int) : (atL ns ds v).length ≤ ds.length := by
  unfold atL
  split
  · exact atFrom_len v ds 0
  · simp
theorem trailZ_le {dist : List Int} {zs : List (Dev × Bool)} : ∀ (f v : Nat), (trailZ dist zs f v).1.length ≤ f
  | 0, _ => Nat.le_refl _
  | f + 1, v => by
    simp only [trailZ]
    cases stepZ dist v zs 0 with
    | none => simp
    | some p => have := trailZ_le (dist := dist) (zs := zs) f p.2; simp; omega
theorem wayL_len (ns : List Node) (ds : List Dev) (use : List Bool) (a b : Int) : (wayL ns ds use a b).1.length ≤ 65536 := by
  unfold wayL
  split
  · simp
  · rename_i hc
    split
    · simp
    · split
      · simp
      · rename_i he
        split
        · simp
        · have hD := checkL_zero (show checkL ns ds = 0 by simpa using hc)
          have hb : existsB ns.length b = true := by
            cases h : existsB ns.length b
            · exact absurd (.inr h) he
            · rfl
          obtain ⟨k, rfl, hk⟩ := exists_pos hb
          have h1 := dist_far hD (by omega) use [k] (by simpa using hk) a.toNat
          have h2 := trailZ_le (dist := distL ds use [k]) (zs := ds.zip use) (PO.at_ (distL ds use [k]) a.toNat).toNat a.toNat
          have := hD.few
          rw [Int.toNat_natCast]
          simp only
          omega
end Go.Proofs.YtgpcojmdfmngeaaDoor

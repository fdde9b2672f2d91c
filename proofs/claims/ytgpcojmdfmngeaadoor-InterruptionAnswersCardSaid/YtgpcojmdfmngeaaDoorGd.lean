/-
  Walks of the reference's Check, Other, Has, Joins: the reference says of a network what the program says.
  Walk of the reference's Joins.
  Walk of the reference's Check.
  Walks of the reference's Other and Has.
-/
import Derived.Test.YtgpcojmdfmngeaaDoorGk
import Derived.Test.YtgpcojmdfmngeaaDoorGc
namespace Go.Proofs.YtgpcojmdfmngeaaDoor
open Go.RowKit
set_option maxHeartbeats 400000
set_option maxRecDepth 100000

def letB (b : Int) : Bool := (decide (65 ≤ b) && decide (b ≤ 90)) || (decide (97 ≤ b) && decide (b ≤ 122))
def digB (b : Int) : Bool := decide (48 ≤ b) && decide (b ≤ 57)
theorem fits_let : ∀ b : Nat, b < 256 → fitsB b true = letB b ∧ fitsB b false = (letB b || digB b || ((b : Int) == 95)) := by decide +kernel

theorem letter_any (b : Nat) (w : World) : Calls Tryd.prog 157 #[.int .u8 b] w fun e w' => e = .returned (.bool (letB b)) ∧ w = w' := by
  by_cases h1 : (65 : Int) ≤ b
  · by_cases h2 : (b : Int) ≤ 90
    · go_enter Tryd.func157, Tryd.ntmps157
      go_wp2
      go_ret
      exact ⟨retB (by simp [letB]; omega), rfl⟩
    · by_cases h3 : (97 : Int) ≤ b
      · go_enter Tryd.func157, Tryd.ntmps157
        go_wp2
        go_ret
        exact ⟨retB (by unfold letB; rw [decide_eq_true h1, decide_eq_false (p := (b : Int) ≤ 90) (by omega), decide_eq_true h3]; simp), rfl⟩
      · go_enter Tryd.func157, Tryd.ntmps157
        go_wp2
        go_ret
        exact ⟨retB (by unfold letB; rw [decide_eq_true h1, decide_eq_false (p := (b : Int) ≤ 90) (by omega), decide_eq_false (p := (97 : Int) ≤ b) (by omega)]; simp), rfl⟩
  · have h3 : ¬ (97 : Int) ≤ b := by omega
    go_enter Tryd.func157, Tryd.ntmps157
    go_wp2
    go_ret
    exact ⟨retB (by unfold letB; rw [decide_eq_false (p := (65 : Int) ≤ b) (by omega), decide_eq_false (p := (97 : Int) ≤ b) (by omega)]; simp), rfl⟩
theorem digit_any (b : Nat) (w : World) : Calls Tryd.prog 158 #[.int .u8 b] w fun e w' => e = .returned (.bool (digB b)) ∧ w = w' := by
  by_cases h1 : (48 : Int) ≤ b
  · go_enter Tryd.func158, Tryd.ntmps158
    go_wp2
    go_ret
    exact ⟨retB (by unfold digB; rw [decide_eq_true h1]; simp), rfl⟩
  · go_enter Tryd.func158, Tryd.ntmps158
    go_wp2
    go_ret
    exact ⟨retB (by unfold digB; rw [decide_eq_false (p := (48 : Int) ≤ b) (by omega)]; simp), rfl⟩

def allF : List UInt8 → Bool
  | [] => true
  | c :: r => fitsB (c.toNat : Int) false && allF r
theorem allF_ok : ∀ l, okBytes l false = allF l
  | [] => rfl
  | c :: r => by simp [okBytes, allF, allF_ok r]
theorem let_false {b : Nat} (hb : b < 256) (h : letB b = true) : fitsB b false = true := by rw [(fits_let b hb).2, h]; rfl
theorem nameB_ref (s : ByteArray) (h : 0 < s.size) : nameB s = (letB s[0].toNat && allF s.data.toList && decide (s.size ≤ 12)) := by
  unfold nameB
  have hd : s.data.toList = s[0] :: s.data.toList.drop 1 := by
    have := List.drop_eq_getElem_cons (l := s.data.toList) (i := 0) (by simpa using h)
    rw [List.drop_zero] at this
    exact this
  have h256 : s[0].toNat < 256 := s[0].toNat_lt
  have e0 : decide (1 ≤ s.size) = true := by simp; omega
  rw [e0, Bool.and_true]
  congr 1
  rw [hd]
  simp only [okBytes, allF, allF_ok]
  rw [(fits_let _ h256).1]
  by_cases hl : letB s[0].toNat = true
  · rw [hl, let_false h256 hl]; rfl
  · have hl : letB s[0].toNat = false := by simpa using hl
    rw [hl]; simp
theorem allF_drop (s : ByteArray) (k : Nat) (h : k < s.size) : allF (s.data.toList.drop k) = ((letB s[k].toNat || digB s[k].toNat || ((s[k].toNat : Int) == 95)) && allF (s.data.toList.drop (k + 1))) := by
  rw [List.drop_eq_getElem_cons (by simpa using h), ← (fits_let s[k].toNat s[k].toNat_lt).2]
  rfl

theorem refName_any (s : ByteArray) (w : World) (hs : s.size ≤ maxLen) : Calls Tryd.prog 110 #[.string s] w fun e w' => e = .returned (.bool (nameB s)) ∧ w = w' := by
  unfold maxLen at hs
  by_cases h1 : s.size < 1
  · have hn := Lib.hid (show nameB s = false by unfold nameB; rw [decide_eq_false (p := 1 ≤ s.size) (by omega)]; simp)
    go_enter Tryd.func110, Tryd.ntmps110
    go_wp2_with (fail)
    go_ret
    exact ⟨retB (by rw [hn.out]), rfl⟩
  · by_cases h12 : 12 < s.size
    · have hn := Lib.hid (show nameB s = false by unfold nameB; rw [decide_eq_false (p := s.size ≤ 12) (by omega)]; simp)
      go_enter Tryd.func110, Tryd.ntmps110
      go_wp2_with (fail)
      go_ret
      exact ⟨retB (by rw [hn.out]), rfl⟩
    · have h0 : 0 < s.size := by omega
      have hn := nameB_ref s h0
      rw [decide_eq_true (p := s.size ≤ 12) (by omega), Bool.and_true] at hn
      have hl := letter_any s[0].toNat
      have d1 : decide ((s.size : Int) < 1) = false := decide_eq_false (by omega)
      have d12 : decide ((12 : Int) < (s.size : Int)) = false := decide_eq_false (by omega)
      generalize hlb : letB s[0].toNat = lb at *
      have Hn := Lib.hid hn
      have Hl := Lib.hid hl
      clear hn hl hlb
      cases lb
      · go_enter Tryd.func110, Tryd.ntmps110
        go_wp2_with (fail)
        refine (Hl.out _).mono ?_
        rintro e w' ⟨rfl, rfl⟩
        go_wp2_with (fail)
        go_ret
        exact ⟨retB (by rw [Hn.out]; rfl), rfl⟩
      · go_enter Tryd.func110, Tryd.ntmps110
        go_wp2_with (fail)
        refine (Hl.out _).mono ?_
        rintro e w' ⟨rfl, rfl⟩
        go_wp2_with (fail)
        go_loopg [3] s.size (fun g i wr => wr = w ∧ ∃ k : Nat, k + g = s.size ∧ i = .int .i64 k ∧ nameB s = allF (s.data.toList.drop k))
        case atStart => exact ⟨rfl, 0, by omega, rfl, by rw [Hn.out]; simp⟩
        case round =>
          obtain ⟨rfl, k, hk, rfl, hi⟩ := hrel
          have Hi := Lib.hid hi
          have Hk := Lib.hid hk
          clear hi hk
          by_cases hlt : k < s.size
          · have Hd := Lib.hid (allF_drop s k hlt)
            have h1 := letter_any s[k].toNat wr
            have h2 := digit_any s[k].toNat wr
            generalize letB s[k].toNat = lb at *
            generalize digB s[k].toNat = db at *
            have H1 := Lib.hid h1
            have H2 := Lib.hid h2
            clear h1 h2
            go_wp2_with (fail)
            refine (H1.out).mono ?_
            rintro e w' ⟨rfl, rfl⟩
            cases lb
            · go_wp2_with (fail)
              refine (H2.out).mono ?_
              rintro e w' ⟨rfl, rfl⟩
              cases db
              · by_cases h95 : ((s[k].toNat : Int) == 95) = true
                · have h95' : ((s[k].toNat : Int) != 95) = false := by simpa using h95
                  rw [h95] at Hd
                  go_wp2_with (fail)
                  go_roundg (gk - 1)
                  case measure => have := Hk.out; omega
                  case rel => exact ⟨rfl, k + 1, by have := Hk.out; omega, by go_num, by rw [Hi.out, Hd.out]; rfl⟩
                · have h95 : ((s[k].toNat : Int) == 95) = false := by simpa using h95
                  have h95' : ((s[k].toNat : Int) != 95) = true := by simpa using h95
                  rw [h95] at Hd
                  go_wp2_with (fail)
                  go_ret
                  exact ⟨retB (by rw [Hi.out, Hd.out]; rfl), rfl⟩
              · go_wp2_with (fail)
                go_roundg (gk - 1)
                case measure => have := Hk.out; omega
                case rel => exact ⟨rfl, k + 1, by have := Hk.out; omega, by go_num, by rw [Hi.out, Hd.out]; rfl⟩
            · go_wp2_with (fail)
              go_roundg (gk - 1)
              case measure => have := Hk.out; omega
              case rel => exact ⟨rfl, k + 1, by have := Hk.out; omega, by go_num, by rw [Hi.out, Hd.out]; rfl⟩
          · go_wp2_with (fail)
            go_ret
            exact ⟨retB (by rw [Hi.out, List.drop_of_length_le (by simp; omega)]; rfl), rfl⟩
end Go.Proofs.YtgpcojmdfmngeaaDoor

namespace Go.Proofs.YtgpcojmdfmngeaaDoor
open Go.RowKit
set_option maxHeartbeats 400000
set_option maxRecDepth 100000

theorem refJoins_any (k : Int) (w : World) : Calls Tryd.prog 32 #[.int .i64 k] w fun e w' => e = .returned (.bool (joinsB k)) ∧ w = w' := by
  by_cases h1 : k = 1
  · subst h1
    go_enter Tryd.func32, Tryd.ntmps32
    go_wp2
    go_ret
    exact ⟨rfl, rfl⟩
  · have b1 : (k == 1) = false := by simpa using h1
    by_cases h2 : k = 2
    · subst h2
      go_enter Tryd.func32, Tryd.ntmps32
      go_wp2
      go_ret
      exact ⟨rfl, rfl⟩
    · have b2 : (k == 2) = false := by simpa using h2
      have hj := Lib.hid (show joinsB k = (k == 3) by unfold joinsB; rw [Bool.eq_iff_iff]; simp; omega)
      go_enter Tryd.func32, Tryd.ntmps32
      go_wp2
      go_ret
      exact ⟨retB (by rw [hj.out]), rfl⟩

end Go.Proofs.YtgpcojmdfmngeaaDoor

namespace Go.Proofs.YtgpcojmdfmngeaaDoor
open Go.RowKit
set_option maxHeartbeats 400000
set_option maxRecDepth 100000

/-- The boxed network. -/
structure RSt (w : World) (v1 v2 : Value) (wr : World) : Prop where
  box : wr.heap[w.heap.size]? = some (.cells #[v1, v2] 26 (0, 0))
  bel : Below w.heap.size w wr
section
variable {w wr w' : World} {v1 v2 : Value}
theorem RSt.below (h : RSt w v1 v2 wr) (hb : Below wr.heap.size wr w') : RSt w v1 v2 w' :=
  ⟨(hb.block _ (Array.getElem?_eq_some_iff.1 h.box).1).trans h.box, h.bel.trans (hb.mono h.bel.size)⟩
theorem RSt.n0 (h : RSt w v1 v2 wr) : wr.cell? ⟨w.heap.size, 0, none⟩ = some v1 := by rw [cell_of_row wr _ 0 _ _ _ h.box]; rfl
theorem RSt.n1 (h : RSt w v1 v2 wr) : wr.cell? ⟨w.heap.size, 1, none⟩ = some v2 := by rw [cell_of_row wr _ 1 _ _ _ h.box]; rfl
theorem RSt.start (w : World) (v1 v2 : Value) : RSt w v1 v2 (w.alloc (.cells #[v1, v2] 26)) := ⟨heap_alloc_new w _, (Below.refl _ _).alloc (Nat.le_refl _) _⟩
end
theorem name_eq {a b : ByteArray} (h : (a.toList == b.toList) = true) : a.data.toList = b.data.toList := by
  have := beq_iff_eq.1 h
  rwa [ByteArray.toList_eq, ByteArray.toList_eq] at this
theorem name_ne {a b : ByteArray} (h : (a.toList == b.toList) = false) : a.data.toList ≠ b.data.toList := fun e => by
  rw [ByteArray.toList_eq, ByteArray.toList_eq, e] at h
  simp at h
theorem not_mem_take {xs : List Node} {k : Nat} {s : List UInt8} (hk : k ≤ xs.length) (h : ∀ t (ht : t < k), xs[t].name.data.toList ≠ s) : s ∉ namesN (xs.take k) := fun hm => by
  obtain ⟨i, hi, e⟩ := mem_namesN hm
  rw [List.getElem_take] at e
  exact h i (by simp at hi; omega) e
theorem not_mem_takeD {xs : List Dev} {k : Nat} {s : List UInt8} (hk : k ≤ xs.length) (h : ∀ t (ht : t < k), xs[t].name.data.toList ≠ s) : s ∉ namesD (xs.take k) := fun hm => by
  obtain ⟨i, hi, e⟩ := mem_namesD hm
  rw [List.getElem_take] at e
  exact h i (by simp at hi; omega) e
theorem mem_take {xs : List Node} {k t : Nat} (hk : k ≤ xs.length) (ht : t < k) : xs[t].name.data.toList ∈ namesN (xs.take k) := by
  simp only [namesN, List.mem_reverse, List.mem_map]
  exact ⟨xs[t], by rw [List.mem_iff_getElem]; exact ⟨t, by simp; omega, by simp⟩, rfl⟩
theorem mem_takeD {xs : List Dev} {k t : Nat} (hk : k ≤ xs.length) (ht : t < k) : xs[t].name.data.toList ∈ namesD (xs.take k) := by
  simp only [namesD, List.mem_reverse, List.mem_map]
  exact ⟨xs[t], by rw [List.mem_iff_getElem]; exact ⟨t, by simp; omega, by simp⟩, rfl⟩
theorem namesN_succ (xs : List Node) (k : Nat) (hk : k < xs.length) : namesN (xs.take (k + 1)) = xs[k].name.data.toList :: namesN (xs.take k) := by
  unfold namesN
  rw [List.take_succ_eq_append_getElem hk, List.map_append, List.reverse_append]; rfl
theorem namesD_succ (xs : List Dev) (k : Nat) (hk : k < xs.length) : namesD (xs.take (k + 1)) = xs[k].name.data.toList :: namesD (xs.take k) := by
  unfold namesD
  rw [List.take_succ_eq_append_getElem hk, List.map_append, List.reverse_append]; rfl

set_option maxHeartbeats 8000000 in
theorem refCheck_any (w : World) (S : Nat → Prop) (A1 A2 : Option Addr) (c1 c2 : Nat) (ns : List Node) (ds : List Dev) (hn : NetIn w S A1 A2 ns ds) (hl1 : ns.length ≤ 65536) (hl2 : ds.length ≤ 65536) :
    Calls Tryd.prog 17 #[.agg #[.slice A1 ns.length c1, .slice A2 ds.length c2]] w fun e w' => e = .returned (.int .i64 (checkL ns ds)) ∧ Below w.heap.size w w' := by
  by_cases h32 : 32 < ns.length
  · have e1 := Lib.hid (show checkL ns ds = 1 by unfold checkL; rw [if_pos (.inl h32)])
    go_enter Tryd.func17, Tryd.ntmps17
    go_wp2_with (fail)
    go_ret
    exact ⟨by rw [e1.out]; rfl, (Below.refl _ _).alloc (Nat.le_refl _) _⟩
  · by_cases h64 : 64 < ds.length
    · have e1 := Lib.hid (show checkL ns ds = 1 by unfold checkL; rw [if_pos (.inr h64)])
      go_enter Tryd.func17, Tryd.ntmps17
      go_wp2_with (fail)
      go_ret
      exact ⟨by rw [e1.out]; rfl, (Below.refl _ _).alloc (Nat.le_refl _) _⟩
    · have e1 := Lib.hid (show checkL ns ds = chkN ns.length ds ns [] by unfold checkL; rw [if_neg (by omega)])
      have d32 : decide ((32 : Int) < (ns.length : Int)) = false := decide_eq_false (by omega)
      have d64 : decide ((64 : Int) < (ds.length : Int)) = false := decide_eq_false (by omega)
      go_enter Tryd.func17, Tryd.ntmps17
      go_wp2_with (fail)
      clear d32 d64
      go_loopg [3] ns.length (fun g i wr => ∃ (k : Nat), k + g = ns.length ∧ i = .int .i64 k ∧ RSt w (.slice A1 ns.length c1) (.slice A2 ds.length c2) wr ∧ checkL ns ds = chkN ns.length ds (ns.drop k) (namesN (ns.take k)))
      case atStart => exact ⟨0, by omega, rfl, RSt.start _ _ _, e1.out⟩
      case round =>
        obtain ⟨k, hk, rfl, D, hi⟩ := hrel
        have Hi := Lib.hid hi
        have Hk := Lib.hid hk
        clear hi hk e1
        have n0 := D.n0
        have n1 := D.n1
        by_cases hlt : k < ns.length
        · obtain ⟨b, off, rfl, hS, hbl, q0, q1, q2⟩ := (hn.below D.bel).node hlt
          have Hd := Lib.hid (show chkN ns.length ds (ns.drop k) (namesN (ns.take k)) = if nodeErr ns[k] (namesN (ns.take k)) = 0 then chkN ns.length ds (ns.drop (k + 1)) (namesN (ns.take (k + 1))) else nodeErr ns[k] (namesN (ns.take k)) by rw [List.drop_eq_getElem_cons hlt, namesN_succ ns k hlt]; rfl)
          have hsz := hn.nsz ns[k] (List.getElem_mem hlt)
          have HE := Lib.hid (show nodeErr ns[k] (namesN (ns.take k)) = if nameB ns[k].name = false then 3 else if ns[k].name.data.toList ∈ namesN (ns.take k) then 4 else if ns[k].cust < 0 ∨ 1048576 < ns[k].cust ∨ companyB ns[k].comp = false then 5 else 0 from rfl)
          go_wp2_with (fail)
          refine (refName_any ns[k].name _ hsz).mono ?_
          rintro e w' ⟨rfl, rfl⟩
          have D1 := D.below ((Below.refl _ _).alloc (Nat.le_refl _) (.cells #[.string ns[k].name, .int .i64 ns[k].cust, .int .i64 ns[k].comp] 104))
          generalize nameB ns[k].name = nb at *
          cases nb
          · go_wp2_with (fail)
            go_ret
            refine ⟨?_, D1.bel⟩
            rw [Hi.out, Hd.out, HE.out]
            rfl
          · rw [if_neg (by decide)] at HE
            obtain ⟨W, hW⟩ : ∃ W, W = wr.alloc (.cells #[.string ns[k].name, .int .i64 ns[k].cust, .int .i64 ns[k].comp] 104) := ⟨_, rfl⟩
            have hx : W.heap[wr.heap.size]? = some (.cells #[.string ns[k].name, .int .i64 ns[k].cust, .int .i64 ns[k].comp] 104 (0, 0)) := by rw [hW]; exact heap_alloc_new wr _
            rw [← hW] at D1
            go_wp2_with (fail)
            rw [← hW]
            clear hW q0 q1 q2 n0 n1
            have x0 : W.cell? ⟨wr.heap.size, 0, none⟩ = some (.string ns[k].name) := by rw [cell_of_row W _ 0 _ _ _ hx]; rfl
            have x1 : W.cell? ⟨wr.heap.size, 1, none⟩ = some (.int .i64 ns[k].cust) := by rw [cell_of_row W _ 1 _ _ _ hx]; rfl
            have x2 : W.cell? ⟨wr.heap.size, 2, none⟩ = some (.int .i64 ns[k].comp) := by rw [cell_of_row W _ 2 _ _ _ hx]; rfl
            have hbX := hx
            clear hx hbX
            obtain ⟨X, hX⟩ : ∃ X, X = wr.heap.size := ⟨_, rfl⟩
            rw [← hX] at x0 x1 x2 ⊢
            clear hX D wr hbl
            obtain ⟨go, rfl⟩ : ∃ x : Nat, x = gk := ⟨_, rfl⟩
            go_loopg [5] k (fun g i wr => ∃ (j q : Nat), wr = W.drewN q ∧ j + g = k ∧ i = .int .i64 j ∧ ∀ t (ht : t < j), ∀ h : t < ns.length, ns[t].name.data.toList ≠ ns[k].name.data.toList)
            case atStart => exact ⟨0, 0, rfl, by omega, rfl, fun t ht => by omega⟩
            case round =>
              obtain ⟨j, q, rfl, hj, rfl, hno⟩ := hrel
              have Hj := Lib.hid hj
              have Hno := Lib.hid hno
              clear hj hno
              by_cases hjk : j < k
              · obtain ⟨b', off', e', _, hbl', q0, _, _⟩ := (hn.below D1.bel).node (show j < ns.length by omega)
                injection e' with e'
                injection e' with e1 e2
                subst e1
                subst e2
                have n0 := D1.n0
                have hjl : j < ns.length := by omega
                by_cases heq : (ns[j].name.toList == ns[k].name.toList) = true
                · have Heq := Lib.hid heq
                  have HE3 := Lib.hid (show nodeErr ns[k] (namesN (ns.take k)) = 4 by rw [HE.out, if_pos (by rw [← name_eq Heq.out]; exact mem_take (by omega) hjk)])
                  go_wp2_with (fail)
                  go_quiet (fail)
                  go_wp2_with (fail)
                  go_ret
                  refine ⟨?_, (D1.bel.trans (below_drewN _ _ q)).trans (below_drewN _ _ nq)⟩
                  rw [Hi.out, Hd.out, HE3.out]
                  rfl
                · have heq : (ns[j].name.toList == ns[k].name.toList) = false := by simpa using heq
                  have Heq := Lib.hid heq
                  go_wp2_with (fail)
                  go_quiet (fail)
                  go_wp2_with (fail)
                  go_roundg (gk - 1)
                  case measure => have := Hj.out; omega
                  case rel =>
                    refine ⟨j + 1, _, rfl, by have := Hj.out; omega, by go_num, fun t ht h => ?_⟩
                    by_cases htj : t = j
                    · subst htj; exact name_ne Heq.out
                    · exact Hno.out t (by omega) h
              · have hjk' : j = k := by have := Hj.out; omega
                rw [if_neg (not_mem_take (by omega) (fun t ht => Hno.out t (by omega) (by omega)))] at HE
                have D2 := D1.below (below_drewN _ W q)
                clear Hno Hj hjk'
                have dc : companyB ns[k].comp = (decide (0 ≤ ns[k].comp) && decide (ns[k].comp ≤ 7)) := rfl
                by_cases g1 : ns[k].cust < 0
                · go_wp2_with (fail)
                  go_ret
                  refine ⟨?_, D2.bel⟩
                  rw [Hi.out, Hd.out, HE.out]
                  simp [g1]
                · by_cases g2 : 1048576 < ns[k].cust
                  · go_wp2_with (fail)
                    go_ret
                    refine ⟨?_, D2.bel⟩
                    rw [Hi.out, Hd.out, HE.out]
                    simp [g2]
                  · by_cases g3 : ns[k].comp < 0
                    · have HC := Lib.hid (show companyB ns[k].comp = false by rw [dc]; simp; omega)
                      go_wp2_with (fail)
                      go_ret
                      refine ⟨?_, D2.bel⟩
                      rw [Hi.out, Hd.out, show nodeErr ns[k] (namesN (ns.take k)) = 5 by rw [HE.out, if_pos (.inr (.inr HC.out))]]
                      rfl
                    · by_cases g4 : 7 < ns[k].comp
                      · have HC := Lib.hid (show companyB ns[k].comp = false by rw [dc]; simp; omega)
                        go_wp2_with (fail)
                        go_ret
                        refine ⟨?_, D2.bel⟩
                        rw [Hi.out, Hd.out, show nodeErr ns[k] (namesN (ns.take k)) = 5 by rw [HE.out, if_pos (.inr (.inr HC.out))]]
                        rfl
                      · have HC := Lib.hid (show companyB ns[k].comp = true by rw [dc]; simp; omega)
                        clear dc
                        go_wp2_with (fail)
                        go_roundg (go - 1)
                        case measure => have := Hk.out; omega
                        case rel =>
                          refine ⟨k + 1, by have := Hk.out; omega, by go_num, D2, ?_⟩
                          rw [Hi.out, Hd.out, show nodeErr ns[k] (namesN (ns.take k)) = 0 by rw [HE.out, if_neg (by rw [HC.out]; simp; omega)]]
                          rfl
        · have e0 := Hi.out
          rw [List.drop_of_length_le (by omega), List.take_of_length_le (by omega)] at e0
          have e1 := Lib.hid (show checkL ns ds = chkD ns.length ds (namesN ns) from e0)
          clear e0
          go_wp2_with (fail)
          clear n0 n1 Hi hlt Hk
          obtain ⟨wo, rfl⟩ : ∃ wo : World, wo = wr := ⟨_, rfl⟩
          go_loopg [6] ds.length (fun g i wr => ∃ (m : Nat), m + g = ds.length ∧ i = .int .i64 m ∧ RSt w (.slice A1 ns.length c1) (.slice A2 ds.length c2) wr ∧ checkL ns ds = chkD ns.length (ds.drop m) (namesD (ds.take m) ++ namesN ns))
          case atStart => exact ⟨0, by omega, rfl, D, e1.out⟩
          case round =>
            clear D e1
            obtain ⟨m, hm, rfl, D, hi⟩ := hrel
            have Hi := Lib.hid hi
            have Hm := Lib.hid hm
            clear hi hm
            have n0 := D.n0
            have n1 := D.n1
            by_cases hlt : m < ds.length
            · obtain ⟨b, off, rfl, hS, hbl, q0, q1, q2, q3, q4⟩ := (hn.below D.bel).dev hlt
              have Hd := Lib.hid (show chkD ns.length (ds.drop m) (namesD (ds.take m) ++ namesN ns) = if devErr ns.length ds[m] (namesD (ds.take m) ++ namesN ns) = 0 then chkD ns.length (ds.drop (m + 1)) (namesD (ds.take (m + 1)) ++ namesN ns) else devErr ns.length ds[m] (namesD (ds.take m) ++ namesN ns) by rw [List.drop_eq_getElem_cons hlt, namesD_succ ds m hlt]; rfl)
              have hsz := hn.dsz ds[m] (List.getElem_mem hlt)
              have HE := Lib.hid (show devErr ns.length ds[m] (namesD (ds.take m) ++ namesN ns) = if nameB ds[m].name = false then 3 else if ds[m].name.data.toList ∈ namesD (ds.take m) ++ namesN ns then 4 else if ds[m].kind < 1 ∨ 6 < ds[m].kind then 6 else if endsB ds[m] ns.length = false then 7 else if companyB ds[m].comp = false then 5 else 0 from rfl)
              go_wp2_with (fail)
              refine (refName_any ds[m].name _ hsz).mono ?_
              rintro e w' ⟨rfl, rfl⟩
              have D1 := D.below ((Below.refl _ _).alloc (Nat.le_refl _) (.cells #[.string ds[m].name, .int .i64 ds[m].kind, .int .i64 ds[m].a, .int .i64 ds[m].b, .int .i64 ds[m].comp] 78))
              generalize nameB ds[m].name = nb at *
              cases nb
              · go_wp2_with (fail)
                go_ret
                refine ⟨?_, D1.bel⟩
                rw [Hi.out, Hd.out, HE.out]
                rfl
              · rw [if_neg (by decide)] at HE
                obtain ⟨W, hW⟩ : ∃ W, W = wr.alloc (.cells #[.string ds[m].name, .int .i64 ds[m].kind, .int .i64 ds[m].a, .int .i64 ds[m].b, .int .i64 ds[m].comp] 78) := ⟨_, rfl⟩
                have hx : W.heap[wr.heap.size]? = some (.cells #[.string ds[m].name, .int .i64 ds[m].kind, .int .i64 ds[m].a, .int .i64 ds[m].b, .int .i64 ds[m].comp] 78 (0, 0)) := by rw [hW]; exact heap_alloc_new wr _
                rw [← hW] at D1
                go_wp2_with (fail)
                rw [← hW]
                clear hW q0 q1 q2 q3 q4 n0 n1
                have x0 : W.cell? ⟨wr.heap.size, 0, none⟩ = some (.string ds[m].name) := by rw [cell_of_row W _ 0 _ _ _ hx]; rfl
                have x1 : W.cell? ⟨wr.heap.size, 1, none⟩ = some (.int .i64 ds[m].kind) := by rw [cell_of_row W _ 1 _ _ _ hx]; rfl
                have x2 : W.cell? ⟨wr.heap.size, 2, none⟩ = some (.int .i64 ds[m].a) := by rw [cell_of_row W _ 2 _ _ _ hx]; rfl
                have x3 : W.cell? ⟨wr.heap.size, 3, none⟩ = some (.int .i64 ds[m].b) := by rw [cell_of_row W _ 3 _ _ _ hx]; rfl
                have x4 : W.cell? ⟨wr.heap.size, 4, none⟩ = some (.int .i64 ds[m].comp) := by rw [cell_of_row W _ 4 _ _ _ hx]; rfl
                clear hx
                obtain ⟨X, hX⟩ : ∃ X, X = wr.heap.size := ⟨_, rfl⟩
                rw [← hX] at x0 x1 x2 x3 x4 ⊢
                clear hX D wr hbl
                have N0 := D1.n0
                have N1 := D1.n1
                obtain ⟨go, rfl⟩ : ∃ x : Nat, x = gk := ⟨_, rfl⟩
                go_loopg [8] ns.length (fun g i wr => ∃ (j q : Nat), wr = W.drewN q ∧ j + g = ns.length ∧ i = .int .i64 j ∧ ∀ t (ht : t < j), ∀ h : t < ns.length, ns[t].name.data.toList ≠ ds[m].name.data.toList)
                case atStart => exact ⟨0, 0, rfl, by omega, rfl, fun t ht => by omega⟩
                case round =>
                  obtain ⟨j, q, rfl, hj, rfl, hno⟩ := hrel
                  have Hj := Lib.hid hj
                  have Hno := Lib.hid hno
                  clear hj hno
                  by_cases hjk : j < ns.length
                  · obtain ⟨b', off', rfl, _, hbl', q0, _, _⟩ := (hn.below D1.bel).node hjk
                    by_cases heq : (ns[j].name.toList == ds[m].name.toList) = true
                    · have Heq := Lib.hid heq
                      have HE3 := Lib.hid (show devErr ns.length ds[m] (namesD (ds.take m) ++ namesN ns) = 4 by rw [HE.out, if_pos (by rw [← name_eq Heq.out]; exact List.mem_append_right _ (by have := mem_take (xs := ns) (Nat.le_refl _) hjk; rwa [List.take_length] at this))])
                      go_wp2_with (fail)
                      go_quiet (fail)
                      go_wp2_with (fail)
                      go_ret
                      refine ⟨?_, (D1.bel.trans (below_drewN _ _ q)).trans (below_drewN _ _ nq)⟩
                      rw [Hi.out, Hd.out, HE3.out]
                      rfl
                    · have heq : (ns[j].name.toList == ds[m].name.toList) = false := by simpa using heq
                      have Heq := Lib.hid heq
                      go_wp2_with (fail)
                      go_quiet (fail)
                      go_wp2_with (fail)
                      go_roundg (gk - 1)
                      case measure => have := Hj.out; omega
                      case rel =>
                        refine ⟨j + 1, _, rfl, by have := Hj.out; omega, by go_num, fun t ht h => ?_⟩
                        by_cases htj : t = j
                        · subst htj; exact name_ne Heq.out
                        · exact Hno.out t (by omega) h
                  · have hjn : j = ns.length := by have := Hj.out; omega
                    have HnoN : Hid (ds[m].name.data.toList ∉ namesN ns) := Lib.hid (by have := not_mem_take (xs := ns) (Nat.le_refl _) (fun t ht => Hno.out t (by omega) ht); rwa [List.take_length] at this)
                    clear Hno Hj hjn
                    go_wp2_with (fail)
                    clear hjk
                    obtain ⟨q1, rfl⟩ : ∃ x : Nat, x = q := ⟨_, rfl⟩
                    go_loopg [9] m (fun g i wr => ∃ (j q : Nat), wr = W.drewN q ∧ j + g = m ∧ i = .int .i64 j ∧ ∀ t (ht : t < j), ∀ h : t < ds.length, ds[t].name.data.toList ≠ ds[m].name.data.toList)
                    case atStart => exact ⟨0, _, rfl, by omega, rfl, fun t ht => by omega⟩
                    case round =>
                      obtain ⟨j, q, rfl, hj, rfl, hno⟩ := hrel
                      have Hj := Lib.hid hj
                      have Hno := Lib.hid hno
                      clear hj hno
                      by_cases hjk : j < m
                      · obtain ⟨b', off', e', _, hbl', q0, _, _, _, _⟩ := (hn.below D1.bel).dev (show j < ds.length by omega)
                        injection e' with e'
                        injection e' with e1 e2
                        subst e1
                        subst e2
                        have hjl : j < ds.length := by omega
                        by_cases heq : (ds[j].name.toList == ds[m].name.toList) = true
                        · have Heq := Lib.hid heq
                          have HE3 := Lib.hid (show devErr ns.length ds[m] (namesD (ds.take m) ++ namesN ns) = 4 by rw [HE.out, if_pos (by rw [← name_eq Heq.out]; exact List.mem_append_left _ (mem_takeD (by omega) hjk))])
                          go_wp2_with (fail)
                          go_quiet (fail)
                          go_wp2_with (fail)
                          go_ret
                          refine ⟨?_, (D1.bel.trans (below_drewN _ _ q)).trans (below_drewN _ _ nq)⟩
                          rw [Hi.out, Hd.out, HE3.out]
                          rfl
                        · have heq : (ds[j].name.toList == ds[m].name.toList) = false := by simpa using heq
                          have Heq := Lib.hid heq
                          go_wp2_with (fail)
                          go_quiet (fail)
                          go_wp2_with (fail)
                          go_roundg (gk - 1)
                          case measure => have := Hj.out; omega
                          case rel =>
                            refine ⟨j + 1, _, rfl, by have := Hj.out; omega, by go_num, fun t ht h => ?_⟩
                            by_cases htj : t = j
                            · subst htj; exact name_ne Heq.out
                            · exact Hno.out t (by omega) h
                      · have hjm : j = m := by have := Hj.out; omega
                        have hnm : ds[m].name.data.toList ∉ namesD (ds.take m) ++ namesN ns := fun h => by
                          rcases List.mem_append.1 h with h | h
                          · exact not_mem_takeD (by omega) (fun t ht => Hno.out t (by omega) (by omega)) h
                          · exact HnoN.out h
                        rw [if_neg hnm] at HE
                        have D2 := D1.below (below_drewN _ W q)
                        clear Hno Hj hjm hnm HnoN
                        by_cases g1 : ds[m].kind < 1
                        · rw [if_pos (.inl g1)] at HE
                          go_wp2_with (fail)
                          go_ret
                          refine ⟨?_, D2.bel⟩
                          rw [Hi.out, Hd.out, HE.out]
                          rfl
                        · by_cases g2 : 6 < ds[m].kind
                          · rw [if_pos (.inr g2)] at HE
                            go_wp2_with (fail)
                            go_ret
                            refine ⟨?_, D2.bel⟩
                            rw [Hi.out, Hd.out, HE.out]
                            rfl
                          · rw [if_neg (by omega)] at HE
                            have HJ := fun w => refJoins_any ds[m].kind w
                            have de : endsB ds[m] ns.length = (decide (0 ≤ ds[m].a) && decide (ds[m].a < ns.length) && (if joinsB ds[m].kind then decide (0 ≤ ds[m].b) && decide (ds[m].b < ns.length) && (ds[m].b != ds[m].a) else (ds[m].b == -1))) := rfl
                            generalize joinsB ds[m].kind = jb at *
                            have HJ := Lib.hid HJ
                            by_cases g3 : ds[m].a < 0
                            · rw [if_pos (by rw [de]; simp; omega)] at HE
                              clear de
                              go_wp2_with (fail)
                              go_ret
                              refine ⟨?_, D2.bel⟩
                              rw [Hi.out, Hd.out, HE.out]
                              rfl
                            · by_cases g4 : (ns.length : Int) ≤ ds[m].a
                              · rw [if_pos (by rw [de]; simp; omega)] at HE
                                clear de
                                go_wp2_with (fail)
                                go_ret
                                refine ⟨?_, D2.bel⟩
                                rw [Hi.out, Hd.out, HE.out]
                                rfl
                              · rw [decide_eq_true (p := 0 ≤ ds[m].a) (by omega), decide_eq_true (p := ds[m].a < ns.length) (by omega)] at de
                                cases jb
                                · by_cases g5 : (ds[m].b == -1) = true
                                  · have g5' : (ds[m].b != -1) = false := by simpa using g5
                                    rw [g5] at de
                                    have de : endsB ds[m] ns.length = true := by rw [de]; rfl
                                    rw [if_neg (by rw [de]; decide)] at HE
                                    clear de
                                    by_cases g8 : ds[m].comp < 0
                                    · rw [if_pos (by simp [companyB]; omega)] at HE
                                      go_wp2_with (go_at_call 32; (with_reducible refine (HJ.out _).mono ?_); rintro e w' ⟨rfl, rfl⟩)
                                      go_ret
                                      refine ⟨?_, D2.bel⟩
                                      rw [Hi.out, Hd.out, HE.out]
                                      rfl
                                    · by_cases g9 : 7 < ds[m].comp
                                      · rw [if_pos (by simp [companyB]; omega)] at HE
                                        go_wp2_with (go_at_call 32; (with_reducible refine (HJ.out _).mono ?_); rintro e w' ⟨rfl, rfl⟩)
                                        go_ret
                                        refine ⟨?_, D2.bel⟩
                                        rw [Hi.out, Hd.out, HE.out]
                                        rfl
                                      · rw [if_neg (by simp [companyB]; omega)] at HE
                                        go_wp2_with (go_at_call 32; (with_reducible refine (HJ.out _).mono ?_); rintro e w' ⟨rfl, rfl⟩)
                                        go_roundg (go - 1)
                                        case measure => have := Hm.out; omega
                                        case rel =>
                                          refine ⟨m + 1, by have := Hm.out; omega, by go_num, D2, ?_⟩
                                          rw [Hi.out, Hd.out, HE.out]
                                          rfl
                                  · have g5 : (ds[m].b == -1) = false := by simpa using g5
                                    have g5' : (ds[m].b != -1) = true := by simpa using g5
                                    rw [g5] at de
                                    have de : endsB ds[m] ns.length = false := by rw [de]; rfl
                                    rw [if_pos de] at HE
                                    clear de
                                    go_wp2_with (go_at_call 32; (with_reducible refine (HJ.out _).mono ?_); rintro e w' ⟨rfl, rfl⟩)
                                    go_ret
                                    refine ⟨?_, D2.bel⟩
                                    rw [Hi.out, Hd.out, HE.out]
                                    rfl
                                · by_cases g5 : ds[m].b < 0
                                  · have de : endsB ds[m] ns.length = false := by rw [de]; simp; omega
                                    rw [if_pos de] at HE
                                    clear de
                                    go_wp2_with (go_at_call 32; (with_reducible refine (HJ.out _).mono ?_); rintro e w' ⟨rfl, rfl⟩)
                                    go_ret
                                    refine ⟨?_, D2.bel⟩
                                    rw [Hi.out, Hd.out, HE.out]
                                    rfl
                                  · by_cases g6 : (ns.length : Int) ≤ ds[m].b
                                    · have de : endsB ds[m] ns.length = false := by rw [de]; simp; omega
                                      rw [if_pos de] at HE
                                      clear de
                                      go_wp2_with (go_at_call 32; (with_reducible refine (HJ.out _).mono ?_); rintro e w' ⟨rfl, rfl⟩)
                                      go_ret
                                      refine ⟨?_, D2.bel⟩
                                      rw [Hi.out, Hd.out, HE.out]
                                      rfl
                                    · by_cases g7 : (ds[m].b == ds[m].a) = true
                                      · have de : endsB ds[m] ns.length = false := by rw [de]; simp at g7 ⊢; omega
                                        rw [if_pos de] at HE
                                        clear de
                                        go_wp2_with (go_at_call 32; (with_reducible refine (HJ.out _).mono ?_); rintro e w' ⟨rfl, rfl⟩)
                                        go_ret
                                        refine ⟨?_, D2.bel⟩
                                        rw [Hi.out, Hd.out, HE.out]
                                        rfl
                                      · have g7 : (ds[m].b == ds[m].a) = false := by simpa using g7
                                        have de : endsB ds[m] ns.length = true := by rw [de]; simp at g7 ⊢; omega
                                        rw [if_neg (by rw [de]; decide)] at HE
                                        clear de
                                        by_cases g8 : ds[m].comp < 0
                                        · rw [if_pos (by simp [companyB]; omega)] at HE
                                          go_wp2_with (go_at_call 32; (with_reducible refine (HJ.out _).mono ?_); rintro e w' ⟨rfl, rfl⟩)
                                          go_ret
                                          refine ⟨?_, D2.bel⟩
                                          rw [Hi.out, Hd.out, HE.out]
                                          rfl
                                        · by_cases g9 : 7 < ds[m].comp
                                          · rw [if_pos (by simp [companyB]; omega)] at HE
                                            go_wp2_with (go_at_call 32; (with_reducible refine (HJ.out _).mono ?_); rintro e w' ⟨rfl, rfl⟩)
                                            go_ret
                                            refine ⟨?_, D2.bel⟩
                                            rw [Hi.out, Hd.out, HE.out]
                                            rfl
                                          · rw [if_neg (by simp [companyB]; omega)] at HE
                                            go_wp2_with (go_at_call 32; (with_reducible refine (HJ.out _).mono ?_); rintro e w' ⟨rfl, rfl⟩)
                                            go_roundg (go - 1)
                                            case measure => have := Hm.out; omega
                                            case rel =>
                                              refine ⟨m + 1, by have := Hm.out; omega, by go_num, D2, ?_⟩
                                              rw [Hi.out, Hd.out, HE.out]
                                              rfl
            · have e0 := Hi.out
              rw [List.drop_of_length_le (by omega)] at e0
              have e1 := Lib.hid (show checkL ns ds = 0 from e0)
              clear e0
              go_wp2_with (fail)
              go_ret
              exact ⟨by rw [e1.out]; rfl, D.bel⟩
end Go.Proofs.YtgpcojmdfmngeaaDoor

namespace Go.Proofs.YtgpcojmdfmngeaaDoor
open Go.RowKit
set_option maxHeartbeats 400000
set_option maxRecDepth 100000

theorem refHas_any (w : World) (S : Nat → Prop) (A : Option Addr) (c : Nat) (xs : List Int) (hs : SI w S A xs) (hl : xs.length ≤ 65536) (y : Int) :
    Calls Tryd.prog 80 #[.slice A xs.length c, .int .i64 y] w fun e w' => e = .returned (.bool (decide (y ∈ xs))) ∧ w = w' := by
  go_enter Tryd.func80, Tryd.ntmps80
  go_wp2_with (fail)
  go_loopg [5] xs.length (fun g i wr => wr = w ∧ ∃ k : Nat, k + g = xs.length ∧ i = .int .i64 k ∧ ∀ j (h : j < xs.length), j < k → xs[j] ≠ y)
  case atStart => exact ⟨rfl, 0, by omega, rfl, fun j _ h => by omega⟩
  case round =>
    obtain ⟨rfl, k, hk, rfl, hno⟩ := hrel
    have Hk := Lib.hid hk
    have Hno := Lib.hid hno
    clear hk hno
    by_cases hlt : k < xs.length
    · obtain ⟨b, off, rfl, _, _, hc⟩ := hs.at_ hlt
      by_cases he : (xs[k] == y) = true
      · have He := Lib.hid he
        go_wp2_with (fail)
        go_ret
        refine ⟨retB ?_, rfl⟩
        have : xs[k] = y := by simpa using He.out
        rw [decide_eq_true (by rw [← this]; exact List.getElem_mem hlt)]
      · have he : (xs[k] == y) = false := by simpa using he
        have He := Lib.hid he
        go_wp2_with (fail)
        go_roundg (gk - 1)
        case measure => have := Hk.out; omega
        case rel =>
          refine ⟨rfl, k + 1, by have := Hk.out; omega, by go_num, fun j h hj => ?_⟩
          by_cases hjk : j = k
          · subst hjk; simpa using He.out
          · exact Hno.out j h (by omega)
    · go_wp2_with (fail)
      go_ret
      refine ⟨retB ?_, rfl⟩
      rw [decide_eq_false (fun hm => by
        obtain ⟨j, hj, e⟩ := List.getElem_of_mem hm
        exact Hno.out j hj (by omega) e)]

theorem refOther_any (w : World) (S : Nat → Prop) (A1 A2 : Option Addr) (c1 c2 : Nat) (ns : List Node) (ds : List Dev) (hn : NetIn w S A1 A2 ns ds) (hl1 : ns.length ≤ 65536) (hl2 : ds.length ≤ 65536) (i v : Int) :
    Calls Tryd.prog 27 #[.agg #[.slice A1 ns.length c1, .slice A2 ds.length c2], .int .i64 i, .int .i64 v] w fun e w' => e = .returned (.int .i64 (otherL ns ds i v)) ∧ Below w.heap.size w w' := by
  have hb := (Below.refl w.heap.size w).alloc (Nat.le_refl _) (.cells #[.slice A1 ns.length c1, .slice A2 ds.length c2] 26)
  have HC := Lib.hid (refCheck_any _ S A1 A2 c1 c2 ns ds (hn.below hb) hl1 hl2)
  have HE := Lib.hid (show otherL ns ds i v = if checkL ns ds = 0 ∧ 0 ≤ i ∧ i < ds.length then (match ds[i.toNat]? with | some d => acrossL d v | none => -1) else -1 from rfl)
  generalize checkL ns ds = ce at *
  by_cases h0 : (ce != 0) = true
  · have H0 := Lib.hid (show ¬ ce = 0 by simpa using h0)
    go_enter Tryd.func27, Tryd.ntmps27
    go_wp2_with (go_at_call 17; (with_reducible refine (HC.out).mono ?_); rintro e w1 ⟨rfl, hb1⟩)
    go_ret
    exact ⟨by rw [HE.out, if_neg (fun h => H0.out h.1)]; rfl, hb.trans (hb1.mono hb.size)⟩
  · have h0' : (ce != 0) = false := by simpa using h0
    have H0 := Lib.hid (show ce = 0 by simpa using h0)
    clear h0
    by_cases h1 : i < 0
    · have h1' : decide (i < 0) = true := by simp; omega
      go_enter Tryd.func27, Tryd.ntmps27
      go_wp2_with (go_at_call 17; (with_reducible refine (HC.out).mono ?_); rintro e w1 ⟨rfl, hb1⟩)
      go_ret
      exact ⟨by rw [HE.out, if_neg (by omega)]; rfl, hb.trans (hb1.mono hb.size)⟩
    · by_cases h2 : (ds.length : Int) ≤ i
      · go_enter Tryd.func27, Tryd.ntmps27
        go_wp2_with (fail)
        refine (HC.out).mono ?_
        rintro e w1 ⟨rfl, hb1⟩
        have hbox := box_at hb1
        have n1 : w1.cell? ⟨w.heap.size, 1, none⟩ = some (.slice A2 ds.length c2) := by rw [cell_of_row w1 _ 1 _ _ _ hbox]; rfl
        clear hbox
        go_wp2_with (fail)
        go_ret
        exact ⟨by rw [HE.out, if_neg (by omega)]; rfl, hb.trans (hb1.mono hb.size)⟩
      · obtain ⟨k, rfl⟩ := Int.eq_ofNat_of_zero_le (show 0 ≤ i by omega)
        have hk : k < ds.length := by omega
        have HE2 := Lib.hid (show otherL ns ds k v = if joinsB ds[k].kind = false then -1 else if ds[k].a == v then ds[k].b else if ds[k].b == v then ds[k].a else -1 by rw [HE.out, if_pos ⟨H0.out, by omega, by omega⟩]; simp [hk, acrossL])
        clear HE h1 h2
        have HJ := fun w => refJoins_any ds[k].kind w
        generalize joinsB ds[k].kind = jb at *
        have HJ := Lib.hid HJ
        go_enter Tryd.func27, Tryd.ntmps27
        go_wp2_with (fail)
        refine (HC.out).mono ?_
        rintro e w1 ⟨rfl, hb1⟩
        have hbox := box_at hb1
        have n1 : w1.cell? ⟨w.heap.size, 1, none⟩ = some (.slice A2 ds.length c2) := by rw [cell_of_row w1 _ 1 _ _ _ hbox]; rfl
        have hbA := hb.trans (hb1.mono hb.size)
        obtain ⟨b, off, rfl, hS, hbl, q0, q1, q2, q3, q4⟩ := (hn.below hbA).dev hk
        clear hbox
        go_wp2_with (fail)
        refine (HJ.out w1).mono ?_
        rintro e w' ⟨rfl, rfl⟩
        cases jb
        · go_wp2_with (fail)
          go_ret
          exact ⟨by rw [HE2.out]; rfl, hbA⟩
        · by_cases ha : (ds[k].a == v) = true
          · rw [ha] at HE2
            go_wp2_with (fail)
            go_ret
            exact ⟨by rw [HE2.out]; rfl, hbA⟩
          · have ha : (ds[k].a == v) = false := by simpa using ha
            rw [ha] at HE2
            by_cases hb' : (ds[k].b == v) = true
            · rw [hb'] at HE2
              go_wp2_with (fail)
              go_ret
              exact ⟨by rw [HE2.out]; rfl, hbA⟩
            · have hb' : (ds[k].b == v) = false := by simpa using hb'
              rw [hb'] at HE2
              go_wp2_with (fail)
              go_ret
              exact ⟨by rw [HE2.out]; rfl, hbA⟩
end Go.Proofs.YtgpcojmdfmngeaaDoor

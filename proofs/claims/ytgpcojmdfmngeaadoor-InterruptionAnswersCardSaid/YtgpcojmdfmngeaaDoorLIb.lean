/-
  The law InterruptionAnswers, walked: the inputs that it turns away.
-/
import Derived.Test.YtgpcojmdfmngeaaDoorAns
import Derived.Test.YtgpcojmdfmngeaaDoorNar
import Derived.Test.YtgpcojmdfmngeaaDoorMkf
import Derived.Test.YtgpcojmdfmngeaaDoorR22b
import Derived.Test.YtgpcojmdfmngeaaDoorR22c
import Derived.Test.YtgpcojmdfmngeaaDoorR22d
import Derived.Test.YtgpcojmdfmngeaaDoorRout
import Derived.Test.YtgpcojmdfmngeaaDoorGa
import Derived.Deep.CutBlock
namespace Go.Proofs.YtgpcojmdfmngeaaDoor
open Go.RowKit
set_option maxHeartbeats 400000
set_option maxRecDepth 100000

set_option maxHeartbeats 16000000 in
theorem interAnswers_bad (w : World) (h : TabC w) (ht : Tab w) (A : Option Addr) (c : Nat) (xs : List Int) (hs : SI w (fun _ => True) A xs) (Aa : Option Addr) (ca : Nat) (la : List Int) (hsa : SI w (fun _ => True) Aa la)
    (R1 R2 : Option Addr) (d1 d2 : Nat) (rn : List Node) (rd : List Dev) (hr : NetIn w (fun _ => True) R1 R2 rn rd) (hr1 : rn.length ≤ maxLen) (hr2 : rd.length ≤ maxLen) (Ac : Option Addr) (cc : Nat) (chs : List Chg) (hsc : SV w (fun _ => True) Ac (recV chgV chs)) (_hwc : ∀ x ∈ chs, x.t ≤ 9223372036854775807) (Ao : Option Addr) (co : Nat) (ous : List Out) (hso : SV w (fun _ => True) Ao (recV outV ous)) (til time lim : Int) (hnok : ¬ (xs.length ≤ 400 ∧ la.length ≤ 100 ∧ lightB rn rd = true ∧ chs.length ≤ 60 ∧ ous.length ≤ 60)) :
    Calls Tryd.prog 7 #[.slice A xs.length c, .slice Aa la.length ca, .agg #[.slice R1 rn.length d1, .slice R2 rd.length d2], .slice Ac chs.length cc, .slice Ao ous.length co, .int .i64 til, .int .i64 time, .int .i64 lim] w (RetT w) := by
  obtain ⟨w0, hw0⟩ : ∃ x, x = w.alloc (.cells #[.slice R1 rn.length d1, .slice R2 rd.length d2] 26) := ⟨_, rfl⟩
  have hb0 : Below w.heap.size w w0 := by rw [hw0]; exact (Below.refl _ _).alloc (Nat.le_refl _) _
  have hbox0 : w0.heap[w.heap.size]? = some (.cells #[.slice R1 rn.length d1, .slice R2 rd.length d2] 26 (0, 0)) := by rw [hw0]; exact heap_alloc_new w _
  have hgb : w.heap.size < w0.heap.size := (Array.getElem?_eq_some_iff.1 hbox0).1
  have m0 : w0.cell? ⟨w.heap.size, 0, none⟩ = some (.slice R1 rn.length d1) := by rw [cell_of_row w0 _ 0 _ _ _ hbox0]; rfl
  have m1 : w0.cell? ⟨w.heap.size, 1, none⟩ = some (.slice R2 rd.length d2) := by rw [cell_of_row w0 _ 1 _ _ _ hbox0]; rfl
  have h0 := h.below hb0
  have ht0 := ht.below hb0
  have hs0 := hs.keep (Kept.of_below hb0)
  have hsa0 := hsa.keep (Kept.of_below hb0)
  have hr0 := hr.below hb0
  have hsc0 := hsc.keep (Kept.of_below hb0)
  have hso0 := hso.keep (Kept.of_below hb0)
  have HW0 := Lib.hid hw0
  have Hbox0 := Lib.hid hbox0
  rw [hw0] at m0 m1
  clear hw0 hbox0
  obtain ⟨gr, hgr⟩ : ∃ x, x = w.heap.size := ⟨_, rfl⟩
  rw [← hgr] at m0 m1 hgb
  have Hgr := Lib.hid hgr
  clear hgr
  have Fin : Hid (∀ W : World, Below w0.heap.size w0 W → Calls Tryd.prog 81 #[] W (fun e w' => e = .returned (.bool true) ∧ Below w.heap.size w w')) := Lib.hid (fun W hb =>
    (awake22 W (h0.below hb) (ht0.below hb)).mono fun e w' he => ⟨he.1, hb0.trans ((hb.mono hb0.size).trans (he.2.mono (by have := hb0.size; have := hb.size; omega)))⟩)
  by_cases hf : xs.length ≤ 400
  · have hfd : decide ((xs.length : Int) ≤ 400) = true := decide_eq_true (by omega)
    by_cases h100 : la.length ≤ 100
    · have d100 : decide ((100 : Int) < (la.length : Int)) = false := decide_eq_false (by omega)
      have HLt := Lib.hid (light_any w0 _ R1 R2 d1 d2 rn rd hr0 hr1 hr2)
      by_cases hli : lightB rn rd = true
      · rw [hli] at HLt
        by_cases hc60 : chs.length ≤ 60
        · have d60 : decide ((60 : Int) < (chs.length : Int)) = false := decide_eq_false (by omega)
          by_cases ho60 : ous.length ≤ 60
          · exact absurd ⟨hf, h100, hli, hc60, ho60⟩ hnok
          · have d61 : decide ((60 : Int) < (ous.length : Int)) = true := decide_eq_true (by omega)
            go_enter Tryd.func7, Tryd.ntmps7
            go_wp2_with (fail)
            rw [← Hgr.out, ← HW0.out]
            refine (few_any w0 A xs.length c).mono ?_
            rw [hfd]
            rintro e w' ⟨rfl, rfl⟩
            have n0 : w0.cell? ⟨gr, 0, none⟩ = some (.slice R1 rn.length d1) := by rw [HW0.out]; exact m0
            have n1 : w0.cell? ⟨gr, 1, none⟩ = some (.slice R2 rd.length d2) := by rw [HW0.out]; exact m1
            clear m0 m1
            go_wp2_with (fail)
            refine HLt.out.mono ?_
            rintro e w1 ⟨rfl, hb1⟩
            go_wp2_with (fail)
            refine (Fin.out w1 hb1).mono ?_
            rintro e w8 ⟨rfl, hb8⟩
            go_wp2_with (fail)
            go_ret
            exact ⟨rfl, hb8⟩
        · have d60 : decide ((60 : Int) < (chs.length : Int)) = true := decide_eq_true (by omega)
          go_enter Tryd.func7, Tryd.ntmps7
          go_wp2_with (fail)
          rw [← Hgr.out, ← HW0.out]
          refine (few_any w0 A xs.length c).mono ?_
          rw [hfd]
          rintro e w' ⟨rfl, rfl⟩
          have n0 : w0.cell? ⟨gr, 0, none⟩ = some (.slice R1 rn.length d1) := by rw [HW0.out]; exact m0
          have n1 : w0.cell? ⟨gr, 1, none⟩ = some (.slice R2 rd.length d2) := by rw [HW0.out]; exact m1
          clear m0 m1
          go_wp2_with (fail)
          refine HLt.out.mono ?_
          rintro e w1 ⟨rfl, hb1⟩
          go_wp2_with (fail)
          refine (Fin.out w1 hb1).mono ?_
          rintro e w8 ⟨rfl, hb8⟩
          go_wp2_with (fail)
          go_ret
          exact ⟨rfl, hb8⟩
      · have hli : lightB rn rd = false := by simpa using hli
        rw [hli] at HLt
        go_enter Tryd.func7, Tryd.ntmps7
        go_wp2_with (fail)
        rw [← Hgr.out, ← HW0.out]
        refine (few_any w0 A xs.length c).mono ?_
        rw [hfd]
        rintro e w' ⟨rfl, rfl⟩
        have n0 : w0.cell? ⟨gr, 0, none⟩ = some (.slice R1 rn.length d1) := by rw [HW0.out]; exact m0
        have n1 : w0.cell? ⟨gr, 1, none⟩ = some (.slice R2 rd.length d2) := by rw [HW0.out]; exact m1
        clear m0 m1
        go_wp2_with (fail)
        refine HLt.out.mono ?_
        rintro e w1 ⟨rfl, hb1⟩
        go_wp2_with (fail)
        refine (Fin.out w1 hb1).mono ?_
        rintro e w8 ⟨rfl, hb8⟩
        go_wp2_with (fail)
        go_ret
        exact ⟨rfl, hb8⟩
    · have d100 : decide ((100 : Int) < (la.length : Int)) = true := decide_eq_true (by omega)
      go_enter Tryd.func7, Tryd.ntmps7
      go_wp2_with (fail)
      rw [← Hgr.out, ← HW0.out]
      refine (few_any w0 A xs.length c).mono ?_
      rw [hfd]
      rintro e w' ⟨rfl, rfl⟩
      clear m0 m1
      go_wp2_with (fail)
      refine (Fin.out w0 (Below.refl _ _)).mono ?_
      rintro e w8 ⟨rfl, hb8⟩
      go_wp2_with (fail)
      go_ret
      exact ⟨rfl, hb8⟩
  · have hfd : decide ((xs.length : Int) ≤ 400) = false := decide_eq_false (by omega)
    go_enter Tryd.func7, Tryd.ntmps7
    go_wp2_with (fail)
    rw [← Hgr.out, ← HW0.out]
    refine (few_any w0 A xs.length c).mono ?_
    rw [hfd]
    rintro e w' ⟨rfl, rfl⟩
    clear m0 m1
    go_wp2_with (fail)
    refine (Fin.out w0 (Below.refl _ _)).mono ?_
    rintro e w8 ⟨rfl, hb8⟩
    go_wp2_with (fail)
    go_ret
    exact ⟨rfl, hb8⟩
end Go.Proofs.YtgpcojmdfmngeaaDoor

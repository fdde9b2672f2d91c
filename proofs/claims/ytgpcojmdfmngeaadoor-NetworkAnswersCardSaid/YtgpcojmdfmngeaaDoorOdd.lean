/-
  The walk of mk.Odd: a copy of a network of which one thing is changed.
-/
import Derived.Test.YtgpcojmdfmngeaaDoorOdn
import Derived.Deep.CutBlock
namespace Go.Proofs.YtgpcojmdfmngeaaDoor
open Go.RowKit
set_option maxHeartbeats 400000
set_option maxRecDepth 100000

theorem lit_0 (r : Nat) (h : r < 5) : ∃ u, (#[.string ⟨#[]⟩, .string ⟨#[49, 65]⟩, .string ⟨#[78, 48, 48]⟩, .string ⟨#[97, 45, 98]⟩, .string ⟨#[65, 66, 67, 68, 69, 70, 71, 72, 73, 74, 75, 76, 77]⟩] : Array Value)[r]? = some (.string u) ∧ u.size ≤ maxLen := by
  have hr : r = 0 ∨ r = 1 ∨ r = 2 ∨ r = 3 ∨ r = 4 := by omega
  rcases hr with rfl | rfl | rfl | rfl | rfl
  all_goals exact ⟨_, rfl, (by simp only [maxLen]; decide)⟩
theorem lit_1 (r : Nat) (h : r < 3) : ∃ u, (#[.int .i64 (-1), .int .i64 1048576, .int .i64 1048577] : Array Value)[r]? = some (.int .i64 u) := by
  have hr : r = 0 ∨ r = 1 ∨ r = 2 := by omega
  rcases hr with rfl | rfl | rfl
  all_goals exact ⟨_, rfl⟩
theorem lit_2 (r : Nat) (h : r < 3) : ∃ u, (#[.int .i64 (-1), .int .i64 7, .int .i64 8] : Array Value)[r]? = some (.int .i64 u) := by
  have hr : r = 0 ∨ r = 1 ∨ r = 2 := by omega
  rcases hr with rfl | rfl | rfl
  all_goals exact ⟨_, rfl⟩
theorem lit_3 (r : Nat) (h : r < 4) : ∃ u, (#[.string ⟨#[]⟩, .string ⟨#[78, 48, 49]⟩, .string ⟨#[83, 48, 48]⟩, .string ⟨#[81, 32, 49]⟩] : Array Value)[r]? = some (.string u) ∧ u.size ≤ maxLen := by
  have hr : r = 0 ∨ r = 1 ∨ r = 2 ∨ r = 3 := by omega
  rcases hr with rfl | rfl | rfl | rfl
  all_goals exact ⟨_, rfl, (by simp only [maxLen]; decide)⟩
theorem lit_7 (r : Nat) (h : r < 3) : ∃ u, (#[.int .i64 (-1), .int .i64 7, .int .i64 8] : Array Value)[r]? = some (.int .i64 u) := by
  have hr : r = 0 ∨ r = 1 ∨ r = 2 := by omega
  rcases hr with rfl | rfl | rfl
  all_goals exact ⟨_, rfl⟩
def RetOdd (w : World) (bd : Nat) (e : Ending) (w' : World) : Prop :=
  ∃ (A1 : Option Addr) (c1 : Nat) (ns : List Node) (A2 : Option Addr) (c2 : Nat) (ds : List Dev), e = .returned (.agg #[.slice A1 ns.length c1, .slice A2 ds.length c2]) ∧ NetIn w' (fun g => w.heap.size < g) A1 A2 ns ds ∧ ns.length ≤ 60 ∧ ds.length ≤ 125 ∧ Deck w' bd ∧ Fr w.heap.size bd w w'

set_option maxHeartbeats 16000000 in
theorem odd_any (w : World) (bd : Nat) (hdk : Deck w bd) (S : Nat → Prop) (A1 A2 : Option Addr) (c1 c2 : Nat) (ns : List Node) (ds : List Dev) (hn : NetIn w S A1 A2 ns ds) (hn1 : 1 ≤ ns.length) (hn2 : ns.length ≤ 60) (hd1 : 1 ≤ ds.length) (hd2 : ds.length ≤ 60) :
    Calls Tryd.prog 15 #[.pointer (some ⟨bd, 0, none⟩), .agg #[.slice A1 ns.length c1, .slice A2 ds.length c2]] w (RetOdd w bd) := by
  have hns := hn.nsz
  have hds := hn.dsz
  have hbd : bd < w.heap.size := hdk.lt
  obtain ⟨gb, hgb⟩ : ∃ x, x = w.heap.size := ⟨_, rfl⟩
  obtain ⟨W0, hW0⟩ : ∃ x, x = (w.alloc (.cells #[.slice A1 ns.length c1, .slice A2 ds.length c2] 26)).alloc (.cells #[.slice none 0 0, .slice none 0 0] 26) := ⟨_, rfl⟩
  have hB0 : Below gb w W0 := by rw [hW0, hgb]; exact ((Below.refl w.heap.size w).alloc (Nat.le_refl _) _).alloc (by simp) _
  have hbx : W0.heap[gb]? = some (.cells #[.slice A1 ns.length c1, .slice A2 ds.length c2] 26 (0, 0)) := by rw [hW0, hgb, Below.heap_alloc _ _ _ (by simp)]; exact heap_alloc_new w _
  have hrs : W0.heap[gb + 1]? = some (.cells #[.slice none 0 0, .slice none 0 0] 26 (0, 0)) := by
    have := heap_alloc_new (w.alloc (.cells #[.slice A1 ns.length c1, .slice A2 ds.length c2] 26)) (.cells #[.slice none 0 0, .slice none 0 0] 26)
    rw [hW0, hgb]; simpa using this
  have HW0 := Lib.hid hW0
  have HG := Lib.hid hgb
  have hX0 := Lib.hid (⟨hB0.drew, hrs, hbx⟩ : Below gb w W0.drew ∧ W0.drew.heap[gb + 1]? = some (.cells #[.slice none 0 0, .slice none 0 0] 26 (0, 0)) ∧ W0.drew.heap[gb]? = some (.cells #[.slice A1 ns.length c1, .slice A2 ds.length c2] 26 (0, 0)))
  rw [← hgb] at hbd
  have hnN := hn.nodes
  have hnD := hn.devs
  have hl1' : ns.length * 3 ≤ 180 := by omega
  clear hB0 hbx hrs hW0 hgb
  go_enter Tryd.func15, Tryd.ntmps15
  go_upto_region 1 with (fail)
  rw [← HW0.out, ← HG.out]
  go_cut [] (fun wx => ∃ A3 c3 A4 c4, OD w wx bd gb A3 c3 ns A4 c4 ds)
  case first =>
    have hX0 : (Below gb w W0.drew ∧ W0.drew.heap[gb + 1]? = some (.cells #[.slice none 0 0, .slice none 0 0] 26 (0, 0)) ∧ W0.drew.heap[gb]? = some (.cells #[if false = true then undef else .slice A1 ns.length c1, if false = true then undef else .slice A2 ds.length c2] 26 (0, 0)) ∧ (false = true → false = true) ∧ (false = true → false = true) ∧ (false = true → false = true) ∧ (false = true → false = true)) := ⟨hX0.out.1, hX0.out.2.1, hX0.out.2.2, id, id, id, id⟩
    refine wp_region_ext2X (by kernel_rfl) 10 [8, 9, 10, 11, 12, 13, 14, 15] (Ev gb none) (fun d v w' => if d = 8 then v = .pointer (some ⟨gb, 0, none⟩) else if d = 9 then v = .slice A1 ns.length c1 else if d = 11 then v = .pointer (some ⟨gb, 1, none⟩) else if d = 12 then v = .slice A2 ds.length c2 else if d = 14 then v = .pointer (some ⟨gb, 0, none⟩) else if d = 15 then v = .pointer (some ⟨gb, 1, none⟩) else if d = 10 then ∃ A' c', v = .slice A' ns.length c' ∧ OV w' (fun g => gb + 1 < g) 104 3 A' ns.length c' (nodesV ns) else if d = 13 then ∃ A' c', v = .slice A' ds.length c' ∧ OV w' (fun g => gb + 1 < g) 78 5 A' ds.length c' (devsV ds) else False) (fun dn f W' => Below gb w W' ∧ W'.heap[gb + 1]? = some (.cells #[.slice none 0 0, .slice none 0 0] 26 (0, 0)) ∧ W'.heap[gb]? = some (.cells #[if dn 7 = true then f 10 else .slice A1 ns.length c1, if dn 9 = true then f 13 else .slice A2 ds.length c2] 26 (0, 0)) ∧ (dn 7 = true → dn 2 = true) ∧ (dn 2 = true → dn 1 = true) ∧ (dn 9 = true → dn 5 = true) ∧ (dn 5 = true → dn 4 = true)) (by kernel_rfl) (hX0) (fun d v a b hE hT => by
        by_cases h10 : d = 10
        · subst h10
          obtain ⟨A', c', e1, e2⟩ := hT
          exact ⟨A', c', e1, e2.keep ⟨hE.1, fun k hk hl => hE.2 k hl (by omega) (by intro e; cases e)⟩⟩
        by_cases h13 : d = 13
        · subst h13
          obtain ⟨A', c', e1, e2⟩ := hT
          exact ⟨A', c', e1, e2.keep ⟨hE.1, fun k hk hl => hE.2 k hl (by omega) (by intro e; cases e)⟩⟩
        simp only [if_neg h10, if_neg h13] at hT ⊢
        exact hT) ?_ ?_
    · intro i o hi ho dn f w1 hX hT hni hdn K hK
      have hi' : i = 0 ∨ i = 1 ∨ i = 2 ∨ i = 3 ∨ i = 4 ∨ i = 5 ∨ i = 6 ∨ i = 7 ∨ i = 8 ∨ i = 9 := by omega
      rcases hi' with rfl | rfl | rfl | rfl | rfl | rfl | rfl | rfl | rfl | rfl
      · simp only [List.getElem?_toArray, List.getElem?_cons_zero, Option.some.injEq] at ho
        subst ho
        generalize hA : fr _ _ _ f = A at hK ⊢
        have e3 : A.tmps[3]?.getD undef = .pointer (some ⟨gb, 0, none⟩) := by rw [← hA]; exact fr_out _ _ _ _ 3 _ (by decide) rfl
        clear hA
        have HX := Lib.hid hX
        have HT := Lib.hid hT
        have HN := Lib.hid hni
        have HDN := Lib.hid hdn
        clear hX hT hni hdn
        go_simp
        obtain ⟨x1, x2, x3, x4, x5, x6, x7⟩ := HX.out
        exact hK _ _ (Ev.refl _ _ _) (fun d hd => by injection hd with hd; subst hd; exact rfl) ⟨x1, x2, by simpa [nextF] using x3, imp_dn x4 (by decide), imp_dn x5 (by decide), imp_dn x6 (by decide), imp_dn x7 (by decide)⟩
      · simp only [List.getElem?_toArray, List.getElem?_cons_zero, List.getElem?_cons_succ, Option.some.injEq] at ho
        subst ho
        have h8 : f 8 = .pointer (some ⟨gb, 0, none⟩) := hT 0 8 (by decide) rfl (hdn { on := 0, ground := .data } (by simp) rfl)
        generalize hA : fr _ _ _ f = A at hK ⊢
        have e8 : A.tmps[8]?.getD undef = f 8 := by rw [← hA]; exact fr_in _ _ _ _ 8 (by decide) (by simp)
        clear hA
        have HX := Lib.hid hX
        have HT := Lib.hid hT
        have HN := Lib.hid hni
        have HDN := Lib.hid hdn
        clear hX hT hni hdn
        have Hf8 := Lib.hid h8
        rw [h8] at e8
        clear h8
        obtain ⟨x1, x2, x3, x4, x5, x6, x7⟩ := HX.out
        have hn := HN.out
        have e2 : dn 2 = false := bfl x5 hn
        have e7 : dn 7 = false := bfl x4 e2
        simp only [e7, Bool.false_eq_true, if_false] at x3
        have hcell : w1.cell? ⟨gb, 0, none⟩ = some (.slice A1 ns.length c1) := by rw [cell_of_row w1 gb 0 _ _ _ x3]; rfl
        clear x1 x2 x3 x4 x5 x6 x7 hn e7 e2
        go_simp
        obtain ⟨x1, x2, x3, x4, x5, x6, x7⟩ := HX.out
        exact hK _ _ (Ev.refl _ _ _) (fun d hd => by injection hd with hd; subst hd; exact rfl) ⟨x1, x2, by simpa [nextF] using x3, imp_dn x4 (by decide), imp_dn x5 (by decide), imp_dn x6 (by decide), imp_dn x7 (by decide)⟩
      · simp only [List.getElem?_toArray, List.getElem?_cons_zero, List.getElem?_cons_succ, Option.some.injEq] at ho
        subst ho
        have h9 : f 9 = .slice A1 ns.length c1 := hT 1 9 (by decide) rfl (hdn { on := 1, ground := .data } (by simp) rfl)
        have hd1 : dn 1 = true := hdn { on := 1, ground := .data } (by simp) rfl
        generalize hA : fr _ _ _ f = A at hK ⊢
        have e9 : A.tmps[9]?.getD undef = f 9 := by rw [← hA]; exact fr_in _ _ _ _ 9 (by decide) (by simp)
        clear hA
        have HX := Lib.hid hX
        have HT := Lib.hid hT
        have HN := Lib.hid hni
        have HDN := Lib.hid hdn
        clear hX hT hni hdn
        have Hf9 := Lib.hid h9
        rw [h9] at e9
        clear h9
        obtain ⟨x1, x2, x3, x4, x5, x6, x7⟩ := HX.out
        have hn := HN.out
        have e7 : dn 7 = false := bfl x4 hn
        obtain ⟨i0, hi0, hz0, hz1, hz2⟩ := info_parts nodeInfo
        obtain ⟨A', c', w', hr, h2, h3, h4⟩ := run_append_OV (P := Tryd.prog) w1 (fun g => gb + 1 < g) 23 23 104 i0 _ 3 32 Tryd.underlying23 hi0 hz0 hz1 hz2 rfl (by decide) none 0 0 [] (OV.nil _ _ _ _) (fun _ => True) A1 ns.length c1 (nodesV ns) (nodesV_len ns) ((hnN.keep (Kept.of_below (HG.out ▸ x1))).mono (fun _ _ _ => trivial)) (nodesV_one ns) (by simp only [maxLen]; omega) (by omega)
        rw [Nat.zero_add] at hr h2
        rw [List.nil_append] at h2
        have hgl : gb + 1 < w1.heap.size := (Array.getElem?_eq_some_iff.1 x2).1
        refine wp_append (.const (.slice none 0 0)) (.tmp 9) 23 rfl rfl (show A.eval (.tmp 9) = _ by simpa [Act.eval] using e9) hr ?_
        refine hK _ _ ⟨h3.size, fun k hk _ _ => h3.block k hk (by intro e; cases e)⟩ (fun d hd => by injection hd with hd; subst hd; exact ⟨A', c', rfl, h2.mono (fun g _ hg => by rcases hg with hg | hg <;> omega)⟩) ⟨x1.trans ((Below.refl gb w1).grown h3 (by omega) (fun g hg => by cases hg)), (h3.block (gb + 1) hgl (by intro e; cases e)).trans x2, ?_, imp_dn x4 (by decide), imp_dn' hd1, imp_dn x6 (by decide), imp_dn x7 (by decide)⟩
        rw [(h3.block gb (by omega) (by intro e; cases e)).trans x3]
        simp [nextF, e7]
      · simp only [List.getElem?_toArray, List.getElem?_cons_zero, List.getElem?_cons_succ, Option.some.injEq] at ho
        subst ho
        generalize hA : fr _ _ _ f = A at hK ⊢
        have e3 : A.tmps[3]?.getD undef = .pointer (some ⟨gb, 0, none⟩) := by rw [← hA]; exact fr_out _ _ _ _ 3 _ (by decide) rfl
        clear hA
        have HX := Lib.hid hX
        have HT := Lib.hid hT
        have HN := Lib.hid hni
        have HDN := Lib.hid hdn
        clear hX hT hni hdn
        go_simp
        obtain ⟨x1, x2, x3, x4, x5, x6, x7⟩ := HX.out
        exact hK _ _ (Ev.refl _ _ _) (fun d hd => by injection hd with hd; subst hd; exact rfl) ⟨x1, x2, by simpa [nextF] using x3, imp_dn x4 (by decide), imp_dn x5 (by decide), imp_dn x6 (by decide), imp_dn x7 (by decide)⟩
      · simp only [List.getElem?_toArray, List.getElem?_cons_zero, List.getElem?_cons_succ, Option.some.injEq] at ho
        subst ho
        have h11 : f 11 = .pointer (some ⟨gb, 1, none⟩) := hT 3 11 (by decide) rfl (hdn { on := 3, ground := .data } (by simp) rfl)
        generalize hA : fr _ _ _ f = A at hK ⊢
        have e11 : A.tmps[11]?.getD undef = f 11 := by rw [← hA]; exact fr_in _ _ _ _ 11 (by decide) (by simp)
        clear hA
        have HX := Lib.hid hX
        have HT := Lib.hid hT
        have HN := Lib.hid hni
        have HDN := Lib.hid hdn
        clear hX hT hni hdn
        have Hf11 := Lib.hid h11
        rw [h11] at e11
        clear h11
        obtain ⟨x1, x2, x3, x4, x5, x6, x7⟩ := HX.out
        have hn := HN.out
        have e5 : dn 5 = false := bfl x7 hn
        have e9 : dn 9 = false := bfl x6 e5
        simp only [e9, Bool.false_eq_true, if_false] at x3
        have hcell : w1.cell? ⟨gb, 1, none⟩ = some (.slice A2 ds.length c2) := by rw [cell_of_row w1 gb 1 _ _ _ x3]; rfl
        clear x1 x2 x3 x4 x5 x6 x7 hn e9 e5
        go_simp
        obtain ⟨x1, x2, x3, x4, x5, x6, x7⟩ := HX.out
        exact hK _ _ (Ev.refl _ _ _) (fun d hd => by injection hd with hd; subst hd; exact rfl) ⟨x1, x2, by simpa [nextF] using x3, imp_dn x4 (by decide), imp_dn x5 (by decide), imp_dn x6 (by decide), imp_dn x7 (by decide)⟩
      · simp only [List.getElem?_toArray, List.getElem?_cons_zero, List.getElem?_cons_succ, Option.some.injEq] at ho
        subst ho
        have h12 : f 12 = .slice A2 ds.length c2 := hT 4 12 (by decide) rfl (hdn { on := 4, ground := .data } (by simp) rfl)
        have hd4 : dn 4 = true := hdn { on := 4, ground := .data } (by simp) rfl
        generalize hA : fr _ _ _ f = A at hK ⊢
        have e12 : A.tmps[12]?.getD undef = f 12 := by rw [← hA]; exact fr_in _ _ _ _ 12 (by decide) (by simp)
        clear hA
        have HX := Lib.hid hX
        have HT := Lib.hid hT
        have HN := Lib.hid hni
        have HDN := Lib.hid hdn
        clear hX hT hni hdn
        have Hf12 := Lib.hid h12
        rw [h12] at e12
        clear h12
        obtain ⟨x1, x2, x3, x4, x5, x6, x7⟩ := HX.out
        have hn := HN.out
        have e9 : dn 9 = false := bfl x6 hn
        obtain ⟨i0, hi0, hz0, hz1, hz2⟩ := info_parts devInfo
        obtain ⟨A', c', w', hr, h2, h3, h4⟩ := run_append_OV (P := Tryd.prog) w1 (fun g => gb + 1 < g) 24 24 78 i0 _ 5 48 Tryd.underlying24 hi0 hz0 hz1 hz2 rfl (by decide) none 0 0 [] (OV.nil _ _ _ _) (fun _ => True) A2 ds.length c2 (devsV ds) (devsV_len ds) ((hnD.keep (Kept.of_below (HG.out ▸ x1))).mono (fun _ _ _ => trivial)) (devsV_one ds) (by simp only [maxLen]; omega) (by omega)
        rw [Nat.zero_add] at hr h2
        rw [List.nil_append] at h2
        have hgl : gb + 1 < w1.heap.size := (Array.getElem?_eq_some_iff.1 x2).1
        refine wp_append (.const (.slice none 0 0)) (.tmp 12) 24 rfl rfl (show A.eval (.tmp 12) = _ by simpa [Act.eval] using e12) hr ?_
        refine hK _ _ ⟨h3.size, fun k hk _ _ => h3.block k hk (by intro e; cases e)⟩ (fun d hd => by injection hd with hd; subst hd; exact ⟨A', c', rfl, h2.mono (fun g _ hg => by rcases hg with hg | hg <;> omega)⟩) ⟨x1.trans ((Below.refl gb w1).grown h3 (by omega) (fun g hg => by cases hg)), (h3.block (gb + 1) hgl (by intro e; cases e)).trans x2, ?_, imp_dn x4 (by decide), imp_dn x5 (by decide), imp_dn x6 (by decide), imp_dn' hd4⟩
        rw [(h3.block gb (by omega) (by intro e; cases e)).trans x3]
        simp [nextF, e9]
      · simp only [List.getElem?_toArray, List.getElem?_cons_zero, List.getElem?_cons_succ, Option.some.injEq] at ho
        subst ho
        generalize hA : fr _ _ _ f = A at hK ⊢
        have e3 : A.tmps[3]?.getD undef = .pointer (some ⟨gb, 0, none⟩) := by rw [← hA]; exact fr_out _ _ _ _ 3 _ (by decide) rfl
        clear hA
        have HX := Lib.hid hX
        have HT := Lib.hid hT
        have HN := Lib.hid hni
        have HDN := Lib.hid hdn
        clear hX hT hni hdn
        go_simp
        obtain ⟨x1, x2, x3, x4, x5, x6, x7⟩ := HX.out
        exact hK _ _ (Ev.refl _ _ _) (fun d hd => by injection hd with hd; subst hd; exact rfl) ⟨x1, x2, by simpa [nextF] using x3, imp_dn x4 (by decide), imp_dn x5 (by decide), imp_dn x6 (by decide), imp_dn x7 (by decide)⟩
      · simp only [List.getElem?_toArray, List.getElem?_cons_zero, List.getElem?_cons_succ, Option.some.injEq] at ho
        subst ho
        have h14 : f 14 = .pointer (some ⟨gb, 0, none⟩) := hT 6 14 (by decide) rfl (hdn { on := 6, ground := .data } (by simp) rfl)
        have h10 : ∃ A' c', f 10 = .slice A' ns.length c' ∧ OV w1 (fun g => gb + 1 < g) 104 3 A' ns.length c' (nodesV ns) := hT 2 10 (by decide) rfl (hdn { on := 2, ground := .data } (by simp) rfl)
        have hd2 : dn 2 = true := hdn { on := 2, ground := .data } (by simp) rfl
        generalize hA : fr _ _ _ f = A at hK ⊢
        have e14 : A.tmps[14]?.getD undef = f 14 := by rw [← hA]; exact fr_in _ _ _ _ 14 (by decide) (by simp)
        have e10 : A.tmps[10]?.getD undef = f 10 := by rw [← hA]; exact fr_in _ _ _ _ 10 (by decide) (by simp)
        clear hA
        have HX := Lib.hid hX
        have HT := Lib.hid hT
        have HN := Lib.hid hni
        have HDN := Lib.hid hdn
        clear hX hT hni hdn
        have Hf14 := Lib.hid h14
        rw [h14] at e14
        clear h14
        obtain ⟨A10, c10, h10, o10⟩ := h10
        have Hf10 := Lib.hid h10
        rw [h10] at e10
        clear h10
        obtain ⟨x1, x2, x3, x4, x5, x6, x7⟩ := HX.out
        obtain ⟨q, hq⟩ : ∃ q, w1.cell? ⟨gb, 0, none⟩ = some q := ⟨_, by rw [cell_of_row w1 gb 0 _ _ _ x3]; rfl⟩
        have hfz : w1.frozen? ⟨gb, 0, none⟩ = false := free_row w1 gb 0 _ _ x3
        clear x1 x2 x3 x4 x5 x6 x7 o10
        go_simp
        obtain ⟨x1, x2, x3, x4, x5, x6, x7⟩ := HX.out
        have hgl : gb + 1 < w1.heap.size := (Array.getElem?_eq_some_iff.1 x2).1
        refine hK undef _ ⟨by simp [World.setCell], fun k hk hk2 _ => Below.heap_setCell _ _ _ _ (show k ≠ gb from hk2)⟩ (fun d hd => by cases hd) ⟨x1.setCell (by show gb ≤ gb; omega) _, (Below.heap_setCell _ _ _ _ (show gb + 1 ≠ gb by omega)).trans x2, ?_, imp_dn' hd2, imp_dn x5 (by decide), imp_dn x6 (by decide), imp_dn x7 (by decide)⟩
        rw [heap_setCell_same w1 gb 0 _ _ _ x3]
        simp [nextF, Hf10.out]
      · simp only [List.getElem?_toArray, List.getElem?_cons_zero, List.getElem?_cons_succ, Option.some.injEq] at ho
        subst ho
        generalize hA : fr _ _ _ f = A at hK ⊢
        have e3 : A.tmps[3]?.getD undef = .pointer (some ⟨gb, 0, none⟩) := by rw [← hA]; exact fr_out _ _ _ _ 3 _ (by decide) rfl
        clear hA
        have HX := Lib.hid hX
        have HT := Lib.hid hT
        have HN := Lib.hid hni
        have HDN := Lib.hid hdn
        clear hX hT hni hdn
        go_simp
        obtain ⟨x1, x2, x3, x4, x5, x6, x7⟩ := HX.out
        exact hK _ _ (Ev.refl _ _ _) (fun d hd => by injection hd with hd; subst hd; exact rfl) ⟨x1, x2, by simpa [nextF] using x3, imp_dn x4 (by decide), imp_dn x5 (by decide), imp_dn x6 (by decide), imp_dn x7 (by decide)⟩
      · simp only [List.getElem?_toArray, List.getElem?_cons_zero, List.getElem?_cons_succ, Option.some.injEq] at ho
        subst ho
        have h15 : f 15 = .pointer (some ⟨gb, 1, none⟩) := hT 8 15 (by decide) rfl (hdn { on := 8, ground := .data } (by simp) rfl)
        have h13 : ∃ A' c', f 13 = .slice A' ds.length c' ∧ OV w1 (fun g => gb + 1 < g) 78 5 A' ds.length c' (devsV ds) := hT 5 13 (by decide) rfl (hdn { on := 5, ground := .data } (by simp) rfl)
        have hd5 : dn 5 = true := hdn { on := 5, ground := .data } (by simp) rfl
        generalize hA : fr _ _ _ f = A at hK ⊢
        have e15 : A.tmps[15]?.getD undef = f 15 := by rw [← hA]; exact fr_in _ _ _ _ 15 (by decide) (by simp)
        have e13 : A.tmps[13]?.getD undef = f 13 := by rw [← hA]; exact fr_in _ _ _ _ 13 (by decide) (by simp)
        clear hA
        have HX := Lib.hid hX
        have HT := Lib.hid hT
        have HN := Lib.hid hni
        have HDN := Lib.hid hdn
        clear hX hT hni hdn
        have Hf15 := Lib.hid h15
        rw [h15] at e15
        clear h15
        obtain ⟨A13, c13, h13, o13⟩ := h13
        have Hf13 := Lib.hid h13
        rw [h13] at e13
        clear h13
        obtain ⟨x1, x2, x3, x4, x5, x6, x7⟩ := HX.out
        obtain ⟨q, hq⟩ : ∃ q, w1.cell? ⟨gb, 1, none⟩ = some q := ⟨_, by rw [cell_of_row w1 gb 1 _ _ _ x3]; rfl⟩
        have hfz : w1.frozen? ⟨gb, 1, none⟩ = false := free_row w1 gb 1 _ _ x3
        clear x1 x2 x3 x4 x5 x6 x7 o13
        go_simp
        obtain ⟨x1, x2, x3, x4, x5, x6, x7⟩ := HX.out
        have hgl : gb + 1 < w1.heap.size := (Array.getElem?_eq_some_iff.1 x2).1
        refine hK undef _ ⟨by simp [World.setCell], fun k hk hk2 _ => Below.heap_setCell _ _ _ _ (show k ≠ gb from hk2)⟩ (fun d hd => by cases hd) ⟨x1.setCell (by show gb ≤ gb; omega) _, (Below.heap_setCell _ _ _ _ (show gb + 1 ≠ gb by omega)).trans x2, ?_, imp_dn x4 (by decide), imp_dn x5 (by decide), imp_dn' hd5, imp_dn x7 (by decide)⟩
        rw [heap_setCell_same w1 gb 1 _ _ _ x3]
        simp [nextF, Hf13.out]
    · intro dn f w1 hX hdn hall
      obtain ⟨x1, x2, x3, _⟩ := hX
      obtain ⟨A3, c3, e3, o3⟩ : ∃ A' c', f 10 = .slice A' ns.length c' ∧ OV w1 (fun g => gb + 1 < g) 104 3 A' ns.length c' (nodesV ns) := hall 2 10 (by decide) rfl
      obtain ⟨A4, c4, e4, o4⟩ : ∃ A' c', f 13 = .slice A' ds.length c' ∧ OV w1 (fun g => gb + 1 < g) 78 5 A' ds.length c' (devsV ds) := hall 5 13 (by decide) rfl
      rw [hdn 7 (by decide), hdn 9 (by decide), if_pos rfl, if_pos rfl, e3, e4] at x3
      have HO : OD w w1 bd gb A3 c3 ns A4 c4 ds := ⟨hdk.keep (fun b hb => x1.block b (by omega)) (by have := x1.size; omega), o3, o4, x3, x2, hbd, Fr.of_below x1, hns, hds⟩
      clear hdn hall x1 x2 x3 e3 e4 o3 o4
      simp only [fr, upd, List.mapIdx_cons, List.mapIdx_nil]
      simp
      go_wp2_with fail
      go_meet
      case rel => exact ⟨A3, c3, A4, c4, HO⟩
  case rest =>
    clear hX0 HW0
    obtain ⟨Wc, rfl⟩ : ∃ x, x = wc := ⟨_, rfl⟩
    obtain ⟨A3, c3, A4, c4, O⟩ := hcut
    clear hn hnN hnD W0
    obtain ⟨n1, hn1e⟩ : ∃ x, x = ns.length := ⟨_, rfl⟩
    obtain ⟨n2, hn2e⟩ : ∃ x, x = ds.length := ⟨_, rfl⟩
    have hO1 : ODx w bd gb A3 c3 n1 A4 c4 n2 Wc := ⟨ns, ds, hn1e.symm, hn2e.symm, O⟩
    rw [← hn1e] at hn1 hn2 hl1' ⊢
    rw [← hn2e] at hd1 hd2 ⊢
    have Hn2 := Lib.hid hn2e
    clear O hns hds hn1e hn2e
    have n0 := hO1.k0
    have n1' := hO1.k1
    go_wp2_with (fail)
    go_quiet (fail)
    have hO2 := hO1.below (below_drewN _ _ nq)
    clear n0 n1' hO1
    go_wp2_with (fail)
    refine (next_any _ bd hO2.deck 9 (by decide)).mono ?_
    rintro e w2 ⟨r, rfl, hr, _, hd2', hg2, hz2⟩
    have hO := hO2.fr (Fr.of_grown hg2 (Nat.le_refl _)) hd2'
    have hr9 : r < 9 := by have := hr (by decide); omega
    clear hr hd2' hg2 hz2 hO2 Wc
    have hn1 : 0 < n1 := hn1
    have hn2' : 0 < n2 := hd1
    have H9 : Hid (r = 0) ∨ Hid (r = 1) ∨ Hid (r = 2) ∨ Hid (r = 3) ∨ Hid (r = 4) ∨ Hid (r = 5) ∨ Hid (r = 6) ∨ Hid (r = 7) ∨ Hid (r = 8) := by
      have h9 : r = 0 ∨ r = 1 ∨ r = 2 ∨ r = 3 ∨ r = 4 ∨ r = 5 ∨ r = 6 ∨ r = 7 ∨ r = 8 := by omega
      rcases h9 with h | h | h | h | h | h | h | h | h <;> simp only [Lib.hid h, true_or, or_true]
    go_upto_block 0 with (fail)
    go_cut [] (fun wx => ∃ A5 c5 m2, 1 ≤ m2 ∧ m2 ≤ 125 ∧ ODx w bd gb A3 c3 n1 A5 c5 m2 wx)
    case first =>
      rcases H9 with hk | hk | hk | hk | hk | hk | hk | hk | hk
      · skip
        have b0 : ((r : Int) == 0) = true := by rw [hk.out]; decide
        obtain ⟨ga, oa, rfl⟩ := hO.node_at hn1
        go_wp2_with (fail)
        clear b0
        refine wp_region_ext2X (by kernel_rfl) 13 [39, 40, 41, 42, 43, 44, 45, 46, 47, 48, 49, 50] (Ev bd (some ⟨ga, oa, none⟩)) (fun d v w' => if d = 39 then v = .pointer (some ⟨gb, 0, none⟩) else if d = 40 then v = .slice (some ⟨ga, oa, none⟩) n1 c3 else if d = 41 then v = .pointer (some ⟨bd, 0, none⟩) else if d = 42 then v = .int .i64 (n1 : Nat) else if d = 45 then v = .pointer (some ⟨bd, 0, none⟩) else if d = 43 then ∃ r : Nat, v = .int .i64 r ∧ r < n1 else if d = 44 then ∃ g : Nat, v = .slice (some ⟨g, 0, none⟩) 5 5 ∧ Lits bd (some ⟨ga, oa, none⟩) #[.string ⟨#[]⟩, .string ⟨#[49, 65]⟩, .string ⟨#[78, 48, 48]⟩, .string ⟨#[97, 45, 98]⟩, .string ⟨#[65, 66, 67, 68, 69, 70, 71, 72, 73, 74, 75, 76, 77]⟩] 9 g w' else if d = 46 then ∃ r : Nat, v = .int .i64 r ∧ r < 5 else if d = 47 then ∃ g r : Nat, v = .pointer (some ⟨g, r, none⟩) ∧ r < 5 ∧ Lits bd (some ⟨ga, oa, none⟩) #[.string ⟨#[]⟩, .string ⟨#[49, 65]⟩, .string ⟨#[78, 48, 48]⟩, .string ⟨#[97, 45, 98]⟩, .string ⟨#[65, 66, 67, 68, 69, 70, 71, 72, 73, 74, 75, 76, 77]⟩] 9 g w' else if d = 48 then ∃ u : ByteArray, v = .string u ∧ u.size ≤ maxLen else if d = 49 then ∃ r : Nat, v = .pointer (some ⟨ga, oa + r * 3, none⟩) ∧ r < n1 else if d = 50 then ∃ r : Nat, v = .pointer (some ⟨ga, oa + r * 3 , none⟩) ∧ r < n1 else False) (fun _ _ W' => ODx w bd gb (some ⟨ga, oa, none⟩) c3 n1 A4 c4 n2 W') (by kernel_rfl) (hO.below ((Below.refl _ _).drew)) (fun d v a b hE hT => by
            by_cases h44 : d = 44
            · subst h44
              obtain ⟨g, e1, e2⟩ := hT
              exact ⟨g, e1, e2.ev hE⟩
            by_cases h47 : d = 47
            · subst h47
              obtain ⟨g, r, e1, e2, e3⟩ := hT
              exact ⟨g, r, e1, e2, e3.ev hE⟩
            simp only [if_neg h44, if_neg h47] at hT ⊢
            exact hT) ?_ ?_
        · intro i o hi ho dn f w1 hX hT hni hdn K hK
          have hi' : i = 0 ∨ i = 1 ∨ i = 2 ∨ i = 3 ∨ i = 4 ∨ i = 5 ∨ i = 6 ∨ i = 7 ∨ i = 8 ∨ i = 9 ∨ i = 10 ∨ i = 11 ∨ i = 12 := by omega
          rcases hi' with rfl | rfl | rfl | rfl | rfl | rfl | rfl | rfl | rfl | rfl | rfl | rfl | rfl
          · simp only [List.getElem?_toArray, List.getElem?_cons_zero, Option.some.injEq] at ho
            subst ho
            generalize hA : fr _ _ _ f = A at hK ⊢
            have e3 : A.tmps[3]?.getD undef = .pointer (some ⟨gb, 0, none⟩) := by rw [← hA]; exact fr_out _ _ _ _ 3 _ (by decide) rfl
            clear hA
            have HX := Lib.hid hX
            have HT := Lib.hid hT
            have HN := Lib.hid hni
            have HDN := Lib.hid hdn
            clear hX hT hni hdn
            go_simp
            exact hK _ _ (Ev.refl _ _ _) (fun d hd => by injection hd with hd; subst hd; exact rfl) HX.out
          · simp only [List.getElem?_toArray, List.getElem?_cons_zero, List.getElem?_cons_succ, Option.some.injEq] at ho
            subst ho
            have h39 : f 39 = .pointer (some ⟨gb, 0, none⟩) := hT 0 39 (by decide) rfl (hdn { on := 0, ground := .data } (by simp) rfl)
            generalize hA : fr _ _ _ f = A at hK ⊢
            have e39 : A.tmps[39]?.getD undef = f 39 := by rw [← hA]; exact fr_in _ _ _ _ 39 (by decide) (by simp)
            clear hA
            have HX := Lib.hid hX
            have HT := Lib.hid hT
            have HN := Lib.hid hni
            have HDN := Lib.hid hdn
            clear hX hT hni hdn
            have Hf39 := Lib.hid h39
            rw [h39] at e39
            clear h39
            have hcell := HX.out.k0
            go_simp
            exact hK _ _ (Ev.refl _ _ _) (fun d hd => by injection hd with hd; subst hd; exact rfl) HX.out
          · simp only [List.getElem?_toArray, List.getElem?_cons_zero, List.getElem?_cons_succ, Option.some.injEq] at ho
            subst ho
            generalize hA : fr _ _ _ f = A at hK ⊢
            have e0 : A.tmps[0]?.getD undef = .pointer (some ⟨bd, 0, none⟩) := by rw [← hA]; exact fr_out _ _ _ _ 0 _ (by decide) rfl
            clear hA
            have HX := Lib.hid hX
            have HT := Lib.hid hT
            have HN := Lib.hid hni
            have HDN := Lib.hid hdn
            clear hX hT hni hdn
            go_simp
            exact hK _ _ (Ev.refl _ _ _) (fun d hd => by injection hd with hd; subst hd; exact rfl) HX.out
          · simp only [List.getElem?_toArray, List.getElem?_cons_zero, List.getElem?_cons_succ, Option.some.injEq] at ho
            subst ho
            generalize hA : fr _ _ _ f = A at hK ⊢
            have e5 : A.tmps[5]?.getD undef = .int .i64 (n1 : Nat) := by rw [← hA]; exact fr_out _ _ _ _ 5 _ (by decide) rfl
            clear hA
            have HX := Lib.hid hX
            have HT := Lib.hid hT
            have HN := Lib.hid hni
            have HDN := Lib.hid hdn
            clear hX hT hni hdn
            go_simp
            exact hK _ _ (Ev.refl _ _ _) (fun d hd => by injection hd with hd; subst hd; exact rfl) HX.out
          · simp only [List.getElem?_toArray, List.getElem?_cons_zero, List.getElem?_cons_succ, Option.some.injEq] at ho
            subst ho
            have h41 : f 41 = .pointer (some ⟨bd, 0, none⟩) := hT 2 41 (by decide) rfl (hdn { on := 2, ground := .data } (by simp) rfl)
            have h42 : f 42 = .int .i64 (n1 : Nat) := hT 3 42 (by decide) rfl (hdn { on := 3, ground := .data } (by simp) rfl)
            generalize hA : fr _ _ _ f = A at hK ⊢
            have e41 : A.tmps[41]?.getD undef = f 41 := by rw [← hA]; exact fr_in _ _ _ _ 41 (by decide) (by simp)
            have e42 : A.tmps[42]?.getD undef = f 42 := by rw [← hA]; exact fr_in _ _ _ _ 42 (by decide) (by simp)
            clear hA
            have HX := Lib.hid hX
            have HT := Lib.hid hT
            have HN := Lib.hid hni
            have HDN := Lib.hid hdn
            clear hX hT hni hdn
            have Hf41 := Lib.hid h41
            rw [h41] at e41
            clear h41
            have Hf42 := Lib.hid h42
            rw [h42] at e42
            clear h42
            go_simp
            refine (next_any w1 bd HX.out.deck n1 (by omega)).mono ?_
            rintro e' w2 ⟨r2, rfl, hr2, _, hd2, hg2, hz2⟩
            have hfr := Fr.of_grown (bd := bd) hg2 (Nat.le_refl _)
            have hr3 := hr2 (by omega)
            exact hK _ _ (Ev.fr hfr) (fun d hd => by injection hd with hd; subst hd; exact ⟨r2, rfl, by omega⟩) (HX.out.fr hfr hd2)
          · simp only [List.getElem?_toArray, List.getElem?_cons_zero, List.getElem?_cons_succ, Option.some.injEq] at ho
            subst ho
            generalize hA : fr _ _ _ f = A at hK ⊢
            clear hA
            have HX := Lib.hid hX
            have HT := Lib.hid hT
            have HN := Lib.hid hni
            have HDN := Lib.hid hdn
            clear hX hT hni hdn
            go_simp
            have hnw := HX.out.new
            exact hK _ _ (Ev.alloc _ _ _ _) (fun d hd => by injection hd with hd; subst hd; exact ⟨w1.heap.size, rfl, hnw.1, hnw.2.1, heap_alloc_new w1 _⟩) (HX.out.below ((Below.refl _ _).alloc (Nat.le_refl _) _))
          · simp only [List.getElem?_toArray, List.getElem?_cons_zero, List.getElem?_cons_succ, Option.some.injEq] at ho
            subst ho
            generalize hA : fr _ _ _ f = A at hK ⊢
            have e0 : A.tmps[0]?.getD undef = .pointer (some ⟨bd, 0, none⟩) := by rw [← hA]; exact fr_out _ _ _ _ 0 _ (by decide) rfl
            clear hA
            have HX := Lib.hid hX
            have HT := Lib.hid hT
            have HN := Lib.hid hni
            have HDN := Lib.hid hdn
            clear hX hT hni hdn
            go_simp
            exact hK _ _ (Ev.refl _ _ _) (fun d hd => by injection hd with hd; subst hd; exact rfl) HX.out
          · simp only [List.getElem?_toArray, List.getElem?_cons_zero, List.getElem?_cons_succ, Option.some.injEq] at ho
            subst ho
            have h45 : f 45 = .pointer (some ⟨bd, 0, none⟩) := hT 6 45 (by decide) rfl (hdn { on := 6, ground := .data } (by simp) rfl)
            generalize hA : fr _ _ _ f = A at hK ⊢
            have e45 : A.tmps[45]?.getD undef = f 45 := by rw [← hA]; exact fr_in _ _ _ _ 45 (by decide) (by simp)
            clear hA
            have HX := Lib.hid hX
            have HT := Lib.hid hT
            have HN := Lib.hid hni
            have HDN := Lib.hid hdn
            clear hX hT hni hdn
            have Hf45 := Lib.hid h45
            rw [h45] at e45
            clear h45
            go_simp
            refine (next_any w1 bd HX.out.deck 5 (by omega)).mono ?_
            rintro e' w2 ⟨r2, rfl, hr2, _, hd2, hg2, hz2⟩
            have hfr := Fr.of_grown (bd := bd) hg2 (Nat.le_refl _)
            have hr3 := hr2 (by omega)
            exact hK _ _ (Ev.fr hfr) (fun d hd => by injection hd with hd; subst hd; exact ⟨r2, rfl, by omega⟩) (HX.out.fr hfr hd2)
          · simp only [List.getElem?_toArray, List.getElem?_cons_zero, List.getElem?_cons_succ, Option.some.injEq] at ho
            subst ho
            have h44 : ∃ g : Nat, f 44 = .slice (some ⟨g, 0, none⟩) 5 5 ∧ Lits bd (some ⟨ga, oa, none⟩) #[.string ⟨#[]⟩, .string ⟨#[49, 65]⟩, .string ⟨#[78, 48, 48]⟩, .string ⟨#[97, 45, 98]⟩, .string ⟨#[65, 66, 67, 68, 69, 70, 71, 72, 73, 74, 75, 76, 77]⟩] 9 g w1 := hT 5 44 (by decide) rfl (hdn { on := 5, ground := .data } (by simp) rfl)
            have h46 : ∃ r : Nat, f 46 = .int .i64 r ∧ r < 5 := hT 7 46 (by decide) rfl (hdn { on := 7, ground := .data } (by simp) rfl)
            generalize hA : fr _ _ _ f = A at hK ⊢
            have e44 : A.tmps[44]?.getD undef = f 44 := by rw [← hA]; exact fr_in _ _ _ _ 44 (by decide) (by simp)
            have e46 : A.tmps[46]?.getD undef = f 46 := by rw [← hA]; exact fr_in _ _ _ _ 46 (by decide) (by simp)
            clear hA
            have HX := Lib.hid hX
            have HT := Lib.hid hT
            have HN := Lib.hid hni
            have HDN := Lib.hid hdn
            clear hX hT hni hdn
            obtain ⟨g5, h44, hl5⟩ := h44
            have Hf44 := Lib.hid h44
            rw [h44] at e44
            clear h44
            obtain ⟨r7, h46, hr7⟩ := h46
            have Hf46 := Lib.hid h46
            rw [h46] at e46
            clear h46
            have HL5 := Lib.hid hl5
            have hr7' : (r7 : Int) < 5 := by omega
            clear hl5
            go_simp
            exact hK _ _ (Ev.refl _ _ _) (fun d hd => by injection hd with hd; subst hd; exact ⟨g5, r7, rfl, hr7, HL5.out⟩) HX.out
          · simp only [List.getElem?_toArray, List.getElem?_cons_zero, List.getElem?_cons_succ, Option.some.injEq] at ho
            subst ho
            have h47 : ∃ g r : Nat, f 47 = .pointer (some ⟨g, r, none⟩) ∧ r < 5 ∧ Lits bd (some ⟨ga, oa, none⟩) #[.string ⟨#[]⟩, .string ⟨#[49, 65]⟩, .string ⟨#[78, 48, 48]⟩, .string ⟨#[97, 45, 98]⟩, .string ⟨#[65, 66, 67, 68, 69, 70, 71, 72, 73, 74, 75, 76, 77]⟩] 9 g w1 := hT 8 47 (by decide) rfl (hdn { on := 8, ground := .data } (by simp) rfl)
            generalize hA : fr _ _ _ f = A at hK ⊢
            have e47 : A.tmps[47]?.getD undef = f 47 := by rw [← hA]; exact fr_in _ _ _ _ 47 (by decide) (by simp)
            clear hA
            have HX := Lib.hid hX
            have HT := Lib.hid hT
            have HN := Lib.hid hni
            have HDN := Lib.hid hdn
            clear hX hT hni hdn
            obtain ⟨g8, r8, h47, hr8, hl8⟩ := h47
            have Hf47 := Lib.hid h47
            rw [h47] at e47
            clear h47
            obtain ⟨u9, hu9, hok⟩ := lit_0 r8 hr8
            have hcell : w1.cell? ⟨g8, r8, none⟩ = some (.string u9) := by rw [cell_of_row w1 g8 r8 _ _ _ hl8.2.2]; exact hu9
            clear hl8 hu9
            go_simp
            exact hK _ _ (Ev.refl _ _ _) (fun d hd => by injection hd with hd; subst hd; exact ⟨u9, rfl, hok⟩) HX.out
          · simp only [List.getElem?_toArray, List.getElem?_cons_zero, List.getElem?_cons_succ, Option.some.injEq] at ho
            subst ho
            have h40 : f 40 = .slice (some ⟨ga, oa, none⟩) n1 c3 := hT 1 40 (by decide) rfl (hdn { on := 1, ground := .data } (by simp) rfl)
            have h43 : ∃ r : Nat, f 43 = .int .i64 r ∧ r < n1 := hT 4 43 (by decide) rfl (hdn { on := 4, ground := .data } (by simp) rfl)
            generalize hA : fr _ _ _ f = A at hK ⊢
            have e40 : A.tmps[40]?.getD undef = f 40 := by rw [← hA]; exact fr_in _ _ _ _ 40 (by decide) (by simp)
            have e43 : A.tmps[43]?.getD undef = f 43 := by rw [← hA]; exact fr_in _ _ _ _ 43 (by decide) (by simp)
            clear hA
            have HX := Lib.hid hX
            have HT := Lib.hid hT
            have HN := Lib.hid hni
            have HDN := Lib.hid hdn
            clear hX hT hni hdn
            have Hf40 := Lib.hid h40
            rw [h40] at e40
            clear h40
            obtain ⟨ra, h43, hra⟩ := h43
            have Hf43 := Lib.hid h43
            rw [h43] at e43
            clear h43
            go_simp
            exact hK _ _ (Ev.refl _ _ _) (fun d hd => by injection hd with hd; subst hd; exact ⟨ra, rfl, hra⟩) HX.out
          · simp only [List.getElem?_toArray, List.getElem?_cons_zero, List.getElem?_cons_succ, Option.some.injEq] at ho
            subst ho
            have h49 : ∃ r : Nat, f 49 = .pointer (some ⟨ga, oa + r * 3, none⟩) ∧ r < n1 := hT 10 49 (by decide) rfl (hdn { on := 10, ground := .data } (by simp) rfl)
            generalize hA : fr _ _ _ f = A at hK ⊢
            have e49 : A.tmps[49]?.getD undef = f 49 := by rw [← hA]; exact fr_in _ _ _ _ 49 (by decide) (by simp)
            clear hA
            have HX := Lib.hid hX
            have HT := Lib.hid hT
            have HN := Lib.hid hni
            have HDN := Lib.hid hdn
            clear hX hT hni hdn
            obtain ⟨ra, h49, hra⟩ := h49
            have Hf49 := Lib.hid h49
            rw [h49] at e49
            clear h49
            go_simp
            exact hK _ _ (Ev.refl _ _ _) (fun d hd => by injection hd with hd; subst hd; exact ⟨ra, rfl, hra⟩) HX.out
          · simp only [List.getElem?_toArray, List.getElem?_cons_zero, List.getElem?_cons_succ, Option.some.injEq] at ho
            subst ho
            have h50 : ∃ r : Nat, f 50 = .pointer (some ⟨ga, oa + r * 3 , none⟩) ∧ r < n1 := hT 11 50 (by decide) rfl (hdn { on := 11, ground := .data } (by simp) rfl)
            have h48 : ∃ u : ByteArray, f 48 = .string u ∧ u.size ≤ maxLen := hT 9 48 (by decide) rfl (hdn { on := 9, ground := .data } (by simp) rfl)
            generalize hA : fr _ _ _ f = A at hK ⊢
            have e50 : A.tmps[50]?.getD undef = f 50 := by rw [← hA]; exact fr_in _ _ _ _ 50 (by decide) (by simp)
            have e48 : A.tmps[48]?.getD undef = f 48 := by rw [← hA]; exact fr_in _ _ _ _ 48 (by decide) (by simp)
            clear hA
            have HX := Lib.hid hX
            have HT := Lib.hid hT
            have HN := Lib.hid hni
            have HDN := Lib.hid hdn
            clear hX hT hni hdn
            obtain ⟨ra, h50, hra⟩ := h50
            have Hf50 := Lib.hid h50
            rw [h50] at e50
            clear h50
            obtain ⟨u9, h48, hu9⟩ := h48
            have Hf48 := Lib.hid h48
            rw [h48] at e48
            clear h48
            obtain ⟨⟨q, hc⟩, hfz, hX2⟩ := HX.out.setNode hra (.string u9) (j := 0) (.inl ⟨rfl, _, rfl, hu9⟩) rfl
            rw [Nat.add_zero] at hc hfz hX2
            have HX2 := Lib.hid hX2
            clear hX2
            go_simp
            exact hK undef _ (Ev.set rfl) (fun d hd => by cases hd) HX2.out
        · intro dn f w1 hX hdn hall
          clear hdn hall
          simp only [fr, upd, List.mapIdx_cons, List.mapIdx_nil]
          simp
          go_wp2_with fail
          go_meet
          case rel => exact ⟨_, c4, n2, by omega, by omega, hX⟩
      · skip
        have b0 : ((r : Int) == 0) = false := by rw [hk.out]; decide
        have b1 : ((r : Int) == 1) = true := by rw [hk.out]; decide
        obtain ⟨ga, oa, rfl⟩ := hO.node_at hn1
        go_wp2_with (fail)
        clear b0 b1
        refine wp_region_ext2X (by kernel_rfl) 13 [53, 54, 55, 56, 57, 58, 59, 60, 61, 62, 63, 64] (Ev bd (some ⟨ga, oa, none⟩)) (fun d v w' => if d = 53 then v = .pointer (some ⟨gb, 0, none⟩) else if d = 54 then v = .slice (some ⟨ga, oa, none⟩) n1 c3 else if d = 55 then v = .pointer (some ⟨bd, 0, none⟩) else if d = 56 then v = .int .i64 (n1 : Nat) else if d = 59 then v = .pointer (some ⟨bd, 0, none⟩) else if d = 57 then ∃ r : Nat, v = .int .i64 r ∧ r < n1 else if d = 58 then ∃ g : Nat, v = .slice (some ⟨g, 0, none⟩) 3 3 ∧ Lits bd (some ⟨ga, oa, none⟩) #[.int .i64 (-1), .int .i64 1048576, .int .i64 1048577] 3 g w' else if d = 60 then ∃ r : Nat, v = .int .i64 r ∧ r < 3 else if d = 61 then ∃ g r : Nat, v = .pointer (some ⟨g, r, none⟩) ∧ r < 3 ∧ Lits bd (some ⟨ga, oa, none⟩) #[.int .i64 (-1), .int .i64 1048576, .int .i64 1048577] 3 g w' else if d = 62 then ∃ u : Int, v = .int .i64 u else if d = 63 then ∃ r : Nat, v = .pointer (some ⟨ga, oa + r * 3, none⟩) ∧ r < n1 else if d = 64 then ∃ r : Nat, v = .pointer (some ⟨ga, oa + r * 3 + 1, none⟩) ∧ r < n1 else False) (fun _ _ W' => ODx w bd gb (some ⟨ga, oa, none⟩) c3 n1 A4 c4 n2 W') (by kernel_rfl) (hO.below ((Below.refl _ _).drew)) (fun d v a b hE hT => by
            by_cases h58 : d = 58
            · subst h58
              obtain ⟨g, e1, e2⟩ := hT
              exact ⟨g, e1, e2.ev hE⟩
            by_cases h61 : d = 61
            · subst h61
              obtain ⟨g, r, e1, e2, e3⟩ := hT
              exact ⟨g, r, e1, e2, e3.ev hE⟩
            simp only [if_neg h58, if_neg h61] at hT ⊢
            exact hT) ?_ ?_
        · intro i o hi ho dn f w1 hX hT hni hdn K hK
          have hi' : i = 0 ∨ i = 1 ∨ i = 2 ∨ i = 3 ∨ i = 4 ∨ i = 5 ∨ i = 6 ∨ i = 7 ∨ i = 8 ∨ i = 9 ∨ i = 10 ∨ i = 11 ∨ i = 12 := by omega
          rcases hi' with rfl | rfl | rfl | rfl | rfl | rfl | rfl | rfl | rfl | rfl | rfl | rfl | rfl
          · simp only [List.getElem?_toArray, List.getElem?_cons_zero, Option.some.injEq] at ho
            subst ho
            generalize hA : fr _ _ _ f = A at hK ⊢
            have e3 : A.tmps[3]?.getD undef = .pointer (some ⟨gb, 0, none⟩) := by rw [← hA]; exact fr_out _ _ _ _ 3 _ (by decide) rfl
            clear hA
            have HX := Lib.hid hX
            have HT := Lib.hid hT
            have HN := Lib.hid hni
            have HDN := Lib.hid hdn
            clear hX hT hni hdn
            go_simp
            exact hK _ _ (Ev.refl _ _ _) (fun d hd => by injection hd with hd; subst hd; exact rfl) HX.out
          · simp only [List.getElem?_toArray, List.getElem?_cons_zero, List.getElem?_cons_succ, Option.some.injEq] at ho
            subst ho
            have h53 : f 53 = .pointer (some ⟨gb, 0, none⟩) := hT 0 53 (by decide) rfl (hdn { on := 0, ground := .data } (by simp) rfl)
            generalize hA : fr _ _ _ f = A at hK ⊢
            have e53 : A.tmps[53]?.getD undef = f 53 := by rw [← hA]; exact fr_in _ _ _ _ 53 (by decide) (by simp)
            clear hA
            have HX := Lib.hid hX
            have HT := Lib.hid hT
            have HN := Lib.hid hni
            have HDN := Lib.hid hdn
            clear hX hT hni hdn
            have Hf53 := Lib.hid h53
            rw [h53] at e53
            clear h53
            have hcell := HX.out.k0
            go_simp
            exact hK _ _ (Ev.refl _ _ _) (fun d hd => by injection hd with hd; subst hd; exact rfl) HX.out
          · simp only [List.getElem?_toArray, List.getElem?_cons_zero, List.getElem?_cons_succ, Option.some.injEq] at ho
            subst ho
            generalize hA : fr _ _ _ f = A at hK ⊢
            have e0 : A.tmps[0]?.getD undef = .pointer (some ⟨bd, 0, none⟩) := by rw [← hA]; exact fr_out _ _ _ _ 0 _ (by decide) rfl
            clear hA
            have HX := Lib.hid hX
            have HT := Lib.hid hT
            have HN := Lib.hid hni
            have HDN := Lib.hid hdn
            clear hX hT hni hdn
            go_simp
            exact hK _ _ (Ev.refl _ _ _) (fun d hd => by injection hd with hd; subst hd; exact rfl) HX.out
          · simp only [List.getElem?_toArray, List.getElem?_cons_zero, List.getElem?_cons_succ, Option.some.injEq] at ho
            subst ho
            generalize hA : fr _ _ _ f = A at hK ⊢
            have e5 : A.tmps[5]?.getD undef = .int .i64 (n1 : Nat) := by rw [← hA]; exact fr_out _ _ _ _ 5 _ (by decide) rfl
            clear hA
            have HX := Lib.hid hX
            have HT := Lib.hid hT
            have HN := Lib.hid hni
            have HDN := Lib.hid hdn
            clear hX hT hni hdn
            go_simp
            exact hK _ _ (Ev.refl _ _ _) (fun d hd => by injection hd with hd; subst hd; exact rfl) HX.out
          · simp only [List.getElem?_toArray, List.getElem?_cons_zero, List.getElem?_cons_succ, Option.some.injEq] at ho
            subst ho
            have h55 : f 55 = .pointer (some ⟨bd, 0, none⟩) := hT 2 55 (by decide) rfl (hdn { on := 2, ground := .data } (by simp) rfl)
            have h56 : f 56 = .int .i64 (n1 : Nat) := hT 3 56 (by decide) rfl (hdn { on := 3, ground := .data } (by simp) rfl)
            generalize hA : fr _ _ _ f = A at hK ⊢
            have e55 : A.tmps[55]?.getD undef = f 55 := by rw [← hA]; exact fr_in _ _ _ _ 55 (by decide) (by simp)
            have e56 : A.tmps[56]?.getD undef = f 56 := by rw [← hA]; exact fr_in _ _ _ _ 56 (by decide) (by simp)
            clear hA
            have HX := Lib.hid hX
            have HT := Lib.hid hT
            have HN := Lib.hid hni
            have HDN := Lib.hid hdn
            clear hX hT hni hdn
            have Hf55 := Lib.hid h55
            rw [h55] at e55
            clear h55
            have Hf56 := Lib.hid h56
            rw [h56] at e56
            clear h56
            go_simp
            refine (next_any w1 bd HX.out.deck n1 (by omega)).mono ?_
            rintro e' w2 ⟨r2, rfl, hr2, _, hd2, hg2, hz2⟩
            have hfr := Fr.of_grown (bd := bd) hg2 (Nat.le_refl _)
            have hr3 := hr2 (by omega)
            exact hK _ _ (Ev.fr hfr) (fun d hd => by injection hd with hd; subst hd; exact ⟨r2, rfl, by omega⟩) (HX.out.fr hfr hd2)
          · simp only [List.getElem?_toArray, List.getElem?_cons_zero, List.getElem?_cons_succ, Option.some.injEq] at ho
            subst ho
            generalize hA : fr _ _ _ f = A at hK ⊢
            clear hA
            have HX := Lib.hid hX
            have HT := Lib.hid hT
            have HN := Lib.hid hni
            have HDN := Lib.hid hdn
            clear hX hT hni hdn
            go_simp
            have hnw := HX.out.new
            exact hK _ _ (Ev.alloc _ _ _ _) (fun d hd => by injection hd with hd; subst hd; exact ⟨w1.heap.size, rfl, hnw.1, hnw.2.1, heap_alloc_new w1 _⟩) (HX.out.below ((Below.refl _ _).alloc (Nat.le_refl _) _))
          · simp only [List.getElem?_toArray, List.getElem?_cons_zero, List.getElem?_cons_succ, Option.some.injEq] at ho
            subst ho
            generalize hA : fr _ _ _ f = A at hK ⊢
            have e0 : A.tmps[0]?.getD undef = .pointer (some ⟨bd, 0, none⟩) := by rw [← hA]; exact fr_out _ _ _ _ 0 _ (by decide) rfl
            clear hA
            have HX := Lib.hid hX
            have HT := Lib.hid hT
            have HN := Lib.hid hni
            have HDN := Lib.hid hdn
            clear hX hT hni hdn
            go_simp
            exact hK _ _ (Ev.refl _ _ _) (fun d hd => by injection hd with hd; subst hd; exact rfl) HX.out
          · simp only [List.getElem?_toArray, List.getElem?_cons_zero, List.getElem?_cons_succ, Option.some.injEq] at ho
            subst ho
            have h59 : f 59 = .pointer (some ⟨bd, 0, none⟩) := hT 6 59 (by decide) rfl (hdn { on := 6, ground := .data } (by simp) rfl)
            generalize hA : fr _ _ _ f = A at hK ⊢
            have e59 : A.tmps[59]?.getD undef = f 59 := by rw [← hA]; exact fr_in _ _ _ _ 59 (by decide) (by simp)
            clear hA
            have HX := Lib.hid hX
            have HT := Lib.hid hT
            have HN := Lib.hid hni
            have HDN := Lib.hid hdn
            clear hX hT hni hdn
            have Hf59 := Lib.hid h59
            rw [h59] at e59
            clear h59
            go_simp
            refine (next_any w1 bd HX.out.deck 3 (by omega)).mono ?_
            rintro e' w2 ⟨r2, rfl, hr2, _, hd2, hg2, hz2⟩
            have hfr := Fr.of_grown (bd := bd) hg2 (Nat.le_refl _)
            have hr3 := hr2 (by omega)
            exact hK _ _ (Ev.fr hfr) (fun d hd => by injection hd with hd; subst hd; exact ⟨r2, rfl, by omega⟩) (HX.out.fr hfr hd2)
          · simp only [List.getElem?_toArray, List.getElem?_cons_zero, List.getElem?_cons_succ, Option.some.injEq] at ho
            subst ho
            have h58 : ∃ g : Nat, f 58 = .slice (some ⟨g, 0, none⟩) 3 3 ∧ Lits bd (some ⟨ga, oa, none⟩) #[.int .i64 (-1), .int .i64 1048576, .int .i64 1048577] 3 g w1 := hT 5 58 (by decide) rfl (hdn { on := 5, ground := .data } (by simp) rfl)
            have h60 : ∃ r : Nat, f 60 = .int .i64 r ∧ r < 3 := hT 7 60 (by decide) rfl (hdn { on := 7, ground := .data } (by simp) rfl)
            generalize hA : fr _ _ _ f = A at hK ⊢
            have e58 : A.tmps[58]?.getD undef = f 58 := by rw [← hA]; exact fr_in _ _ _ _ 58 (by decide) (by simp)
            have e60 : A.tmps[60]?.getD undef = f 60 := by rw [← hA]; exact fr_in _ _ _ _ 60 (by decide) (by simp)
            clear hA
            have HX := Lib.hid hX
            have HT := Lib.hid hT
            have HN := Lib.hid hni
            have HDN := Lib.hid hdn
            clear hX hT hni hdn
            obtain ⟨g5, h58, hl5⟩ := h58
            have Hf58 := Lib.hid h58
            rw [h58] at e58
            clear h58
            obtain ⟨r7, h60, hr7⟩ := h60
            have Hf60 := Lib.hid h60
            rw [h60] at e60
            clear h60
            have HL5 := Lib.hid hl5
            have hr7' : (r7 : Int) < 3 := by omega
            clear hl5
            go_simp
            exact hK _ _ (Ev.refl _ _ _) (fun d hd => by injection hd with hd; subst hd; exact ⟨g5, r7, rfl, hr7, HL5.out⟩) HX.out
          · simp only [List.getElem?_toArray, List.getElem?_cons_zero, List.getElem?_cons_succ, Option.some.injEq] at ho
            subst ho
            have h61 : ∃ g r : Nat, f 61 = .pointer (some ⟨g, r, none⟩) ∧ r < 3 ∧ Lits bd (some ⟨ga, oa, none⟩) #[.int .i64 (-1), .int .i64 1048576, .int .i64 1048577] 3 g w1 := hT 8 61 (by decide) rfl (hdn { on := 8, ground := .data } (by simp) rfl)
            generalize hA : fr _ _ _ f = A at hK ⊢
            have e61 : A.tmps[61]?.getD undef = f 61 := by rw [← hA]; exact fr_in _ _ _ _ 61 (by decide) (by simp)
            clear hA
            have HX := Lib.hid hX
            have HT := Lib.hid hT
            have HN := Lib.hid hni
            have HDN := Lib.hid hdn
            clear hX hT hni hdn
            obtain ⟨g8, r8, h61, hr8, hl8⟩ := h61
            have Hf61 := Lib.hid h61
            rw [h61] at e61
            clear h61
            obtain ⟨u9, hu9⟩ := lit_1 r8 hr8
            have hcell : w1.cell? ⟨g8, r8, none⟩ = some (.int .i64 u9) := by rw [cell_of_row w1 g8 r8 _ _ _ hl8.2.2]; exact hu9
            clear hl8 hu9
            go_simp
            exact hK _ _ (Ev.refl _ _ _) (fun d hd => by injection hd with hd; subst hd; exact ⟨u9, rfl⟩) HX.out
          · simp only [List.getElem?_toArray, List.getElem?_cons_zero, List.getElem?_cons_succ, Option.some.injEq] at ho
            subst ho
            have h54 : f 54 = .slice (some ⟨ga, oa, none⟩) n1 c3 := hT 1 54 (by decide) rfl (hdn { on := 1, ground := .data } (by simp) rfl)
            have h57 : ∃ r : Nat, f 57 = .int .i64 r ∧ r < n1 := hT 4 57 (by decide) rfl (hdn { on := 4, ground := .data } (by simp) rfl)
            generalize hA : fr _ _ _ f = A at hK ⊢
            have e54 : A.tmps[54]?.getD undef = f 54 := by rw [← hA]; exact fr_in _ _ _ _ 54 (by decide) (by simp)
            have e57 : A.tmps[57]?.getD undef = f 57 := by rw [← hA]; exact fr_in _ _ _ _ 57 (by decide) (by simp)
            clear hA
            have HX := Lib.hid hX
            have HT := Lib.hid hT
            have HN := Lib.hid hni
            have HDN := Lib.hid hdn
            clear hX hT hni hdn
            have Hf54 := Lib.hid h54
            rw [h54] at e54
            clear h54
            obtain ⟨ra, h57, hra⟩ := h57
            have Hf57 := Lib.hid h57
            rw [h57] at e57
            clear h57
            go_simp
            exact hK _ _ (Ev.refl _ _ _) (fun d hd => by injection hd with hd; subst hd; exact ⟨ra, rfl, hra⟩) HX.out
          · simp only [List.getElem?_toArray, List.getElem?_cons_zero, List.getElem?_cons_succ, Option.some.injEq] at ho
            subst ho
            have h63 : ∃ r : Nat, f 63 = .pointer (some ⟨ga, oa + r * 3, none⟩) ∧ r < n1 := hT 10 63 (by decide) rfl (hdn { on := 10, ground := .data } (by simp) rfl)
            generalize hA : fr _ _ _ f = A at hK ⊢
            have e63 : A.tmps[63]?.getD undef = f 63 := by rw [← hA]; exact fr_in _ _ _ _ 63 (by decide) (by simp)
            clear hA
            have HX := Lib.hid hX
            have HT := Lib.hid hT
            have HN := Lib.hid hni
            have HDN := Lib.hid hdn
            clear hX hT hni hdn
            obtain ⟨ra, h63, hra⟩ := h63
            have Hf63 := Lib.hid h63
            rw [h63] at e63
            clear h63
            go_simp
            exact hK _ _ (Ev.refl _ _ _) (fun d hd => by injection hd with hd; subst hd; exact ⟨ra, rfl, hra⟩) HX.out
          · simp only [List.getElem?_toArray, List.getElem?_cons_zero, List.getElem?_cons_succ, Option.some.injEq] at ho
            subst ho
            have h64 : ∃ r : Nat, f 64 = .pointer (some ⟨ga, oa + r * 3 + 1, none⟩) ∧ r < n1 := hT 11 64 (by decide) rfl (hdn { on := 11, ground := .data } (by simp) rfl)
            have h62 : ∃ u : Int, f 62 = .int .i64 u := hT 9 62 (by decide) rfl (hdn { on := 9, ground := .data } (by simp) rfl)
            generalize hA : fr _ _ _ f = A at hK ⊢
            have e64 : A.tmps[64]?.getD undef = f 64 := by rw [← hA]; exact fr_in _ _ _ _ 64 (by decide) (by simp)
            have e62 : A.tmps[62]?.getD undef = f 62 := by rw [← hA]; exact fr_in _ _ _ _ 62 (by decide) (by simp)
            clear hA
            have HX := Lib.hid hX
            have HT := Lib.hid hT
            have HN := Lib.hid hni
            have HDN := Lib.hid hdn
            clear hX hT hni hdn
            obtain ⟨ra, h64, hra⟩ := h64
            have Hf64 := Lib.hid h64
            rw [h64] at e64
            clear h64
            obtain ⟨u9, h62⟩ := h62
            have Hf62 := Lib.hid h62
            rw [h62] at e62
            clear h62
            obtain ⟨⟨q, hc⟩, hfz, hX2⟩ := HX.out.setNode hra (.int .i64 u9) (j := 1) (.inr ⟨by decide, _, rfl⟩) rfl
            have HX2 := Lib.hid hX2
            clear hX2
            go_simp
            exact hK undef _ (Ev.set rfl) (fun d hd => by cases hd) HX2.out
        · intro dn f w1 hX hdn hall
          clear hdn hall
          simp only [fr, upd, List.mapIdx_cons, List.mapIdx_nil]
          simp
          go_wp2_with fail
          go_meet
          case rel => exact ⟨_, c4, n2, by omega, by omega, hX⟩
      · skip
        have b0 : ((r : Int) == 0) = false := by rw [hk.out]; decide
        have b1 : ((r : Int) == 1) = false := by rw [hk.out]; decide
        have b2 : ((r : Int) == 2) = true := by rw [hk.out]; decide
        obtain ⟨ga, oa, rfl⟩ := hO.node_at hn1
        go_wp2_with (fail)
        clear b0 b1 b2
        refine wp_region_ext2X (by kernel_rfl) 13 [67, 68, 69, 70, 71, 72, 73, 74, 75, 76, 77, 78] (Ev bd (some ⟨ga, oa, none⟩)) (fun d v w' => if d = 67 then v = .pointer (some ⟨gb, 0, none⟩) else if d = 68 then v = .slice (some ⟨ga, oa, none⟩) n1 c3 else if d = 69 then v = .pointer (some ⟨bd, 0, none⟩) else if d = 70 then v = .int .i64 (n1 : Nat) else if d = 73 then v = .pointer (some ⟨bd, 0, none⟩) else if d = 71 then ∃ r : Nat, v = .int .i64 r ∧ r < n1 else if d = 72 then ∃ g : Nat, v = .slice (some ⟨g, 0, none⟩) 3 3 ∧ Lits bd (some ⟨ga, oa, none⟩) #[.int .i64 (-1), .int .i64 7, .int .i64 8] 3 g w' else if d = 74 then ∃ r : Nat, v = .int .i64 r ∧ r < 3 else if d = 75 then ∃ g r : Nat, v = .pointer (some ⟨g, r, none⟩) ∧ r < 3 ∧ Lits bd (some ⟨ga, oa, none⟩) #[.int .i64 (-1), .int .i64 7, .int .i64 8] 3 g w' else if d = 76 then ∃ u : Int, v = .int .i64 u else if d = 77 then ∃ r : Nat, v = .pointer (some ⟨ga, oa + r * 3, none⟩) ∧ r < n1 else if d = 78 then ∃ r : Nat, v = .pointer (some ⟨ga, oa + r * 3 + 2, none⟩) ∧ r < n1 else False) (fun _ _ W' => ODx w bd gb (some ⟨ga, oa, none⟩) c3 n1 A4 c4 n2 W') (by kernel_rfl) (hO.below ((Below.refl _ _).drew)) (fun d v a b hE hT => by
            by_cases h72 : d = 72
            · subst h72
              obtain ⟨g, e1, e2⟩ := hT
              exact ⟨g, e1, e2.ev hE⟩
            by_cases h75 : d = 75
            · subst h75
              obtain ⟨g, r, e1, e2, e3⟩ := hT
              exact ⟨g, r, e1, e2, e3.ev hE⟩
            simp only [if_neg h72, if_neg h75] at hT ⊢
            exact hT) ?_ ?_
        · intro i o hi ho dn f w1 hX hT hni hdn K hK
          have hi' : i = 0 ∨ i = 1 ∨ i = 2 ∨ i = 3 ∨ i = 4 ∨ i = 5 ∨ i = 6 ∨ i = 7 ∨ i = 8 ∨ i = 9 ∨ i = 10 ∨ i = 11 ∨ i = 12 := by omega
          rcases hi' with rfl | rfl | rfl | rfl | rfl | rfl | rfl | rfl | rfl | rfl | rfl | rfl | rfl
          · simp only [List.getElem?_toArray, List.getElem?_cons_zero, Option.some.injEq] at ho
            subst ho
            generalize hA : fr _ _ _ f = A at hK ⊢
            have e3 : A.tmps[3]?.getD undef = .pointer (some ⟨gb, 0, none⟩) := by rw [← hA]; exact fr_out _ _ _ _ 3 _ (by decide) rfl
            clear hA
            have HX := Lib.hid hX
            have HT := Lib.hid hT
            have HN := Lib.hid hni
            have HDN := Lib.hid hdn
            clear hX hT hni hdn
            go_simp
            exact hK _ _ (Ev.refl _ _ _) (fun d hd => by injection hd with hd; subst hd; exact rfl) HX.out
          · simp only [List.getElem?_toArray, List.getElem?_cons_zero, List.getElem?_cons_succ, Option.some.injEq] at ho
            subst ho
            have h67 : f 67 = .pointer (some ⟨gb, 0, none⟩) := hT 0 67 (by decide) rfl (hdn { on := 0, ground := .data } (by simp) rfl)
            generalize hA : fr _ _ _ f = A at hK ⊢
            have e67 : A.tmps[67]?.getD undef = f 67 := by rw [← hA]; exact fr_in _ _ _ _ 67 (by decide) (by simp)
            clear hA
            have HX := Lib.hid hX
            have HT := Lib.hid hT
            have HN := Lib.hid hni
            have HDN := Lib.hid hdn
            clear hX hT hni hdn
            have Hf67 := Lib.hid h67
            rw [h67] at e67
            clear h67
            have hcell := HX.out.k0
            go_simp
            exact hK _ _ (Ev.refl _ _ _) (fun d hd => by injection hd with hd; subst hd; exact rfl) HX.out
          · simp only [List.getElem?_toArray, List.getElem?_cons_zero, List.getElem?_cons_succ, Option.some.injEq] at ho
            subst ho
            generalize hA : fr _ _ _ f = A at hK ⊢
            have e0 : A.tmps[0]?.getD undef = .pointer (some ⟨bd, 0, none⟩) := by rw [← hA]; exact fr_out _ _ _ _ 0 _ (by decide) rfl
            clear hA
            have HX := Lib.hid hX
            have HT := Lib.hid hT
            have HN := Lib.hid hni
            have HDN := Lib.hid hdn
            clear hX hT hni hdn
            go_simp
            exact hK _ _ (Ev.refl _ _ _) (fun d hd => by injection hd with hd; subst hd; exact rfl) HX.out
          · simp only [List.getElem?_toArray, List.getElem?_cons_zero, List.getElem?_cons_succ, Option.some.injEq] at ho
            subst ho
            generalize hA : fr _ _ _ f = A at hK ⊢
            have e5 : A.tmps[5]?.getD undef = .int .i64 (n1 : Nat) := by rw [← hA]; exact fr_out _ _ _ _ 5 _ (by decide) rfl
            clear hA
            have HX := Lib.hid hX
            have HT := Lib.hid hT
            have HN := Lib.hid hni
            have HDN := Lib.hid hdn
            clear hX hT hni hdn
            go_simp
            exact hK _ _ (Ev.refl _ _ _) (fun d hd => by injection hd with hd; subst hd; exact rfl) HX.out
          · simp only [List.getElem?_toArray, List.getElem?_cons_zero, List.getElem?_cons_succ, Option.some.injEq] at ho
            subst ho
            have h69 : f 69 = .pointer (some ⟨bd, 0, none⟩) := hT 2 69 (by decide) rfl (hdn { on := 2, ground := .data } (by simp) rfl)
            have h70 : f 70 = .int .i64 (n1 : Nat) := hT 3 70 (by decide) rfl (hdn { on := 3, ground := .data } (by simp) rfl)
            generalize hA : fr _ _ _ f = A at hK ⊢
            have e69 : A.tmps[69]?.getD undef = f 69 := by rw [← hA]; exact fr_in _ _ _ _ 69 (by decide) (by simp)
            have e70 : A.tmps[70]?.getD undef = f 70 := by rw [← hA]; exact fr_in _ _ _ _ 70 (by decide) (by simp)
            clear hA
            have HX := Lib.hid hX
            have HT := Lib.hid hT
            have HN := Lib.hid hni
            have HDN := Lib.hid hdn
            clear hX hT hni hdn
            have Hf69 := Lib.hid h69
            rw [h69] at e69
            clear h69
            have Hf70 := Lib.hid h70
            rw [h70] at e70
            clear h70
            go_simp
            refine (next_any w1 bd HX.out.deck n1 (by omega)).mono ?_
            rintro e' w2 ⟨r2, rfl, hr2, _, hd2, hg2, hz2⟩
            have hfr := Fr.of_grown (bd := bd) hg2 (Nat.le_refl _)
            have hr3 := hr2 (by omega)
            exact hK _ _ (Ev.fr hfr) (fun d hd => by injection hd with hd; subst hd; exact ⟨r2, rfl, by omega⟩) (HX.out.fr hfr hd2)
          · simp only [List.getElem?_toArray, List.getElem?_cons_zero, List.getElem?_cons_succ, Option.some.injEq] at ho
            subst ho
            generalize hA : fr _ _ _ f = A at hK ⊢
            clear hA
            have HX := Lib.hid hX
            have HT := Lib.hid hT
            have HN := Lib.hid hni
            have HDN := Lib.hid hdn
            clear hX hT hni hdn
            go_simp
            have hnw := HX.out.new
            exact hK _ _ (Ev.alloc _ _ _ _) (fun d hd => by injection hd with hd; subst hd; exact ⟨w1.heap.size, rfl, hnw.1, hnw.2.1, heap_alloc_new w1 _⟩) (HX.out.below ((Below.refl _ _).alloc (Nat.le_refl _) _))
          · simp only [List.getElem?_toArray, List.getElem?_cons_zero, List.getElem?_cons_succ, Option.some.injEq] at ho
            subst ho
            generalize hA : fr _ _ _ f = A at hK ⊢
            have e0 : A.tmps[0]?.getD undef = .pointer (some ⟨bd, 0, none⟩) := by rw [← hA]; exact fr_out _ _ _ _ 0 _ (by decide) rfl
            clear hA
            have HX := Lib.hid hX
            have HT := Lib.hid hT
            have HN := Lib.hid hni
            have HDN := Lib.hid hdn
            clear hX hT hni hdn
            go_simp
            exact hK _ _ (Ev.refl _ _ _) (fun d hd => by injection hd with hd; subst hd; exact rfl) HX.out
          · simp only [List.getElem?_toArray, List.getElem?_cons_zero, List.getElem?_cons_succ, Option.some.injEq] at ho
            subst ho
            have h73 : f 73 = .pointer (some ⟨bd, 0, none⟩) := hT 6 73 (by decide) rfl (hdn { on := 6, ground := .data } (by simp) rfl)
            generalize hA : fr _ _ _ f = A at hK ⊢
            have e73 : A.tmps[73]?.getD undef = f 73 := by rw [← hA]; exact fr_in _ _ _ _ 73 (by decide) (by simp)
            clear hA
            have HX := Lib.hid hX
            have HT := Lib.hid hT
            have HN := Lib.hid hni
            have HDN := Lib.hid hdn
            clear hX hT hni hdn
            have Hf73 := Lib.hid h73
            rw [h73] at e73
            clear h73
            go_simp
            refine (next_any w1 bd HX.out.deck 3 (by omega)).mono ?_
            rintro e' w2 ⟨r2, rfl, hr2, _, hd2, hg2, hz2⟩
            have hfr := Fr.of_grown (bd := bd) hg2 (Nat.le_refl _)
            have hr3 := hr2 (by omega)
            exact hK _ _ (Ev.fr hfr) (fun d hd => by injection hd with hd; subst hd; exact ⟨r2, rfl, by omega⟩) (HX.out.fr hfr hd2)
          · simp only [List.getElem?_toArray, List.getElem?_cons_zero, List.getElem?_cons_succ, Option.some.injEq] at ho
            subst ho
            have h72 : ∃ g : Nat, f 72 = .slice (some ⟨g, 0, none⟩) 3 3 ∧ Lits bd (some ⟨ga, oa, none⟩) #[.int .i64 (-1), .int .i64 7, .int .i64 8] 3 g w1 := hT 5 72 (by decide) rfl (hdn { on := 5, ground := .data } (by simp) rfl)
            have h74 : ∃ r : Nat, f 74 = .int .i64 r ∧ r < 3 := hT 7 74 (by decide) rfl (hdn { on := 7, ground := .data } (by simp) rfl)
            generalize hA : fr _ _ _ f = A at hK ⊢
            have e72 : A.tmps[72]?.getD undef = f 72 := by rw [← hA]; exact fr_in _ _ _ _ 72 (by decide) (by simp)
            have e74 : A.tmps[74]?.getD undef = f 74 := by rw [← hA]; exact fr_in _ _ _ _ 74 (by decide) (by simp)
            clear hA
            have HX := Lib.hid hX
            have HT := Lib.hid hT
            have HN := Lib.hid hni
            have HDN := Lib.hid hdn
            clear hX hT hni hdn
            obtain ⟨g5, h72, hl5⟩ := h72
            have Hf72 := Lib.hid h72
            rw [h72] at e72
            clear h72
            obtain ⟨r7, h74, hr7⟩ := h74
            have Hf74 := Lib.hid h74
            rw [h74] at e74
            clear h74
            have HL5 := Lib.hid hl5
            have hr7' : (r7 : Int) < 3 := by omega
            clear hl5
            go_simp
            exact hK _ _ (Ev.refl _ _ _) (fun d hd => by injection hd with hd; subst hd; exact ⟨g5, r7, rfl, hr7, HL5.out⟩) HX.out
          · simp only [List.getElem?_toArray, List.getElem?_cons_zero, List.getElem?_cons_succ, Option.some.injEq] at ho
            subst ho
            have h75 : ∃ g r : Nat, f 75 = .pointer (some ⟨g, r, none⟩) ∧ r < 3 ∧ Lits bd (some ⟨ga, oa, none⟩) #[.int .i64 (-1), .int .i64 7, .int .i64 8] 3 g w1 := hT 8 75 (by decide) rfl (hdn { on := 8, ground := .data } (by simp) rfl)
            generalize hA : fr _ _ _ f = A at hK ⊢
            have e75 : A.tmps[75]?.getD undef = f 75 := by rw [← hA]; exact fr_in _ _ _ _ 75 (by decide) (by simp)
            clear hA
            have HX := Lib.hid hX
            have HT := Lib.hid hT
            have HN := Lib.hid hni
            have HDN := Lib.hid hdn
            clear hX hT hni hdn
            obtain ⟨g8, r8, h75, hr8, hl8⟩ := h75
            have Hf75 := Lib.hid h75
            rw [h75] at e75
            clear h75
            obtain ⟨u9, hu9⟩ := lit_2 r8 hr8
            have hcell : w1.cell? ⟨g8, r8, none⟩ = some (.int .i64 u9) := by rw [cell_of_row w1 g8 r8 _ _ _ hl8.2.2]; exact hu9
            clear hl8 hu9
            go_simp
            exact hK _ _ (Ev.refl _ _ _) (fun d hd => by injection hd with hd; subst hd; exact ⟨u9, rfl⟩) HX.out
          · simp only [List.getElem?_toArray, List.getElem?_cons_zero, List.getElem?_cons_succ, Option.some.injEq] at ho
            subst ho
            have h68 : f 68 = .slice (some ⟨ga, oa, none⟩) n1 c3 := hT 1 68 (by decide) rfl (hdn { on := 1, ground := .data } (by simp) rfl)
            have h71 : ∃ r : Nat, f 71 = .int .i64 r ∧ r < n1 := hT 4 71 (by decide) rfl (hdn { on := 4, ground := .data } (by simp) rfl)
            generalize hA : fr _ _ _ f = A at hK ⊢
            have e68 : A.tmps[68]?.getD undef = f 68 := by rw [← hA]; exact fr_in _ _ _ _ 68 (by decide) (by simp)
            have e71 : A.tmps[71]?.getD undef = f 71 := by rw [← hA]; exact fr_in _ _ _ _ 71 (by decide) (by simp)
            clear hA
            have HX := Lib.hid hX
            have HT := Lib.hid hT
            have HN := Lib.hid hni
            have HDN := Lib.hid hdn
            clear hX hT hni hdn
            have Hf68 := Lib.hid h68
            rw [h68] at e68
            clear h68
            obtain ⟨ra, h71, hra⟩ := h71
            have Hf71 := Lib.hid h71
            rw [h71] at e71
            clear h71
            go_simp
            exact hK _ _ (Ev.refl _ _ _) (fun d hd => by injection hd with hd; subst hd; exact ⟨ra, rfl, hra⟩) HX.out
          · simp only [List.getElem?_toArray, List.getElem?_cons_zero, List.getElem?_cons_succ, Option.some.injEq] at ho
            subst ho
            have h77 : ∃ r : Nat, f 77 = .pointer (some ⟨ga, oa + r * 3, none⟩) ∧ r < n1 := hT 10 77 (by decide) rfl (hdn { on := 10, ground := .data } (by simp) rfl)
            generalize hA : fr _ _ _ f = A at hK ⊢
            have e77 : A.tmps[77]?.getD undef = f 77 := by rw [← hA]; exact fr_in _ _ _ _ 77 (by decide) (by simp)
            clear hA
            have HX := Lib.hid hX
            have HT := Lib.hid hT
            have HN := Lib.hid hni
            have HDN := Lib.hid hdn
            clear hX hT hni hdn
            obtain ⟨ra, h77, hra⟩ := h77
            have Hf77 := Lib.hid h77
            rw [h77] at e77
            clear h77
            go_simp
            exact hK _ _ (Ev.refl _ _ _) (fun d hd => by injection hd with hd; subst hd; exact ⟨ra, rfl, hra⟩) HX.out
          · simp only [List.getElem?_toArray, List.getElem?_cons_zero, List.getElem?_cons_succ, Option.some.injEq] at ho
            subst ho
            have h78 : ∃ r : Nat, f 78 = .pointer (some ⟨ga, oa + r * 3 + 2, none⟩) ∧ r < n1 := hT 11 78 (by decide) rfl (hdn { on := 11, ground := .data } (by simp) rfl)
            have h76 : ∃ u : Int, f 76 = .int .i64 u := hT 9 76 (by decide) rfl (hdn { on := 9, ground := .data } (by simp) rfl)
            generalize hA : fr _ _ _ f = A at hK ⊢
            have e78 : A.tmps[78]?.getD undef = f 78 := by rw [← hA]; exact fr_in _ _ _ _ 78 (by decide) (by simp)
            have e76 : A.tmps[76]?.getD undef = f 76 := by rw [← hA]; exact fr_in _ _ _ _ 76 (by decide) (by simp)
            clear hA
            have HX := Lib.hid hX
            have HT := Lib.hid hT
            have HN := Lib.hid hni
            have HDN := Lib.hid hdn
            clear hX hT hni hdn
            obtain ⟨ra, h78, hra⟩ := h78
            have Hf78 := Lib.hid h78
            rw [h78] at e78
            clear h78
            obtain ⟨u9, h76⟩ := h76
            have Hf76 := Lib.hid h76
            rw [h76] at e76
            clear h76
            obtain ⟨⟨q, hc⟩, hfz, hX2⟩ := HX.out.setNode hra (.int .i64 u9) (j := 2) (.inr ⟨by decide, _, rfl⟩) rfl
            have HX2 := Lib.hid hX2
            clear hX2
            go_simp
            exact hK undef _ (Ev.set rfl) (fun d hd => by cases hd) HX2.out
        · intro dn f w1 hX hdn hall
          clear hdn hall
          simp only [fr, upd, List.mapIdx_cons, List.mapIdx_nil]
          simp
          go_wp2_with fail
          go_meet
          case rel => exact ⟨_, c4, n2, by omega, by omega, hX⟩
      · skip
        have b0 : ((r : Int) == 0) = false := by rw [hk.out]; decide
        have b1 : ((r : Int) == 1) = false := by rw [hk.out]; decide
        have b2 : ((r : Int) == 2) = false := by rw [hk.out]; decide
        have b3 : ((r : Int) == 3) = true := by rw [hk.out]; decide
        obtain ⟨ga, oa, rfl⟩ := hO.dev_at hn2'
        go_wp2_with (fail)
        clear b0 b1 b2 b3
        refine wp_region_ext2X (by kernel_rfl) 13 [81, 82, 83, 84, 85, 86, 87, 88, 89, 90, 91, 92] (Ev bd (some ⟨ga, oa, none⟩)) (fun d v w' => if d = 81 then v = .pointer (some ⟨gb, 1, none⟩) else if d = 82 then v = .slice (some ⟨ga, oa, none⟩) n2 c4 else if d = 83 then v = .pointer (some ⟨bd, 0, none⟩) else if d = 84 then v = .int .i64 (n2 : Nat) else if d = 87 then v = .pointer (some ⟨bd, 0, none⟩) else if d = 85 then ∃ r : Nat, v = .int .i64 r ∧ r < n2 else if d = 86 then ∃ g : Nat, v = .slice (some ⟨g, 0, none⟩) 4 4 ∧ Lits bd (some ⟨ga, oa, none⟩) #[.string ⟨#[]⟩, .string ⟨#[78, 48, 49]⟩, .string ⟨#[83, 48, 48]⟩, .string ⟨#[81, 32, 49]⟩] 9 g w' else if d = 88 then ∃ r : Nat, v = .int .i64 r ∧ r < 4 else if d = 89 then ∃ g r : Nat, v = .pointer (some ⟨g, r, none⟩) ∧ r < 4 ∧ Lits bd (some ⟨ga, oa, none⟩) #[.string ⟨#[]⟩, .string ⟨#[78, 48, 49]⟩, .string ⟨#[83, 48, 48]⟩, .string ⟨#[81, 32, 49]⟩] 9 g w' else if d = 90 then ∃ u : ByteArray, v = .string u ∧ u.size ≤ maxLen else if d = 91 then ∃ r : Nat, v = .pointer (some ⟨ga, oa + r * 5, none⟩) ∧ r < n2 else if d = 92 then ∃ r : Nat, v = .pointer (some ⟨ga, oa + r * 5 , none⟩) ∧ r < n2 else False) (fun _ _ W' => ODx w bd gb A3 c3 n1 (some ⟨ga, oa, none⟩) c4 n2 W') (by kernel_rfl) (hO.below ((Below.refl _ _).drew)) (fun d v a b hE hT => by
            by_cases h86 : d = 86
            · subst h86
              obtain ⟨g, e1, e2⟩ := hT
              exact ⟨g, e1, e2.ev hE⟩
            by_cases h89 : d = 89
            · subst h89
              obtain ⟨g, r, e1, e2, e3⟩ := hT
              exact ⟨g, r, e1, e2, e3.ev hE⟩
            simp only [if_neg h86, if_neg h89] at hT ⊢
            exact hT) ?_ ?_
        · intro i o hi ho dn f w1 hX hT hni hdn K hK
          have hi' : i = 0 ∨ i = 1 ∨ i = 2 ∨ i = 3 ∨ i = 4 ∨ i = 5 ∨ i = 6 ∨ i = 7 ∨ i = 8 ∨ i = 9 ∨ i = 10 ∨ i = 11 ∨ i = 12 := by omega
          rcases hi' with rfl | rfl | rfl | rfl | rfl | rfl | rfl | rfl | rfl | rfl | rfl | rfl | rfl
          · simp only [List.getElem?_toArray, List.getElem?_cons_zero, Option.some.injEq] at ho
            subst ho
            generalize hA : fr _ _ _ f = A at hK ⊢
            have e3 : A.tmps[3]?.getD undef = .pointer (some ⟨gb, 0, none⟩) := by rw [← hA]; exact fr_out _ _ _ _ 3 _ (by decide) rfl
            clear hA
            have HX := Lib.hid hX
            have HT := Lib.hid hT
            have HN := Lib.hid hni
            have HDN := Lib.hid hdn
            clear hX hT hni hdn
            go_simp
            exact hK _ _ (Ev.refl _ _ _) (fun d hd => by injection hd with hd; subst hd; exact rfl) HX.out
          · simp only [List.getElem?_toArray, List.getElem?_cons_zero, List.getElem?_cons_succ, Option.some.injEq] at ho
            subst ho
            have h81 : f 81 = .pointer (some ⟨gb, 1, none⟩) := hT 0 81 (by decide) rfl (hdn { on := 0, ground := .data } (by simp) rfl)
            generalize hA : fr _ _ _ f = A at hK ⊢
            have e81 : A.tmps[81]?.getD undef = f 81 := by rw [← hA]; exact fr_in _ _ _ _ 81 (by decide) (by simp)
            clear hA
            have HX := Lib.hid hX
            have HT := Lib.hid hT
            have HN := Lib.hid hni
            have HDN := Lib.hid hdn
            clear hX hT hni hdn
            have Hf81 := Lib.hid h81
            rw [h81] at e81
            clear h81
            have hcell := HX.out.k1
            go_simp
            exact hK _ _ (Ev.refl _ _ _) (fun d hd => by injection hd with hd; subst hd; exact rfl) HX.out
          · simp only [List.getElem?_toArray, List.getElem?_cons_zero, List.getElem?_cons_succ, Option.some.injEq] at ho
            subst ho
            generalize hA : fr _ _ _ f = A at hK ⊢
            have e0 : A.tmps[0]?.getD undef = .pointer (some ⟨bd, 0, none⟩) := by rw [← hA]; exact fr_out _ _ _ _ 0 _ (by decide) rfl
            clear hA
            have HX := Lib.hid hX
            have HT := Lib.hid hT
            have HN := Lib.hid hni
            have HDN := Lib.hid hdn
            clear hX hT hni hdn
            go_simp
            exact hK _ _ (Ev.refl _ _ _) (fun d hd => by injection hd with hd; subst hd; exact rfl) HX.out
          · simp only [List.getElem?_toArray, List.getElem?_cons_zero, List.getElem?_cons_succ, Option.some.injEq] at ho
            subst ho
            generalize hA : fr _ _ _ f = A at hK ⊢
            have e6 : A.tmps[6]?.getD undef = .int .i64 (n2 : Nat) := by rw [← hA]; exact fr_out _ _ _ _ 6 _ (by decide) rfl
            clear hA
            have HX := Lib.hid hX
            have HT := Lib.hid hT
            have HN := Lib.hid hni
            have HDN := Lib.hid hdn
            clear hX hT hni hdn
            go_simp
            exact hK _ _ (Ev.refl _ _ _) (fun d hd => by injection hd with hd; subst hd; exact rfl) HX.out
          · simp only [List.getElem?_toArray, List.getElem?_cons_zero, List.getElem?_cons_succ, Option.some.injEq] at ho
            subst ho
            have h83 : f 83 = .pointer (some ⟨bd, 0, none⟩) := hT 2 83 (by decide) rfl (hdn { on := 2, ground := .data } (by simp) rfl)
            have h84 : f 84 = .int .i64 (n2 : Nat) := hT 3 84 (by decide) rfl (hdn { on := 3, ground := .data } (by simp) rfl)
            generalize hA : fr _ _ _ f = A at hK ⊢
            have e83 : A.tmps[83]?.getD undef = f 83 := by rw [← hA]; exact fr_in _ _ _ _ 83 (by decide) (by simp)
            have e84 : A.tmps[84]?.getD undef = f 84 := by rw [← hA]; exact fr_in _ _ _ _ 84 (by decide) (by simp)
            clear hA
            have HX := Lib.hid hX
            have HT := Lib.hid hT
            have HN := Lib.hid hni
            have HDN := Lib.hid hdn
            clear hX hT hni hdn
            have Hf83 := Lib.hid h83
            rw [h83] at e83
            clear h83
            have Hf84 := Lib.hid h84
            rw [h84] at e84
            clear h84
            go_simp
            refine (next_any w1 bd HX.out.deck n2 (by omega)).mono ?_
            rintro e' w2 ⟨r2, rfl, hr2, _, hd2, hg2, hz2⟩
            have hfr := Fr.of_grown (bd := bd) hg2 (Nat.le_refl _)
            have hr3 := hr2 (by omega)
            exact hK _ _ (Ev.fr hfr) (fun d hd => by injection hd with hd; subst hd; exact ⟨r2, rfl, by omega⟩) (HX.out.fr hfr hd2)
          · simp only [List.getElem?_toArray, List.getElem?_cons_zero, List.getElem?_cons_succ, Option.some.injEq] at ho
            subst ho
            generalize hA : fr _ _ _ f = A at hK ⊢
            clear hA
            have HX := Lib.hid hX
            have HT := Lib.hid hT
            have HN := Lib.hid hni
            have HDN := Lib.hid hdn
            clear hX hT hni hdn
            go_simp
            have hnw := HX.out.new
            exact hK _ _ (Ev.alloc _ _ _ _) (fun d hd => by injection hd with hd; subst hd; exact ⟨w1.heap.size, rfl, hnw.1, hnw.2.2, heap_alloc_new w1 _⟩) (HX.out.below ((Below.refl _ _).alloc (Nat.le_refl _) _))
          · simp only [List.getElem?_toArray, List.getElem?_cons_zero, List.getElem?_cons_succ, Option.some.injEq] at ho
            subst ho
            generalize hA : fr _ _ _ f = A at hK ⊢
            have e0 : A.tmps[0]?.getD undef = .pointer (some ⟨bd, 0, none⟩) := by rw [← hA]; exact fr_out _ _ _ _ 0 _ (by decide) rfl
            clear hA
            have HX := Lib.hid hX
            have HT := Lib.hid hT
            have HN := Lib.hid hni
            have HDN := Lib.hid hdn
            clear hX hT hni hdn
            go_simp
            exact hK _ _ (Ev.refl _ _ _) (fun d hd => by injection hd with hd; subst hd; exact rfl) HX.out
          · simp only [List.getElem?_toArray, List.getElem?_cons_zero, List.getElem?_cons_succ, Option.some.injEq] at ho
            subst ho
            have h87 : f 87 = .pointer (some ⟨bd, 0, none⟩) := hT 6 87 (by decide) rfl (hdn { on := 6, ground := .data } (by simp) rfl)
            generalize hA : fr _ _ _ f = A at hK ⊢
            have e87 : A.tmps[87]?.getD undef = f 87 := by rw [← hA]; exact fr_in _ _ _ _ 87 (by decide) (by simp)
            clear hA
            have HX := Lib.hid hX
            have HT := Lib.hid hT
            have HN := Lib.hid hni
            have HDN := Lib.hid hdn
            clear hX hT hni hdn
            have Hf87 := Lib.hid h87
            rw [h87] at e87
            clear h87
            go_simp
            refine (next_any w1 bd HX.out.deck 4 (by omega)).mono ?_
            rintro e' w2 ⟨r2, rfl, hr2, _, hd2, hg2, hz2⟩
            have hfr := Fr.of_grown (bd := bd) hg2 (Nat.le_refl _)
            have hr3 := hr2 (by omega)
            exact hK _ _ (Ev.fr hfr) (fun d hd => by injection hd with hd; subst hd; exact ⟨r2, rfl, by omega⟩) (HX.out.fr hfr hd2)
          · simp only [List.getElem?_toArray, List.getElem?_cons_zero, List.getElem?_cons_succ, Option.some.injEq] at ho
            subst ho
            have h86 : ∃ g : Nat, f 86 = .slice (some ⟨g, 0, none⟩) 4 4 ∧ Lits bd (some ⟨ga, oa, none⟩) #[.string ⟨#[]⟩, .string ⟨#[78, 48, 49]⟩, .string ⟨#[83, 48, 48]⟩, .string ⟨#[81, 32, 49]⟩] 9 g w1 := hT 5 86 (by decide) rfl (hdn { on := 5, ground := .data } (by simp) rfl)
            have h88 : ∃ r : Nat, f 88 = .int .i64 r ∧ r < 4 := hT 7 88 (by decide) rfl (hdn { on := 7, ground := .data } (by simp) rfl)
            generalize hA : fr _ _ _ f = A at hK ⊢
            have e86 : A.tmps[86]?.getD undef = f 86 := by rw [← hA]; exact fr_in _ _ _ _ 86 (by decide) (by simp)
            have e88 : A.tmps[88]?.getD undef = f 88 := by rw [← hA]; exact fr_in _ _ _ _ 88 (by decide) (by simp)
            clear hA
            have HX := Lib.hid hX
            have HT := Lib.hid hT
            have HN := Lib.hid hni
            have HDN := Lib.hid hdn
            clear hX hT hni hdn
            obtain ⟨g5, h86, hl5⟩ := h86
            have Hf86 := Lib.hid h86
            rw [h86] at e86
            clear h86
            obtain ⟨r7, h88, hr7⟩ := h88
            have Hf88 := Lib.hid h88
            rw [h88] at e88
            clear h88
            have HL5 := Lib.hid hl5
            have hr7' : (r7 : Int) < 4 := by omega
            clear hl5
            go_simp
            exact hK _ _ (Ev.refl _ _ _) (fun d hd => by injection hd with hd; subst hd; exact ⟨g5, r7, rfl, hr7, HL5.out⟩) HX.out
          · simp only [List.getElem?_toArray, List.getElem?_cons_zero, List.getElem?_cons_succ, Option.some.injEq] at ho
            subst ho
            have h89 : ∃ g r : Nat, f 89 = .pointer (some ⟨g, r, none⟩) ∧ r < 4 ∧ Lits bd (some ⟨ga, oa, none⟩) #[.string ⟨#[]⟩, .string ⟨#[78, 48, 49]⟩, .string ⟨#[83, 48, 48]⟩, .string ⟨#[81, 32, 49]⟩] 9 g w1 := hT 8 89 (by decide) rfl (hdn { on := 8, ground := .data } (by simp) rfl)
            generalize hA : fr _ _ _ f = A at hK ⊢
            have e89 : A.tmps[89]?.getD undef = f 89 := by rw [← hA]; exact fr_in _ _ _ _ 89 (by decide) (by simp)
            clear hA
            have HX := Lib.hid hX
            have HT := Lib.hid hT
            have HN := Lib.hid hni
            have HDN := Lib.hid hdn
            clear hX hT hni hdn
            obtain ⟨g8, r8, h89, hr8, hl8⟩ := h89
            have Hf89 := Lib.hid h89
            rw [h89] at e89
            clear h89
            obtain ⟨u9, hu9, hok⟩ := lit_3 r8 hr8
            have hcell : w1.cell? ⟨g8, r8, none⟩ = some (.string u9) := by rw [cell_of_row w1 g8 r8 _ _ _ hl8.2.2]; exact hu9
            clear hl8 hu9
            go_simp
            exact hK _ _ (Ev.refl _ _ _) (fun d hd => by injection hd with hd; subst hd; exact ⟨u9, rfl, hok⟩) HX.out
          · simp only [List.getElem?_toArray, List.getElem?_cons_zero, List.getElem?_cons_succ, Option.some.injEq] at ho
            subst ho
            have h82 : f 82 = .slice (some ⟨ga, oa, none⟩) n2 c4 := hT 1 82 (by decide) rfl (hdn { on := 1, ground := .data } (by simp) rfl)
            have h85 : ∃ r : Nat, f 85 = .int .i64 r ∧ r < n2 := hT 4 85 (by decide) rfl (hdn { on := 4, ground := .data } (by simp) rfl)
            generalize hA : fr _ _ _ f = A at hK ⊢
            have e82 : A.tmps[82]?.getD undef = f 82 := by rw [← hA]; exact fr_in _ _ _ _ 82 (by decide) (by simp)
            have e85 : A.tmps[85]?.getD undef = f 85 := by rw [← hA]; exact fr_in _ _ _ _ 85 (by decide) (by simp)
            clear hA
            have HX := Lib.hid hX
            have HT := Lib.hid hT
            have HN := Lib.hid hni
            have HDN := Lib.hid hdn
            clear hX hT hni hdn
            have Hf82 := Lib.hid h82
            rw [h82] at e82
            clear h82
            obtain ⟨ra, h85, hra⟩ := h85
            have Hf85 := Lib.hid h85
            rw [h85] at e85
            clear h85
            go_simp
            exact hK _ _ (Ev.refl _ _ _) (fun d hd => by injection hd with hd; subst hd; exact ⟨ra, rfl, hra⟩) HX.out
          · simp only [List.getElem?_toArray, List.getElem?_cons_zero, List.getElem?_cons_succ, Option.some.injEq] at ho
            subst ho
            have h91 : ∃ r : Nat, f 91 = .pointer (some ⟨ga, oa + r * 5, none⟩) ∧ r < n2 := hT 10 91 (by decide) rfl (hdn { on := 10, ground := .data } (by simp) rfl)
            generalize hA : fr _ _ _ f = A at hK ⊢
            have e91 : A.tmps[91]?.getD undef = f 91 := by rw [← hA]; exact fr_in _ _ _ _ 91 (by decide) (by simp)
            clear hA
            have HX := Lib.hid hX
            have HT := Lib.hid hT
            have HN := Lib.hid hni
            have HDN := Lib.hid hdn
            clear hX hT hni hdn
            obtain ⟨ra, h91, hra⟩ := h91
            have Hf91 := Lib.hid h91
            rw [h91] at e91
            clear h91
            go_simp
            exact hK _ _ (Ev.refl _ _ _) (fun d hd => by injection hd with hd; subst hd; exact ⟨ra, rfl, hra⟩) HX.out
          · simp only [List.getElem?_toArray, List.getElem?_cons_zero, List.getElem?_cons_succ, Option.some.injEq] at ho
            subst ho
            have h92 : ∃ r : Nat, f 92 = .pointer (some ⟨ga, oa + r * 5 , none⟩) ∧ r < n2 := hT 11 92 (by decide) rfl (hdn { on := 11, ground := .data } (by simp) rfl)
            have h90 : ∃ u : ByteArray, f 90 = .string u ∧ u.size ≤ maxLen := hT 9 90 (by decide) rfl (hdn { on := 9, ground := .data } (by simp) rfl)
            generalize hA : fr _ _ _ f = A at hK ⊢
            have e92 : A.tmps[92]?.getD undef = f 92 := by rw [← hA]; exact fr_in _ _ _ _ 92 (by decide) (by simp)
            have e90 : A.tmps[90]?.getD undef = f 90 := by rw [← hA]; exact fr_in _ _ _ _ 90 (by decide) (by simp)
            clear hA
            have HX := Lib.hid hX
            have HT := Lib.hid hT
            have HN := Lib.hid hni
            have HDN := Lib.hid hdn
            clear hX hT hni hdn
            obtain ⟨ra, h92, hra⟩ := h92
            have Hf92 := Lib.hid h92
            rw [h92] at e92
            clear h92
            obtain ⟨u9, h90, hu9⟩ := h90
            have Hf90 := Lib.hid h90
            rw [h90] at e90
            clear h90
            obtain ⟨⟨q, hc⟩, hfz, hX2⟩ := HX.out.setDev hra (.string u9) (j := 0) (.inl ⟨rfl, _, rfl, hu9⟩) rfl
            rw [Nat.add_zero] at hc hfz hX2
            have HX2 := Lib.hid hX2
            clear hX2
            go_simp
            exact hK undef _ (Ev.set rfl) (fun d hd => by cases hd) HX2.out
        · intro dn f w1 hX hdn hall
          clear hdn hall
          simp only [fr, upd, List.mapIdx_cons, List.mapIdx_nil]
          simp
          go_wp2_with fail
          go_meet
          case rel => exact ⟨_, c4, n2, by omega, by omega, hX⟩
      · skip
        have b0 : ((r : Int) == 0) = false := by rw [hk.out]; decide
        have b1 : ((r : Int) == 1) = false := by rw [hk.out]; decide
        have b2 : ((r : Int) == 2) = false := by rw [hk.out]; decide
        have b3 : ((r : Int) == 3) = false := by rw [hk.out]; decide
        have b4 : ((r : Int) == 4) = true := by rw [hk.out]; decide
        obtain ⟨ga, oa, rfl⟩ := hO.dev_at hn2'
        go_wp2_with (fail)
        clear b0 b1 b2 b3 b4
        refine wp_region_ext2X (by kernel_rfl) 11 [95, 96, 97, 98, 99, 100, 101, 102, 103, 104] (Ev bd (some ⟨ga, oa, none⟩)) (fun d v w' => if d = 95 then v = .pointer (some ⟨gb, 1, none⟩) else if d = 96 then v = .slice (some ⟨ga, oa, none⟩) n2 c4 else if d = 97 then v = .pointer (some ⟨bd, 0, none⟩) else if d = 98 then v = .int .i64 (n2 : Nat) else if d = 100 then v = .pointer (some ⟨bd, 0, none⟩) else if d = 99 then ∃ r : Nat, v = .int .i64 r ∧ r < n2 else if d = 101 then ∃ r : Nat, v = .int .i64 r ∧ r < 9 else if d = 102 then ∃ u : Int, v = .int .i64 u else if d = 103 then ∃ r : Nat, v = .pointer (some ⟨ga, oa + r * 5, none⟩) ∧ r < n2 else if d = 104 then ∃ r : Nat, v = .pointer (some ⟨ga, oa + r * 5 + 1, none⟩) ∧ r < n2 else False) (fun _ _ W' => ODx w bd gb A3 c3 n1 (some ⟨ga, oa, none⟩) c4 n2 W') (by kernel_rfl) (hO.below ((Below.refl _ _).drew)) (fun _ _ _ _ _ hT => hT) ?_ ?_
        · intro i o hi ho dn f w1 hX hT hni hdn K hK
          have hi' : i = 0 ∨ i = 1 ∨ i = 2 ∨ i = 3 ∨ i = 4 ∨ i = 5 ∨ i = 6 ∨ i = 7 ∨ i = 8 ∨ i = 9 ∨ i = 10 := by omega
          rcases hi' with rfl | rfl | rfl | rfl | rfl | rfl | rfl | rfl | rfl | rfl | rfl
          · simp only [List.getElem?_toArray, List.getElem?_cons_zero, Option.some.injEq] at ho
            subst ho
            generalize hA : fr _ _ _ f = A at hK ⊢
            have e3 : A.tmps[3]?.getD undef = .pointer (some ⟨gb, 0, none⟩) := by rw [← hA]; exact fr_out _ _ _ _ 3 _ (by decide) rfl
            clear hA
            have HX := Lib.hid hX
            have HT := Lib.hid hT
            have HN := Lib.hid hni
            have HDN := Lib.hid hdn
            clear hX hT hni hdn
            go_simp
            exact hK _ _ (Ev.refl _ _ _) (fun d hd => by injection hd with hd; subst hd; exact rfl) HX.out
          · simp only [List.getElem?_toArray, List.getElem?_cons_zero, List.getElem?_cons_succ, Option.some.injEq] at ho
            subst ho
            have h95 : f 95 = .pointer (some ⟨gb, 1, none⟩) := hT 0 95 (by decide) rfl (hdn { on := 0, ground := .data } (by simp) rfl)
            generalize hA : fr _ _ _ f = A at hK ⊢
            have e95 : A.tmps[95]?.getD undef = f 95 := by rw [← hA]; exact fr_in _ _ _ _ 95 (by decide) (by simp)
            clear hA
            have HX := Lib.hid hX
            have HT := Lib.hid hT
            have HN := Lib.hid hni
            have HDN := Lib.hid hdn
            clear hX hT hni hdn
            have Hf95 := Lib.hid h95
            rw [h95] at e95
            clear h95
            have hcell := HX.out.k1
            go_simp
            exact hK _ _ (Ev.refl _ _ _) (fun d hd => by injection hd with hd; subst hd; exact rfl) HX.out
          · simp only [List.getElem?_toArray, List.getElem?_cons_zero, List.getElem?_cons_succ, Option.some.injEq] at ho
            subst ho
            generalize hA : fr _ _ _ f = A at hK ⊢
            have e0 : A.tmps[0]?.getD undef = .pointer (some ⟨bd, 0, none⟩) := by rw [← hA]; exact fr_out _ _ _ _ 0 _ (by decide) rfl
            clear hA
            have HX := Lib.hid hX
            have HT := Lib.hid hT
            have HN := Lib.hid hni
            have HDN := Lib.hid hdn
            clear hX hT hni hdn
            go_simp
            exact hK _ _ (Ev.refl _ _ _) (fun d hd => by injection hd with hd; subst hd; exact rfl) HX.out
          · simp only [List.getElem?_toArray, List.getElem?_cons_zero, List.getElem?_cons_succ, Option.some.injEq] at ho
            subst ho
            generalize hA : fr _ _ _ f = A at hK ⊢
            have e6 : A.tmps[6]?.getD undef = .int .i64 (n2 : Nat) := by rw [← hA]; exact fr_out _ _ _ _ 6 _ (by decide) rfl
            clear hA
            have HX := Lib.hid hX
            have HT := Lib.hid hT
            have HN := Lib.hid hni
            have HDN := Lib.hid hdn
            clear hX hT hni hdn
            go_simp
            exact hK _ _ (Ev.refl _ _ _) (fun d hd => by injection hd with hd; subst hd; exact rfl) HX.out
          · simp only [List.getElem?_toArray, List.getElem?_cons_zero, List.getElem?_cons_succ, Option.some.injEq] at ho
            subst ho
            have h97 : f 97 = .pointer (some ⟨bd, 0, none⟩) := hT 2 97 (by decide) rfl (hdn { on := 2, ground := .data } (by simp) rfl)
            have h98 : f 98 = .int .i64 (n2 : Nat) := hT 3 98 (by decide) rfl (hdn { on := 3, ground := .data } (by simp) rfl)
            generalize hA : fr _ _ _ f = A at hK ⊢
            have e97 : A.tmps[97]?.getD undef = f 97 := by rw [← hA]; exact fr_in _ _ _ _ 97 (by decide) (by simp)
            have e98 : A.tmps[98]?.getD undef = f 98 := by rw [← hA]; exact fr_in _ _ _ _ 98 (by decide) (by simp)
            clear hA
            have HX := Lib.hid hX
            have HT := Lib.hid hT
            have HN := Lib.hid hni
            have HDN := Lib.hid hdn
            clear hX hT hni hdn
            have Hf97 := Lib.hid h97
            rw [h97] at e97
            clear h97
            have Hf98 := Lib.hid h98
            rw [h98] at e98
            clear h98
            go_simp
            refine (next_any w1 bd HX.out.deck n2 (by omega)).mono ?_
            rintro e' w2 ⟨r2, rfl, hr2, _, hd2, hg2, hz2⟩
            have hfr := Fr.of_grown (bd := bd) hg2 (Nat.le_refl _)
            have hr3 := hr2 (by omega)
            exact hK _ _ (Ev.fr hfr) (fun d hd => by injection hd with hd; subst hd; exact ⟨r2, rfl, by omega⟩) (HX.out.fr hfr hd2)
          · simp only [List.getElem?_toArray, List.getElem?_cons_zero, List.getElem?_cons_succ, Option.some.injEq] at ho
            subst ho
            generalize hA : fr _ _ _ f = A at hK ⊢
            have e0 : A.tmps[0]?.getD undef = .pointer (some ⟨bd, 0, none⟩) := by rw [← hA]; exact fr_out _ _ _ _ 0 _ (by decide) rfl
            clear hA
            have HX := Lib.hid hX
            have HT := Lib.hid hT
            have HN := Lib.hid hni
            have HDN := Lib.hid hdn
            clear hX hT hni hdn
            go_simp
            exact hK _ _ (Ev.refl _ _ _) (fun d hd => by injection hd with hd; subst hd; exact rfl) HX.out
          · simp only [List.getElem?_toArray, List.getElem?_cons_zero, List.getElem?_cons_succ, Option.some.injEq] at ho
            subst ho
            have h100 : f 100 = .pointer (some ⟨bd, 0, none⟩) := hT 5 100 (by decide) rfl (hdn { on := 5, ground := .data } (by simp) rfl)
            generalize hA : fr _ _ _ f = A at hK ⊢
            have e100 : A.tmps[100]?.getD undef = f 100 := by rw [← hA]; exact fr_in _ _ _ _ 100 (by decide) (by simp)
            clear hA
            have HX := Lib.hid hX
            have HT := Lib.hid hT
            have HN := Lib.hid hni
            have HDN := Lib.hid hdn
            clear hX hT hni hdn
            have Hf100 := Lib.hid h100
            rw [h100] at e100
            clear h100
            go_simp
            refine (next_any w1 bd HX.out.deck 9 (by omega)).mono ?_
            rintro e' w2 ⟨r2, rfl, hr2, _, hd2, hg2, hz2⟩
            have hfr := Fr.of_grown (bd := bd) hg2 (Nat.le_refl _)
            have hr3 := hr2 (by omega)
            exact hK _ _ (Ev.fr hfr) (fun d hd => by injection hd with hd; subst hd; exact ⟨r2, rfl, by omega⟩) (HX.out.fr hfr hd2)
          · simp only [List.getElem?_toArray, List.getElem?_cons_zero, List.getElem?_cons_succ, Option.some.injEq] at ho
            subst ho
            have h101 : ∃ r : Nat, f 101 = .int .i64 r ∧ r < 9 := hT 6 101 (by decide) rfl (hdn { on := 6, ground := .data } (by simp) rfl)
            generalize hA : fr _ _ _ f = A at hK ⊢
            have e101 : A.tmps[101]?.getD undef = f 101 := by rw [← hA]; exact fr_in _ _ _ _ 101 (by decide) (by simp)
            clear hA
            have HX := Lib.hid hX
            have HT := Lib.hid hT
            have HN := Lib.hid hni
            have HDN := Lib.hid hdn
            clear hX hT hni hdn
            obtain ⟨r7, h101, hr7⟩ := h101
            have Hf101 := Lib.hid h101
            rw [h101] at e101
            clear h101
            go_simp
            exact hK _ _ (Ev.refl _ _ _) (fun d hd => by injection hd with hd; subst hd; exact ⟨_, rfl⟩) HX.out
          · simp only [List.getElem?_toArray, List.getElem?_cons_zero, List.getElem?_cons_succ, Option.some.injEq] at ho
            subst ho
            have h96 : f 96 = .slice (some ⟨ga, oa, none⟩) n2 c4 := hT 1 96 (by decide) rfl (hdn { on := 1, ground := .data } (by simp) rfl)
            have h99 : ∃ r : Nat, f 99 = .int .i64 r ∧ r < n2 := hT 4 99 (by decide) rfl (hdn { on := 4, ground := .data } (by simp) rfl)
            generalize hA : fr _ _ _ f = A at hK ⊢
            have e96 : A.tmps[96]?.getD undef = f 96 := by rw [← hA]; exact fr_in _ _ _ _ 96 (by decide) (by simp)
            have e99 : A.tmps[99]?.getD undef = f 99 := by rw [← hA]; exact fr_in _ _ _ _ 99 (by decide) (by simp)
            clear hA
            have HX := Lib.hid hX
            have HT := Lib.hid hT
            have HN := Lib.hid hni
            have HDN := Lib.hid hdn
            clear hX hT hni hdn
            have Hf96 := Lib.hid h96
            rw [h96] at e96
            clear h96
            obtain ⟨ra, h99, hra⟩ := h99
            have Hf99 := Lib.hid h99
            rw [h99] at e99
            clear h99
            go_simp
            exact hK _ _ (Ev.refl _ _ _) (fun d hd => by injection hd with hd; subst hd; exact ⟨ra, rfl, hra⟩) HX.out
          · simp only [List.getElem?_toArray, List.getElem?_cons_zero, List.getElem?_cons_succ, Option.some.injEq] at ho
            subst ho
            have h103 : ∃ r : Nat, f 103 = .pointer (some ⟨ga, oa + r * 5, none⟩) ∧ r < n2 := hT 8 103 (by decide) rfl (hdn { on := 8, ground := .data } (by simp) rfl)
            generalize hA : fr _ _ _ f = A at hK ⊢
            have e103 : A.tmps[103]?.getD undef = f 103 := by rw [← hA]; exact fr_in _ _ _ _ 103 (by decide) (by simp)
            clear hA
            have HX := Lib.hid hX
            have HT := Lib.hid hT
            have HN := Lib.hid hni
            have HDN := Lib.hid hdn
            clear hX hT hni hdn
            obtain ⟨ra, h103, hra⟩ := h103
            have Hf103 := Lib.hid h103
            rw [h103] at e103
            clear h103
            go_simp
            exact hK _ _ (Ev.refl _ _ _) (fun d hd => by injection hd with hd; subst hd; exact ⟨ra, rfl, hra⟩) HX.out
          · simp only [List.getElem?_toArray, List.getElem?_cons_zero, List.getElem?_cons_succ, Option.some.injEq] at ho
            subst ho
            have h104 : ∃ r : Nat, f 104 = .pointer (some ⟨ga, oa + r * 5 + 1, none⟩) ∧ r < n2 := hT 9 104 (by decide) rfl (hdn { on := 9, ground := .data } (by simp) rfl)
            have h102 : ∃ u : Int, f 102 = .int .i64 u := hT 7 102 (by decide) rfl (hdn { on := 7, ground := .data } (by simp) rfl)
            generalize hA : fr _ _ _ f = A at hK ⊢
            have e104 : A.tmps[104]?.getD undef = f 104 := by rw [← hA]; exact fr_in _ _ _ _ 104 (by decide) (by simp)
            have e102 : A.tmps[102]?.getD undef = f 102 := by rw [← hA]; exact fr_in _ _ _ _ 102 (by decide) (by simp)
            clear hA
            have HX := Lib.hid hX
            have HT := Lib.hid hT
            have HN := Lib.hid hni
            have HDN := Lib.hid hdn
            clear hX hT hni hdn
            obtain ⟨ra, h104, hra⟩ := h104
            have Hf104 := Lib.hid h104
            rw [h104] at e104
            clear h104
            obtain ⟨u9, h102⟩ := h102
            have Hf102 := Lib.hid h102
            rw [h102] at e102
            clear h102
            obtain ⟨⟨q, hc⟩, hfz, hX2⟩ := HX.out.setDev hra (.int .i64 u9) (j := 1) (.inr ⟨by decide, _, rfl⟩) rfl
            have HX2 := Lib.hid hX2
            clear hX2
            go_simp
            exact hK undef _ (Ev.set rfl) (fun d hd => by cases hd) HX2.out
        · intro dn f w1 hX hdn hall
          clear hdn hall
          simp only [fr, upd, List.mapIdx_cons, List.mapIdx_nil]
          simp
          go_wp2_with fail
          go_meet
          case rel => exact ⟨_, c4, n2, by omega, by omega, hX⟩
      · skip
        have b0 : ((r : Int) == 0) = false := by rw [hk.out]; decide
        have b1 : ((r : Int) == 1) = false := by rw [hk.out]; decide
        have b2 : ((r : Int) == 2) = false := by rw [hk.out]; decide
        have b3 : ((r : Int) == 3) = false := by rw [hk.out]; decide
        have b4 : ((r : Int) == 4) = false := by rw [hk.out]; decide
        have b5 : ((r : Int) == 5) = true := by rw [hk.out]; decide
        obtain ⟨ga, oa, rfl⟩ := hO.dev_at hn2'
        go_wp2_with (fail)
        clear b0 b1 b2 b3 b4 b5
        refine wp_region_ext2X (by kernel_rfl) 13 [107, 108, 109, 110, 111, 112, 113, 114, 115, 116, 117, 118] (Ev bd (some ⟨ga, oa, none⟩)) (fun d v w' => if d = 107 then v = .pointer (some ⟨gb, 1, none⟩) else if d = 108 then v = .slice (some ⟨ga, oa, none⟩) n2 c4 else if d = 109 then v = .pointer (some ⟨bd, 0, none⟩) else if d = 110 then v = .int .i64 (n2 : Nat) else if d = 112 then v = .pointer (some ⟨bd, 0, none⟩) else if d = 113 then v = .int .i64 (n1 : Nat) else if d = 114 then v = .int .i64 ((n1 : Nat) + 2) else if d = 111 then ∃ r : Nat, v = .int .i64 r ∧ r < n2 else if d = 115 then ∃ r : Nat, v = .int .i64 r ∧ r < 1000 else if d = 116 then ∃ u : Int, v = .int .i64 u else if d = 117 then ∃ r : Nat, v = .pointer (some ⟨ga, oa + r * 5, none⟩) ∧ r < n2 else if d = 118 then ∃ r : Nat, v = .pointer (some ⟨ga, oa + r * 5 + 2, none⟩) ∧ r < n2 else False) (fun _ _ W' => ODx w bd gb A3 c3 n1 (some ⟨ga, oa, none⟩) c4 n2 W') (by kernel_rfl) (hO.below ((Below.refl _ _).drew)) (fun _ _ _ _ _ hT => hT) ?_ ?_
        · intro i o hi ho dn f w1 hX hT hni hdn K hK
          have hi' : i = 0 ∨ i = 1 ∨ i = 2 ∨ i = 3 ∨ i = 4 ∨ i = 5 ∨ i = 6 ∨ i = 7 ∨ i = 8 ∨ i = 9 ∨ i = 10 ∨ i = 11 ∨ i = 12 := by omega
          rcases hi' with rfl | rfl | rfl | rfl | rfl | rfl | rfl | rfl | rfl | rfl | rfl | rfl | rfl
          · simp only [List.getElem?_toArray, List.getElem?_cons_zero, Option.some.injEq] at ho
            subst ho
            generalize hA : fr _ _ _ f = A at hK ⊢
            have e3 : A.tmps[3]?.getD undef = .pointer (some ⟨gb, 0, none⟩) := by rw [← hA]; exact fr_out _ _ _ _ 3 _ (by decide) rfl
            clear hA
            have HX := Lib.hid hX
            have HT := Lib.hid hT
            have HN := Lib.hid hni
            have HDN := Lib.hid hdn
            clear hX hT hni hdn
            go_simp
            exact hK _ _ (Ev.refl _ _ _) (fun d hd => by injection hd with hd; subst hd; exact rfl) HX.out
          · simp only [List.getElem?_toArray, List.getElem?_cons_zero, List.getElem?_cons_succ, Option.some.injEq] at ho
            subst ho
            have h107 : f 107 = .pointer (some ⟨gb, 1, none⟩) := hT 0 107 (by decide) rfl (hdn { on := 0, ground := .data } (by simp) rfl)
            generalize hA : fr _ _ _ f = A at hK ⊢
            have e107 : A.tmps[107]?.getD undef = f 107 := by rw [← hA]; exact fr_in _ _ _ _ 107 (by decide) (by simp)
            clear hA
            have HX := Lib.hid hX
            have HT := Lib.hid hT
            have HN := Lib.hid hni
            have HDN := Lib.hid hdn
            clear hX hT hni hdn
            have Hf107 := Lib.hid h107
            rw [h107] at e107
            clear h107
            have hcell := HX.out.k1
            go_simp
            exact hK _ _ (Ev.refl _ _ _) (fun d hd => by injection hd with hd; subst hd; exact rfl) HX.out
          · simp only [List.getElem?_toArray, List.getElem?_cons_zero, List.getElem?_cons_succ, Option.some.injEq] at ho
            subst ho
            generalize hA : fr _ _ _ f = A at hK ⊢
            have e0 : A.tmps[0]?.getD undef = .pointer (some ⟨bd, 0, none⟩) := by rw [← hA]; exact fr_out _ _ _ _ 0 _ (by decide) rfl
            clear hA
            have HX := Lib.hid hX
            have HT := Lib.hid hT
            have HN := Lib.hid hni
            have HDN := Lib.hid hdn
            clear hX hT hni hdn
            go_simp
            exact hK _ _ (Ev.refl _ _ _) (fun d hd => by injection hd with hd; subst hd; exact rfl) HX.out
          · simp only [List.getElem?_toArray, List.getElem?_cons_zero, List.getElem?_cons_succ, Option.some.injEq] at ho
            subst ho
            generalize hA : fr _ _ _ f = A at hK ⊢
            have e6 : A.tmps[6]?.getD undef = .int .i64 (n2 : Nat) := by rw [← hA]; exact fr_out _ _ _ _ 6 _ (by decide) rfl
            clear hA
            have HX := Lib.hid hX
            have HT := Lib.hid hT
            have HN := Lib.hid hni
            have HDN := Lib.hid hdn
            clear hX hT hni hdn
            go_simp
            exact hK _ _ (Ev.refl _ _ _) (fun d hd => by injection hd with hd; subst hd; exact rfl) HX.out
          · simp only [List.getElem?_toArray, List.getElem?_cons_zero, List.getElem?_cons_succ, Option.some.injEq] at ho
            subst ho
            have h109 : f 109 = .pointer (some ⟨bd, 0, none⟩) := hT 2 109 (by decide) rfl (hdn { on := 2, ground := .data } (by simp) rfl)
            have h110 : f 110 = .int .i64 (n2 : Nat) := hT 3 110 (by decide) rfl (hdn { on := 3, ground := .data } (by simp) rfl)
            generalize hA : fr _ _ _ f = A at hK ⊢
            have e109 : A.tmps[109]?.getD undef = f 109 := by rw [← hA]; exact fr_in _ _ _ _ 109 (by decide) (by simp)
            have e110 : A.tmps[110]?.getD undef = f 110 := by rw [← hA]; exact fr_in _ _ _ _ 110 (by decide) (by simp)
            clear hA
            have HX := Lib.hid hX
            have HT := Lib.hid hT
            have HN := Lib.hid hni
            have HDN := Lib.hid hdn
            clear hX hT hni hdn
            have Hf109 := Lib.hid h109
            rw [h109] at e109
            clear h109
            have Hf110 := Lib.hid h110
            rw [h110] at e110
            clear h110
            go_simp
            refine (next_any w1 bd HX.out.deck n2 (by omega)).mono ?_
            rintro e' w2 ⟨r2, rfl, hr2, _, hd2, hg2, hz2⟩
            have hfr := Fr.of_grown (bd := bd) hg2 (Nat.le_refl _)
            have hr3 := hr2 (by omega)
            exact hK _ _ (Ev.fr hfr) (fun d hd => by injection hd with hd; subst hd; exact ⟨r2, rfl, by omega⟩) (HX.out.fr hfr hd2)
          · simp only [List.getElem?_toArray, List.getElem?_cons_zero, List.getElem?_cons_succ, Option.some.injEq] at ho
            subst ho
            generalize hA : fr _ _ _ f = A at hK ⊢
            have e0 : A.tmps[0]?.getD undef = .pointer (some ⟨bd, 0, none⟩) := by rw [← hA]; exact fr_out _ _ _ _ 0 _ (by decide) rfl
            clear hA
            have HX := Lib.hid hX
            have HT := Lib.hid hT
            have HN := Lib.hid hni
            have HDN := Lib.hid hdn
            clear hX hT hni hdn
            go_simp
            exact hK _ _ (Ev.refl _ _ _) (fun d hd => by injection hd with hd; subst hd; exact rfl) HX.out
          · simp only [List.getElem?_toArray, List.getElem?_cons_zero, List.getElem?_cons_succ, Option.some.injEq] at ho
            subst ho
            generalize hA : fr _ _ _ f = A at hK ⊢
            have e5 : A.tmps[5]?.getD undef = .int .i64 (n1 : Nat) := by rw [← hA]; exact fr_out _ _ _ _ 5 _ (by decide) rfl
            clear hA
            have HX := Lib.hid hX
            have HT := Lib.hid hT
            have HN := Lib.hid hni
            have HDN := Lib.hid hdn
            clear hX hT hni hdn
            go_simp
            exact hK _ _ (Ev.refl _ _ _) (fun d hd => by injection hd with hd; subst hd; exact rfl) HX.out
          · simp only [List.getElem?_toArray, List.getElem?_cons_zero, List.getElem?_cons_succ, Option.some.injEq] at ho
            subst ho
            have h113 : f 113 = .int .i64 (n1 : Nat) := hT 6 113 (by decide) rfl (hdn { on := 6, ground := .data } (by simp) rfl)
            generalize hA : fr _ _ _ f = A at hK ⊢
            have e113 : A.tmps[113]?.getD undef = f 113 := by rw [← hA]; exact fr_in _ _ _ _ 113 (by decide) (by simp)
            clear hA
            have HX := Lib.hid hX
            have HT := Lib.hid hT
            have HN := Lib.hid hni
            have HDN := Lib.hid hdn
            clear hX hT hni hdn
            have Hf113 := Lib.hid h113
            rw [h113] at e113
            clear h113
            have hwr : IntKind.i64.wrap ((n1 : Int) + 2) = (n1 : Int) + 2 := IntWalk.i64_in _ ⟨by omega, by omega⟩
            go_simp
            exact hK _ _ (Ev.refl _ _ _) (fun d hd => by injection hd with hd; subst hd; exact rfl) HX.out
          · simp only [List.getElem?_toArray, List.getElem?_cons_zero, List.getElem?_cons_succ, Option.some.injEq] at ho
            subst ho
            have h112 : f 112 = .pointer (some ⟨bd, 0, none⟩) := hT 5 112 (by decide) rfl (hdn { on := 5, ground := .data } (by simp) rfl)
            have h114 : f 114 = .int .i64 ((n1 : Nat) + 2) := hT 7 114 (by decide) rfl (hdn { on := 7, ground := .data } (by simp) rfl)
            generalize hA : fr _ _ _ f = A at hK ⊢
            have e112 : A.tmps[112]?.getD undef = f 112 := by rw [← hA]; exact fr_in _ _ _ _ 112 (by decide) (by simp)
            have e114 : A.tmps[114]?.getD undef = f 114 := by rw [← hA]; exact fr_in _ _ _ _ 114 (by decide) (by simp)
            clear hA
            have HX := Lib.hid hX
            have HT := Lib.hid hT
            have HN := Lib.hid hni
            have HDN := Lib.hid hdn
            clear hX hT hni hdn
            have Hf112 := Lib.hid h112
            rw [h112] at e112
            clear h112
            have Hf114 := Lib.hid h114
            rw [h114] at e114
            clear h114
            go_simp
            refine (next_any w1 bd HX.out.deck ((n1 : Int) + 2) (by omega)).mono ?_
            rintro e' w2 ⟨r2, rfl, hr2, _, hd2, hg2, hz2⟩
            have hfr := Fr.of_grown (bd := bd) hg2 (Nat.le_refl _)
            have hr3 := hr2 (by omega)
            exact hK _ _ (Ev.fr hfr) (fun d hd => by injection hd with hd; subst hd; exact ⟨r2, rfl, by omega⟩) (HX.out.fr hfr hd2)
          · simp only [List.getElem?_toArray, List.getElem?_cons_zero, List.getElem?_cons_succ, Option.some.injEq] at ho
            subst ho
            have h115 : ∃ r : Nat, f 115 = .int .i64 r ∧ r < 1000 := hT 8 115 (by decide) rfl (hdn { on := 8, ground := .data } (by simp) rfl)
            generalize hA : fr _ _ _ f = A at hK ⊢
            have e115 : A.tmps[115]?.getD undef = f 115 := by rw [← hA]; exact fr_in _ _ _ _ 115 (by decide) (by simp)
            clear hA
            have HX := Lib.hid hX
            have HT := Lib.hid hT
            have HN := Lib.hid hni
            have HDN := Lib.hid hdn
            clear hX hT hni hdn
            obtain ⟨r7, h115, hr7⟩ := h115
            have Hf115 := Lib.hid h115
            rw [h115] at e115
            clear h115
            go_simp
            exact hK _ _ (Ev.refl _ _ _) (fun d hd => by injection hd with hd; subst hd; exact ⟨_, rfl⟩) HX.out
          · simp only [List.getElem?_toArray, List.getElem?_cons_zero, List.getElem?_cons_succ, Option.some.injEq] at ho
            subst ho
            have h108 : f 108 = .slice (some ⟨ga, oa, none⟩) n2 c4 := hT 1 108 (by decide) rfl (hdn { on := 1, ground := .data } (by simp) rfl)
            have h111 : ∃ r : Nat, f 111 = .int .i64 r ∧ r < n2 := hT 4 111 (by decide) rfl (hdn { on := 4, ground := .data } (by simp) rfl)
            generalize hA : fr _ _ _ f = A at hK ⊢
            have e108 : A.tmps[108]?.getD undef = f 108 := by rw [← hA]; exact fr_in _ _ _ _ 108 (by decide) (by simp)
            have e111 : A.tmps[111]?.getD undef = f 111 := by rw [← hA]; exact fr_in _ _ _ _ 111 (by decide) (by simp)
            clear hA
            have HX := Lib.hid hX
            have HT := Lib.hid hT
            have HN := Lib.hid hni
            have HDN := Lib.hid hdn
            clear hX hT hni hdn
            have Hf108 := Lib.hid h108
            rw [h108] at e108
            clear h108
            obtain ⟨ra, h111, hra⟩ := h111
            have Hf111 := Lib.hid h111
            rw [h111] at e111
            clear h111
            go_simp
            exact hK _ _ (Ev.refl _ _ _) (fun d hd => by injection hd with hd; subst hd; exact ⟨ra, rfl, hra⟩) HX.out
          · simp only [List.getElem?_toArray, List.getElem?_cons_zero, List.getElem?_cons_succ, Option.some.injEq] at ho
            subst ho
            have h117 : ∃ r : Nat, f 117 = .pointer (some ⟨ga, oa + r * 5, none⟩) ∧ r < n2 := hT 10 117 (by decide) rfl (hdn { on := 10, ground := .data } (by simp) rfl)
            generalize hA : fr _ _ _ f = A at hK ⊢
            have e117 : A.tmps[117]?.getD undef = f 117 := by rw [← hA]; exact fr_in _ _ _ _ 117 (by decide) (by simp)
            clear hA
            have HX := Lib.hid hX
            have HT := Lib.hid hT
            have HN := Lib.hid hni
            have HDN := Lib.hid hdn
            clear hX hT hni hdn
            obtain ⟨ra, h117, hra⟩ := h117
            have Hf117 := Lib.hid h117
            rw [h117] at e117
            clear h117
            go_simp
            exact hK _ _ (Ev.refl _ _ _) (fun d hd => by injection hd with hd; subst hd; exact ⟨ra, rfl, hra⟩) HX.out
          · simp only [List.getElem?_toArray, List.getElem?_cons_zero, List.getElem?_cons_succ, Option.some.injEq] at ho
            subst ho
            have h118 : ∃ r : Nat, f 118 = .pointer (some ⟨ga, oa + r * 5 + 2, none⟩) ∧ r < n2 := hT 11 118 (by decide) rfl (hdn { on := 11, ground := .data } (by simp) rfl)
            have h116 : ∃ u : Int, f 116 = .int .i64 u := hT 9 116 (by decide) rfl (hdn { on := 9, ground := .data } (by simp) rfl)
            generalize hA : fr _ _ _ f = A at hK ⊢
            have e118 : A.tmps[118]?.getD undef = f 118 := by rw [← hA]; exact fr_in _ _ _ _ 118 (by decide) (by simp)
            have e116 : A.tmps[116]?.getD undef = f 116 := by rw [← hA]; exact fr_in _ _ _ _ 116 (by decide) (by simp)
            clear hA
            have HX := Lib.hid hX
            have HT := Lib.hid hT
            have HN := Lib.hid hni
            have HDN := Lib.hid hdn
            clear hX hT hni hdn
            obtain ⟨ra, h118, hra⟩ := h118
            have Hf118 := Lib.hid h118
            rw [h118] at e118
            clear h118
            obtain ⟨u9, h116⟩ := h116
            have Hf116 := Lib.hid h116
            rw [h116] at e116
            clear h116
            obtain ⟨⟨q, hc⟩, hfz, hX2⟩ := HX.out.setDev hra (.int .i64 u9) (j := 2) (.inr ⟨by decide, _, rfl⟩) rfl
            have HX2 := Lib.hid hX2
            clear hX2
            go_simp
            exact hK undef _ (Ev.set rfl) (fun d hd => by cases hd) HX2.out
        · intro dn f w1 hX hdn hall
          clear hdn hall
          simp only [fr, upd, List.mapIdx_cons, List.mapIdx_nil]
          simp
          go_wp2_with fail
          go_meet
          case rel => exact ⟨_, c4, n2, by omega, by omega, hX⟩
      · skip
        have b0 : ((r : Int) == 0) = false := by rw [hk.out]; decide
        have b1 : ((r : Int) == 1) = false := by rw [hk.out]; decide
        have b2 : ((r : Int) == 2) = false := by rw [hk.out]; decide
        have b3 : ((r : Int) == 3) = false := by rw [hk.out]; decide
        have b4 : ((r : Int) == 4) = false := by rw [hk.out]; decide
        have b5 : ((r : Int) == 5) = false := by rw [hk.out]; decide
        have b6 : ((r : Int) == 6) = true := by rw [hk.out]; decide
        obtain ⟨ga, oa, rfl⟩ := hO.dev_at hn2'
        go_wp2_with (fail)
        clear b0 b1 b2 b3 b4 b5 b6
        refine wp_region_ext2X (by kernel_rfl) 13 [121, 122, 123, 124, 125, 126, 127, 128, 129, 130, 131, 132] (Ev bd (some ⟨ga, oa, none⟩)) (fun d v w' => if d = 121 then v = .pointer (some ⟨gb, 1, none⟩) else if d = 122 then v = .slice (some ⟨ga, oa, none⟩) n2 c4 else if d = 123 then v = .pointer (some ⟨bd, 0, none⟩) else if d = 124 then v = .int .i64 (n2 : Nat) else if d = 126 then v = .pointer (some ⟨bd, 0, none⟩) else if d = 127 then v = .int .i64 (n1 : Nat) else if d = 128 then v = .int .i64 ((n1 : Nat) + 2) else if d = 125 then ∃ r : Nat, v = .int .i64 r ∧ r < n2 else if d = 129 then ∃ r : Nat, v = .int .i64 r ∧ r < 1000 else if d = 130 then ∃ u : Int, v = .int .i64 u else if d = 131 then ∃ r : Nat, v = .pointer (some ⟨ga, oa + r * 5, none⟩) ∧ r < n2 else if d = 132 then ∃ r : Nat, v = .pointer (some ⟨ga, oa + r * 5 + 3, none⟩) ∧ r < n2 else False) (fun _ _ W' => ODx w bd gb A3 c3 n1 (some ⟨ga, oa, none⟩) c4 n2 W') (by kernel_rfl) (hO.below ((Below.refl _ _).drew)) (fun _ _ _ _ _ hT => hT) ?_ ?_
        · intro i o hi ho dn f w1 hX hT hni hdn K hK
          have hi' : i = 0 ∨ i = 1 ∨ i = 2 ∨ i = 3 ∨ i = 4 ∨ i = 5 ∨ i = 6 ∨ i = 7 ∨ i = 8 ∨ i = 9 ∨ i = 10 ∨ i = 11 ∨ i = 12 := by omega
          rcases hi' with rfl | rfl | rfl | rfl | rfl | rfl | rfl | rfl | rfl | rfl | rfl | rfl | rfl
          · simp only [List.getElem?_toArray, List.getElem?_cons_zero, Option.some.injEq] at ho
            subst ho
            generalize hA : fr _ _ _ f = A at hK ⊢
            have e3 : A.tmps[3]?.getD undef = .pointer (some ⟨gb, 0, none⟩) := by rw [← hA]; exact fr_out _ _ _ _ 3 _ (by decide) rfl
            clear hA
            have HX := Lib.hid hX
            have HT := Lib.hid hT
            have HN := Lib.hid hni
            have HDN := Lib.hid hdn
            clear hX hT hni hdn
            go_simp
            exact hK _ _ (Ev.refl _ _ _) (fun d hd => by injection hd with hd; subst hd; exact rfl) HX.out
          · simp only [List.getElem?_toArray, List.getElem?_cons_zero, List.getElem?_cons_succ, Option.some.injEq] at ho
            subst ho
            have h121 : f 121 = .pointer (some ⟨gb, 1, none⟩) := hT 0 121 (by decide) rfl (hdn { on := 0, ground := .data } (by simp) rfl)
            generalize hA : fr _ _ _ f = A at hK ⊢
            have e121 : A.tmps[121]?.getD undef = f 121 := by rw [← hA]; exact fr_in _ _ _ _ 121 (by decide) (by simp)
            clear hA
            have HX := Lib.hid hX
            have HT := Lib.hid hT
            have HN := Lib.hid hni
            have HDN := Lib.hid hdn
            clear hX hT hni hdn
            have Hf121 := Lib.hid h121
            rw [h121] at e121
            clear h121
            have hcell := HX.out.k1
            go_simp
            exact hK _ _ (Ev.refl _ _ _) (fun d hd => by injection hd with hd; subst hd; exact rfl) HX.out
          · simp only [List.getElem?_toArray, List.getElem?_cons_zero, List.getElem?_cons_succ, Option.some.injEq] at ho
            subst ho
            generalize hA : fr _ _ _ f = A at hK ⊢
            have e0 : A.tmps[0]?.getD undef = .pointer (some ⟨bd, 0, none⟩) := by rw [← hA]; exact fr_out _ _ _ _ 0 _ (by decide) rfl
            clear hA
            have HX := Lib.hid hX
            have HT := Lib.hid hT
            have HN := Lib.hid hni
            have HDN := Lib.hid hdn
            clear hX hT hni hdn
            go_simp
            exact hK _ _ (Ev.refl _ _ _) (fun d hd => by injection hd with hd; subst hd; exact rfl) HX.out
          · simp only [List.getElem?_toArray, List.getElem?_cons_zero, List.getElem?_cons_succ, Option.some.injEq] at ho
            subst ho
            generalize hA : fr _ _ _ f = A at hK ⊢
            have e6 : A.tmps[6]?.getD undef = .int .i64 (n2 : Nat) := by rw [← hA]; exact fr_out _ _ _ _ 6 _ (by decide) rfl
            clear hA
            have HX := Lib.hid hX
            have HT := Lib.hid hT
            have HN := Lib.hid hni
            have HDN := Lib.hid hdn
            clear hX hT hni hdn
            go_simp
            exact hK _ _ (Ev.refl _ _ _) (fun d hd => by injection hd with hd; subst hd; exact rfl) HX.out
          · simp only [List.getElem?_toArray, List.getElem?_cons_zero, List.getElem?_cons_succ, Option.some.injEq] at ho
            subst ho
            have h123 : f 123 = .pointer (some ⟨bd, 0, none⟩) := hT 2 123 (by decide) rfl (hdn { on := 2, ground := .data } (by simp) rfl)
            have h124 : f 124 = .int .i64 (n2 : Nat) := hT 3 124 (by decide) rfl (hdn { on := 3, ground := .data } (by simp) rfl)
            generalize hA : fr _ _ _ f = A at hK ⊢
            have e123 : A.tmps[123]?.getD undef = f 123 := by rw [← hA]; exact fr_in _ _ _ _ 123 (by decide) (by simp)
            have e124 : A.tmps[124]?.getD undef = f 124 := by rw [← hA]; exact fr_in _ _ _ _ 124 (by decide) (by simp)
            clear hA
            have HX := Lib.hid hX
            have HT := Lib.hid hT
            have HN := Lib.hid hni
            have HDN := Lib.hid hdn
            clear hX hT hni hdn
            have Hf123 := Lib.hid h123
            rw [h123] at e123
            clear h123
            have Hf124 := Lib.hid h124
            rw [h124] at e124
            clear h124
            go_simp
            refine (next_any w1 bd HX.out.deck n2 (by omega)).mono ?_
            rintro e' w2 ⟨r2, rfl, hr2, _, hd2, hg2, hz2⟩
            have hfr := Fr.of_grown (bd := bd) hg2 (Nat.le_refl _)
            have hr3 := hr2 (by omega)
            exact hK _ _ (Ev.fr hfr) (fun d hd => by injection hd with hd; subst hd; exact ⟨r2, rfl, by omega⟩) (HX.out.fr hfr hd2)
          · simp only [List.getElem?_toArray, List.getElem?_cons_zero, List.getElem?_cons_succ, Option.some.injEq] at ho
            subst ho
            generalize hA : fr _ _ _ f = A at hK ⊢
            have e0 : A.tmps[0]?.getD undef = .pointer (some ⟨bd, 0, none⟩) := by rw [← hA]; exact fr_out _ _ _ _ 0 _ (by decide) rfl
            clear hA
            have HX := Lib.hid hX
            have HT := Lib.hid hT
            have HN := Lib.hid hni
            have HDN := Lib.hid hdn
            clear hX hT hni hdn
            go_simp
            exact hK _ _ (Ev.refl _ _ _) (fun d hd => by injection hd with hd; subst hd; exact rfl) HX.out
          · simp only [List.getElem?_toArray, List.getElem?_cons_zero, List.getElem?_cons_succ, Option.some.injEq] at ho
            subst ho
            generalize hA : fr _ _ _ f = A at hK ⊢
            have e5 : A.tmps[5]?.getD undef = .int .i64 (n1 : Nat) := by rw [← hA]; exact fr_out _ _ _ _ 5 _ (by decide) rfl
            clear hA
            have HX := Lib.hid hX
            have HT := Lib.hid hT
            have HN := Lib.hid hni
            have HDN := Lib.hid hdn
            clear hX hT hni hdn
            go_simp
            exact hK _ _ (Ev.refl _ _ _) (fun d hd => by injection hd with hd; subst hd; exact rfl) HX.out
          · simp only [List.getElem?_toArray, List.getElem?_cons_zero, List.getElem?_cons_succ, Option.some.injEq] at ho
            subst ho
            have h127 : f 127 = .int .i64 (n1 : Nat) := hT 6 127 (by decide) rfl (hdn { on := 6, ground := .data } (by simp) rfl)
            generalize hA : fr _ _ _ f = A at hK ⊢
            have e127 : A.tmps[127]?.getD undef = f 127 := by rw [← hA]; exact fr_in _ _ _ _ 127 (by decide) (by simp)
            clear hA
            have HX := Lib.hid hX
            have HT := Lib.hid hT
            have HN := Lib.hid hni
            have HDN := Lib.hid hdn
            clear hX hT hni hdn
            have Hf127 := Lib.hid h127
            rw [h127] at e127
            clear h127
            have hwr : IntKind.i64.wrap ((n1 : Int) + 2) = (n1 : Int) + 2 := IntWalk.i64_in _ ⟨by omega, by omega⟩
            go_simp
            exact hK _ _ (Ev.refl _ _ _) (fun d hd => by injection hd with hd; subst hd; exact rfl) HX.out
          · simp only [List.getElem?_toArray, List.getElem?_cons_zero, List.getElem?_cons_succ, Option.some.injEq] at ho
            subst ho
            have h126 : f 126 = .pointer (some ⟨bd, 0, none⟩) := hT 5 126 (by decide) rfl (hdn { on := 5, ground := .data } (by simp) rfl)
            have h128 : f 128 = .int .i64 ((n1 : Nat) + 2) := hT 7 128 (by decide) rfl (hdn { on := 7, ground := .data } (by simp) rfl)
            generalize hA : fr _ _ _ f = A at hK ⊢
            have e126 : A.tmps[126]?.getD undef = f 126 := by rw [← hA]; exact fr_in _ _ _ _ 126 (by decide) (by simp)
            have e128 : A.tmps[128]?.getD undef = f 128 := by rw [← hA]; exact fr_in _ _ _ _ 128 (by decide) (by simp)
            clear hA
            have HX := Lib.hid hX
            have HT := Lib.hid hT
            have HN := Lib.hid hni
            have HDN := Lib.hid hdn
            clear hX hT hni hdn
            have Hf126 := Lib.hid h126
            rw [h126] at e126
            clear h126
            have Hf128 := Lib.hid h128
            rw [h128] at e128
            clear h128
            go_simp
            refine (next_any w1 bd HX.out.deck ((n1 : Int) + 2) (by omega)).mono ?_
            rintro e' w2 ⟨r2, rfl, hr2, _, hd2, hg2, hz2⟩
            have hfr := Fr.of_grown (bd := bd) hg2 (Nat.le_refl _)
            have hr3 := hr2 (by omega)
            exact hK _ _ (Ev.fr hfr) (fun d hd => by injection hd with hd; subst hd; exact ⟨r2, rfl, by omega⟩) (HX.out.fr hfr hd2)
          · simp only [List.getElem?_toArray, List.getElem?_cons_zero, List.getElem?_cons_succ, Option.some.injEq] at ho
            subst ho
            have h129 : ∃ r : Nat, f 129 = .int .i64 r ∧ r < 1000 := hT 8 129 (by decide) rfl (hdn { on := 8, ground := .data } (by simp) rfl)
            generalize hA : fr _ _ _ f = A at hK ⊢
            have e129 : A.tmps[129]?.getD undef = f 129 := by rw [← hA]; exact fr_in _ _ _ _ 129 (by decide) (by simp)
            clear hA
            have HX := Lib.hid hX
            have HT := Lib.hid hT
            have HN := Lib.hid hni
            have HDN := Lib.hid hdn
            clear hX hT hni hdn
            obtain ⟨r7, h129, hr7⟩ := h129
            have Hf129 := Lib.hid h129
            rw [h129] at e129
            clear h129
            go_simp
            exact hK _ _ (Ev.refl _ _ _) (fun d hd => by injection hd with hd; subst hd; exact ⟨_, rfl⟩) HX.out
          · simp only [List.getElem?_toArray, List.getElem?_cons_zero, List.getElem?_cons_succ, Option.some.injEq] at ho
            subst ho
            have h122 : f 122 = .slice (some ⟨ga, oa, none⟩) n2 c4 := hT 1 122 (by decide) rfl (hdn { on := 1, ground := .data } (by simp) rfl)
            have h125 : ∃ r : Nat, f 125 = .int .i64 r ∧ r < n2 := hT 4 125 (by decide) rfl (hdn { on := 4, ground := .data } (by simp) rfl)
            generalize hA : fr _ _ _ f = A at hK ⊢
            have e122 : A.tmps[122]?.getD undef = f 122 := by rw [← hA]; exact fr_in _ _ _ _ 122 (by decide) (by simp)
            have e125 : A.tmps[125]?.getD undef = f 125 := by rw [← hA]; exact fr_in _ _ _ _ 125 (by decide) (by simp)
            clear hA
            have HX := Lib.hid hX
            have HT := Lib.hid hT
            have HN := Lib.hid hni
            have HDN := Lib.hid hdn
            clear hX hT hni hdn
            have Hf122 := Lib.hid h122
            rw [h122] at e122
            clear h122
            obtain ⟨ra, h125, hra⟩ := h125
            have Hf125 := Lib.hid h125
            rw [h125] at e125
            clear h125
            go_simp
            exact hK _ _ (Ev.refl _ _ _) (fun d hd => by injection hd with hd; subst hd; exact ⟨ra, rfl, hra⟩) HX.out
          · simp only [List.getElem?_toArray, List.getElem?_cons_zero, List.getElem?_cons_succ, Option.some.injEq] at ho
            subst ho
            have h131 : ∃ r : Nat, f 131 = .pointer (some ⟨ga, oa + r * 5, none⟩) ∧ r < n2 := hT 10 131 (by decide) rfl (hdn { on := 10, ground := .data } (by simp) rfl)
            generalize hA : fr _ _ _ f = A at hK ⊢
            have e131 : A.tmps[131]?.getD undef = f 131 := by rw [← hA]; exact fr_in _ _ _ _ 131 (by decide) (by simp)
            clear hA
            have HX := Lib.hid hX
            have HT := Lib.hid hT
            have HN := Lib.hid hni
            have HDN := Lib.hid hdn
            clear hX hT hni hdn
            obtain ⟨ra, h131, hra⟩ := h131
            have Hf131 := Lib.hid h131
            rw [h131] at e131
            clear h131
            go_simp
            exact hK _ _ (Ev.refl _ _ _) (fun d hd => by injection hd with hd; subst hd; exact ⟨ra, rfl, hra⟩) HX.out
          · simp only [List.getElem?_toArray, List.getElem?_cons_zero, List.getElem?_cons_succ, Option.some.injEq] at ho
            subst ho
            have h132 : ∃ r : Nat, f 132 = .pointer (some ⟨ga, oa + r * 5 + 3, none⟩) ∧ r < n2 := hT 11 132 (by decide) rfl (hdn { on := 11, ground := .data } (by simp) rfl)
            have h130 : ∃ u : Int, f 130 = .int .i64 u := hT 9 130 (by decide) rfl (hdn { on := 9, ground := .data } (by simp) rfl)
            generalize hA : fr _ _ _ f = A at hK ⊢
            have e132 : A.tmps[132]?.getD undef = f 132 := by rw [← hA]; exact fr_in _ _ _ _ 132 (by decide) (by simp)
            have e130 : A.tmps[130]?.getD undef = f 130 := by rw [← hA]; exact fr_in _ _ _ _ 130 (by decide) (by simp)
            clear hA
            have HX := Lib.hid hX
            have HT := Lib.hid hT
            have HN := Lib.hid hni
            have HDN := Lib.hid hdn
            clear hX hT hni hdn
            obtain ⟨ra, h132, hra⟩ := h132
            have Hf132 := Lib.hid h132
            rw [h132] at e132
            clear h132
            obtain ⟨u9, h130⟩ := h130
            have Hf130 := Lib.hid h130
            rw [h130] at e130
            clear h130
            obtain ⟨⟨q, hc⟩, hfz, hX2⟩ := HX.out.setDev hra (.int .i64 u9) (j := 3) (.inr ⟨by decide, _, rfl⟩) rfl
            have HX2 := Lib.hid hX2
            clear hX2
            go_simp
            exact hK undef _ (Ev.set rfl) (fun d hd => by cases hd) HX2.out
        · intro dn f w1 hX hdn hall
          clear hdn hall
          simp only [fr, upd, List.mapIdx_cons, List.mapIdx_nil]
          simp
          go_wp2_with fail
          go_meet
          case rel => exact ⟨_, c4, n2, by omega, by omega, hX⟩
      · skip
        have b0 : ((r : Int) == 0) = false := by rw [hk.out]; decide
        have b1 : ((r : Int) == 1) = false := by rw [hk.out]; decide
        have b2 : ((r : Int) == 2) = false := by rw [hk.out]; decide
        have b3 : ((r : Int) == 3) = false := by rw [hk.out]; decide
        have b4 : ((r : Int) == 4) = false := by rw [hk.out]; decide
        have b5 : ((r : Int) == 5) = false := by rw [hk.out]; decide
        have b6 : ((r : Int) == 6) = false := by rw [hk.out]; decide
        have b7 : ((r : Int) == 7) = true := by rw [hk.out]; decide
        obtain ⟨ga, oa, rfl⟩ := hO.dev_at hn2'
        go_wp2_with (fail)
        clear b0 b1 b2 b3 b4 b5 b6 b7
        refine wp_region_ext2X (by kernel_rfl) 13 [135, 136, 137, 138, 139, 140, 141, 142, 143, 144, 145, 146] (Ev bd (some ⟨ga, oa, none⟩)) (fun d v w' => if d = 135 then v = .pointer (some ⟨gb, 1, none⟩) else if d = 136 then v = .slice (some ⟨ga, oa, none⟩) n2 c4 else if d = 137 then v = .pointer (some ⟨bd, 0, none⟩) else if d = 138 then v = .int .i64 (n2 : Nat) else if d = 141 then v = .pointer (some ⟨bd, 0, none⟩) else if d = 139 then ∃ r : Nat, v = .int .i64 r ∧ r < n2 else if d = 140 then ∃ g : Nat, v = .slice (some ⟨g, 0, none⟩) 3 3 ∧ Lits bd (some ⟨ga, oa, none⟩) #[.int .i64 (-1), .int .i64 7, .int .i64 8] 3 g w' else if d = 142 then ∃ r : Nat, v = .int .i64 r ∧ r < 3 else if d = 143 then ∃ g r : Nat, v = .pointer (some ⟨g, r, none⟩) ∧ r < 3 ∧ Lits bd (some ⟨ga, oa, none⟩) #[.int .i64 (-1), .int .i64 7, .int .i64 8] 3 g w' else if d = 144 then ∃ u : Int, v = .int .i64 u else if d = 145 then ∃ r : Nat, v = .pointer (some ⟨ga, oa + r * 5, none⟩) ∧ r < n2 else if d = 146 then ∃ r : Nat, v = .pointer (some ⟨ga, oa + r * 5 + 4, none⟩) ∧ r < n2 else False) (fun _ _ W' => ODx w bd gb A3 c3 n1 (some ⟨ga, oa, none⟩) c4 n2 W') (by kernel_rfl) (hO.below ((Below.refl _ _).drew)) (fun d v a b hE hT => by
            by_cases h140 : d = 140
            · subst h140
              obtain ⟨g, e1, e2⟩ := hT
              exact ⟨g, e1, e2.ev hE⟩
            by_cases h143 : d = 143
            · subst h143
              obtain ⟨g, r, e1, e2, e3⟩ := hT
              exact ⟨g, r, e1, e2, e3.ev hE⟩
            simp only [if_neg h140, if_neg h143] at hT ⊢
            exact hT) ?_ ?_
        · intro i o hi ho dn f w1 hX hT hni hdn K hK
          have hi' : i = 0 ∨ i = 1 ∨ i = 2 ∨ i = 3 ∨ i = 4 ∨ i = 5 ∨ i = 6 ∨ i = 7 ∨ i = 8 ∨ i = 9 ∨ i = 10 ∨ i = 11 ∨ i = 12 := by omega
          rcases hi' with rfl | rfl | rfl | rfl | rfl | rfl | rfl | rfl | rfl | rfl | rfl | rfl | rfl
          · simp only [List.getElem?_toArray, List.getElem?_cons_zero, Option.some.injEq] at ho
            subst ho
            generalize hA : fr _ _ _ f = A at hK ⊢
            have e3 : A.tmps[3]?.getD undef = .pointer (some ⟨gb, 0, none⟩) := by rw [← hA]; exact fr_out _ _ _ _ 3 _ (by decide) rfl
            clear hA
            have HX := Lib.hid hX
            have HT := Lib.hid hT
            have HN := Lib.hid hni
            have HDN := Lib.hid hdn
            clear hX hT hni hdn
            go_simp
            exact hK _ _ (Ev.refl _ _ _) (fun d hd => by injection hd with hd; subst hd; exact rfl) HX.out
          · simp only [List.getElem?_toArray, List.getElem?_cons_zero, List.getElem?_cons_succ, Option.some.injEq] at ho
            subst ho
            have h135 : f 135 = .pointer (some ⟨gb, 1, none⟩) := hT 0 135 (by decide) rfl (hdn { on := 0, ground := .data } (by simp) rfl)
            generalize hA : fr _ _ _ f = A at hK ⊢
            have e135 : A.tmps[135]?.getD undef = f 135 := by rw [← hA]; exact fr_in _ _ _ _ 135 (by decide) (by simp)
            clear hA
            have HX := Lib.hid hX
            have HT := Lib.hid hT
            have HN := Lib.hid hni
            have HDN := Lib.hid hdn
            clear hX hT hni hdn
            have Hf135 := Lib.hid h135
            rw [h135] at e135
            clear h135
            have hcell := HX.out.k1
            go_simp
            exact hK _ _ (Ev.refl _ _ _) (fun d hd => by injection hd with hd; subst hd; exact rfl) HX.out
          · simp only [List.getElem?_toArray, List.getElem?_cons_zero, List.getElem?_cons_succ, Option.some.injEq] at ho
            subst ho
            generalize hA : fr _ _ _ f = A at hK ⊢
            have e0 : A.tmps[0]?.getD undef = .pointer (some ⟨bd, 0, none⟩) := by rw [← hA]; exact fr_out _ _ _ _ 0 _ (by decide) rfl
            clear hA
            have HX := Lib.hid hX
            have HT := Lib.hid hT
            have HN := Lib.hid hni
            have HDN := Lib.hid hdn
            clear hX hT hni hdn
            go_simp
            exact hK _ _ (Ev.refl _ _ _) (fun d hd => by injection hd with hd; subst hd; exact rfl) HX.out
          · simp only [List.getElem?_toArray, List.getElem?_cons_zero, List.getElem?_cons_succ, Option.some.injEq] at ho
            subst ho
            generalize hA : fr _ _ _ f = A at hK ⊢
            have e6 : A.tmps[6]?.getD undef = .int .i64 (n2 : Nat) := by rw [← hA]; exact fr_out _ _ _ _ 6 _ (by decide) rfl
            clear hA
            have HX := Lib.hid hX
            have HT := Lib.hid hT
            have HN := Lib.hid hni
            have HDN := Lib.hid hdn
            clear hX hT hni hdn
            go_simp
            exact hK _ _ (Ev.refl _ _ _) (fun d hd => by injection hd with hd; subst hd; exact rfl) HX.out
          · simp only [List.getElem?_toArray, List.getElem?_cons_zero, List.getElem?_cons_succ, Option.some.injEq] at ho
            subst ho
            have h137 : f 137 = .pointer (some ⟨bd, 0, none⟩) := hT 2 137 (by decide) rfl (hdn { on := 2, ground := .data } (by simp) rfl)
            have h138 : f 138 = .int .i64 (n2 : Nat) := hT 3 138 (by decide) rfl (hdn { on := 3, ground := .data } (by simp) rfl)
            generalize hA : fr _ _ _ f = A at hK ⊢
            have e137 : A.tmps[137]?.getD undef = f 137 := by rw [← hA]; exact fr_in _ _ _ _ 137 (by decide) (by simp)
            have e138 : A.tmps[138]?.getD undef = f 138 := by rw [← hA]; exact fr_in _ _ _ _ 138 (by decide) (by simp)
            clear hA
            have HX := Lib.hid hX
            have HT := Lib.hid hT
            have HN := Lib.hid hni
            have HDN := Lib.hid hdn
            clear hX hT hni hdn
            have Hf137 := Lib.hid h137
            rw [h137] at e137
            clear h137
            have Hf138 := Lib.hid h138
            rw [h138] at e138
            clear h138
            go_simp
            refine (next_any w1 bd HX.out.deck n2 (by omega)).mono ?_
            rintro e' w2 ⟨r2, rfl, hr2, _, hd2, hg2, hz2⟩
            have hfr := Fr.of_grown (bd := bd) hg2 (Nat.le_refl _)
            have hr3 := hr2 (by omega)
            exact hK _ _ (Ev.fr hfr) (fun d hd => by injection hd with hd; subst hd; exact ⟨r2, rfl, by omega⟩) (HX.out.fr hfr hd2)
          · simp only [List.getElem?_toArray, List.getElem?_cons_zero, List.getElem?_cons_succ, Option.some.injEq] at ho
            subst ho
            generalize hA : fr _ _ _ f = A at hK ⊢
            clear hA
            have HX := Lib.hid hX
            have HT := Lib.hid hT
            have HN := Lib.hid hni
            have HDN := Lib.hid hdn
            clear hX hT hni hdn
            go_simp
            have hnw := HX.out.new
            exact hK _ _ (Ev.alloc _ _ _ _) (fun d hd => by injection hd with hd; subst hd; exact ⟨w1.heap.size, rfl, hnw.1, hnw.2.2, heap_alloc_new w1 _⟩) (HX.out.below ((Below.refl _ _).alloc (Nat.le_refl _) _))
          · simp only [List.getElem?_toArray, List.getElem?_cons_zero, List.getElem?_cons_succ, Option.some.injEq] at ho
            subst ho
            generalize hA : fr _ _ _ f = A at hK ⊢
            have e0 : A.tmps[0]?.getD undef = .pointer (some ⟨bd, 0, none⟩) := by rw [← hA]; exact fr_out _ _ _ _ 0 _ (by decide) rfl
            clear hA
            have HX := Lib.hid hX
            have HT := Lib.hid hT
            have HN := Lib.hid hni
            have HDN := Lib.hid hdn
            clear hX hT hni hdn
            go_simp
            exact hK _ _ (Ev.refl _ _ _) (fun d hd => by injection hd with hd; subst hd; exact rfl) HX.out
          · simp only [List.getElem?_toArray, List.getElem?_cons_zero, List.getElem?_cons_succ, Option.some.injEq] at ho
            subst ho
            have h141 : f 141 = .pointer (some ⟨bd, 0, none⟩) := hT 6 141 (by decide) rfl (hdn { on := 6, ground := .data } (by simp) rfl)
            generalize hA : fr _ _ _ f = A at hK ⊢
            have e141 : A.tmps[141]?.getD undef = f 141 := by rw [← hA]; exact fr_in _ _ _ _ 141 (by decide) (by simp)
            clear hA
            have HX := Lib.hid hX
            have HT := Lib.hid hT
            have HN := Lib.hid hni
            have HDN := Lib.hid hdn
            clear hX hT hni hdn
            have Hf141 := Lib.hid h141
            rw [h141] at e141
            clear h141
            go_simp
            refine (next_any w1 bd HX.out.deck 3 (by omega)).mono ?_
            rintro e' w2 ⟨r2, rfl, hr2, _, hd2, hg2, hz2⟩
            have hfr := Fr.of_grown (bd := bd) hg2 (Nat.le_refl _)
            have hr3 := hr2 (by omega)
            exact hK _ _ (Ev.fr hfr) (fun d hd => by injection hd with hd; subst hd; exact ⟨r2, rfl, by omega⟩) (HX.out.fr hfr hd2)
          · simp only [List.getElem?_toArray, List.getElem?_cons_zero, List.getElem?_cons_succ, Option.some.injEq] at ho
            subst ho
            have h140 : ∃ g : Nat, f 140 = .slice (some ⟨g, 0, none⟩) 3 3 ∧ Lits bd (some ⟨ga, oa, none⟩) #[.int .i64 (-1), .int .i64 7, .int .i64 8] 3 g w1 := hT 5 140 (by decide) rfl (hdn { on := 5, ground := .data } (by simp) rfl)
            have h142 : ∃ r : Nat, f 142 = .int .i64 r ∧ r < 3 := hT 7 142 (by decide) rfl (hdn { on := 7, ground := .data } (by simp) rfl)
            generalize hA : fr _ _ _ f = A at hK ⊢
            have e140 : A.tmps[140]?.getD undef = f 140 := by rw [← hA]; exact fr_in _ _ _ _ 140 (by decide) (by simp)
            have e142 : A.tmps[142]?.getD undef = f 142 := by rw [← hA]; exact fr_in _ _ _ _ 142 (by decide) (by simp)
            clear hA
            have HX := Lib.hid hX
            have HT := Lib.hid hT
            have HN := Lib.hid hni
            have HDN := Lib.hid hdn
            clear hX hT hni hdn
            obtain ⟨g5, h140, hl5⟩ := h140
            have Hf140 := Lib.hid h140
            rw [h140] at e140
            clear h140
            obtain ⟨r7, h142, hr7⟩ := h142
            have Hf142 := Lib.hid h142
            rw [h142] at e142
            clear h142
            have HL5 := Lib.hid hl5
            have hr7' : (r7 : Int) < 3 := by omega
            clear hl5
            go_simp
            exact hK _ _ (Ev.refl _ _ _) (fun d hd => by injection hd with hd; subst hd; exact ⟨g5, r7, rfl, hr7, HL5.out⟩) HX.out
          · simp only [List.getElem?_toArray, List.getElem?_cons_zero, List.getElem?_cons_succ, Option.some.injEq] at ho
            subst ho
            have h143 : ∃ g r : Nat, f 143 = .pointer (some ⟨g, r, none⟩) ∧ r < 3 ∧ Lits bd (some ⟨ga, oa, none⟩) #[.int .i64 (-1), .int .i64 7, .int .i64 8] 3 g w1 := hT 8 143 (by decide) rfl (hdn { on := 8, ground := .data } (by simp) rfl)
            generalize hA : fr _ _ _ f = A at hK ⊢
            have e143 : A.tmps[143]?.getD undef = f 143 := by rw [← hA]; exact fr_in _ _ _ _ 143 (by decide) (by simp)
            clear hA
            have HX := Lib.hid hX
            have HT := Lib.hid hT
            have HN := Lib.hid hni
            have HDN := Lib.hid hdn
            clear hX hT hni hdn
            obtain ⟨g8, r8, h143, hr8, hl8⟩ := h143
            have Hf143 := Lib.hid h143
            rw [h143] at e143
            clear h143
            obtain ⟨u9, hu9⟩ := lit_7 r8 hr8
            have hcell : w1.cell? ⟨g8, r8, none⟩ = some (.int .i64 u9) := by rw [cell_of_row w1 g8 r8 _ _ _ hl8.2.2]; exact hu9
            clear hl8 hu9
            go_simp
            exact hK _ _ (Ev.refl _ _ _) (fun d hd => by injection hd with hd; subst hd; exact ⟨u9, rfl⟩) HX.out
          · simp only [List.getElem?_toArray, List.getElem?_cons_zero, List.getElem?_cons_succ, Option.some.injEq] at ho
            subst ho
            have h136 : f 136 = .slice (some ⟨ga, oa, none⟩) n2 c4 := hT 1 136 (by decide) rfl (hdn { on := 1, ground := .data } (by simp) rfl)
            have h139 : ∃ r : Nat, f 139 = .int .i64 r ∧ r < n2 := hT 4 139 (by decide) rfl (hdn { on := 4, ground := .data } (by simp) rfl)
            generalize hA : fr _ _ _ f = A at hK ⊢
            have e136 : A.tmps[136]?.getD undef = f 136 := by rw [← hA]; exact fr_in _ _ _ _ 136 (by decide) (by simp)
            have e139 : A.tmps[139]?.getD undef = f 139 := by rw [← hA]; exact fr_in _ _ _ _ 139 (by decide) (by simp)
            clear hA
            have HX := Lib.hid hX
            have HT := Lib.hid hT
            have HN := Lib.hid hni
            have HDN := Lib.hid hdn
            clear hX hT hni hdn
            have Hf136 := Lib.hid h136
            rw [h136] at e136
            clear h136
            obtain ⟨ra, h139, hra⟩ := h139
            have Hf139 := Lib.hid h139
            rw [h139] at e139
            clear h139
            go_simp
            exact hK _ _ (Ev.refl _ _ _) (fun d hd => by injection hd with hd; subst hd; exact ⟨ra, rfl, hra⟩) HX.out
          · simp only [List.getElem?_toArray, List.getElem?_cons_zero, List.getElem?_cons_succ, Option.some.injEq] at ho
            subst ho
            have h145 : ∃ r : Nat, f 145 = .pointer (some ⟨ga, oa + r * 5, none⟩) ∧ r < n2 := hT 10 145 (by decide) rfl (hdn { on := 10, ground := .data } (by simp) rfl)
            generalize hA : fr _ _ _ f = A at hK ⊢
            have e145 : A.tmps[145]?.getD undef = f 145 := by rw [← hA]; exact fr_in _ _ _ _ 145 (by decide) (by simp)
            clear hA
            have HX := Lib.hid hX
            have HT := Lib.hid hT
            have HN := Lib.hid hni
            have HDN := Lib.hid hdn
            clear hX hT hni hdn
            obtain ⟨ra, h145, hra⟩ := h145
            have Hf145 := Lib.hid h145
            rw [h145] at e145
            clear h145
            go_simp
            exact hK _ _ (Ev.refl _ _ _) (fun d hd => by injection hd with hd; subst hd; exact ⟨ra, rfl, hra⟩) HX.out
          · simp only [List.getElem?_toArray, List.getElem?_cons_zero, List.getElem?_cons_succ, Option.some.injEq] at ho
            subst ho
            have h146 : ∃ r : Nat, f 146 = .pointer (some ⟨ga, oa + r * 5 + 4, none⟩) ∧ r < n2 := hT 11 146 (by decide) rfl (hdn { on := 11, ground := .data } (by simp) rfl)
            have h144 : ∃ u : Int, f 144 = .int .i64 u := hT 9 144 (by decide) rfl (hdn { on := 9, ground := .data } (by simp) rfl)
            generalize hA : fr _ _ _ f = A at hK ⊢
            have e146 : A.tmps[146]?.getD undef = f 146 := by rw [← hA]; exact fr_in _ _ _ _ 146 (by decide) (by simp)
            have e144 : A.tmps[144]?.getD undef = f 144 := by rw [← hA]; exact fr_in _ _ _ _ 144 (by decide) (by simp)
            clear hA
            have HX := Lib.hid hX
            have HT := Lib.hid hT
            have HN := Lib.hid hni
            have HDN := Lib.hid hdn
            clear hX hT hni hdn
            obtain ⟨ra, h146, hra⟩ := h146
            have Hf146 := Lib.hid h146
            rw [h146] at e146
            clear h146
            obtain ⟨u9, h144⟩ := h144
            have Hf144 := Lib.hid h144
            rw [h144] at e144
            clear h144
            obtain ⟨⟨q, hc⟩, hfz, hX2⟩ := HX.out.setDev hra (.int .i64 u9) (j := 4) (.inr ⟨by decide, _, rfl⟩) rfl
            have HX2 := Lib.hid hX2
            clear hX2
            go_simp
            exact hK undef _ (Ev.set rfl) (fun d hd => by cases hd) HX2.out
        · intro dn f w1 hX hdn hall
          clear hdn hall
          simp only [fr, upd, List.mapIdx_cons, List.mapIdx_nil]
          simp
          go_wp2_with fail
          go_meet
          case rel => exact ⟨_, c4, n2, by omega, by omega, hX⟩
      · have b0 : ((r : Int) == 0) = false := by rw [hk.out]; decide
        have b1 : ((r : Int) == 1) = false := by rw [hk.out]; decide
        have b2 : ((r : Int) == 2) = false := by rw [hk.out]; decide
        have b3 : ((r : Int) == 3) = false := by rw [hk.out]; decide
        have b4 : ((r : Int) == 4) = false := by rw [hk.out]; decide
        have b5 : ((r : Int) == 5) = false := by rw [hk.out]; decide
        have b6 : ((r : Int) == 6) = false := by rw [hk.out]; decide
        have b7 : ((r : Int) == 7) = false := by rw [hk.out]; decide
        obtain ⟨ns0, ds0, e1, e2, O⟩ := hO
        have E1 := Lib.hid e1
        have E2 := Lib.hid e2
        clear e1 e2 hk
        go_wp2_with (fail)
        clear b0 b1 b2 b3 b4 b5 b6 b7
        go_loopg [7] 65 (fun g i wr => ∃ (k : Nat) (A5 : Option Addr) (c5 : Nat) (dd : List Dev), k + g = 65 ∧ i = .int .i64 k ∧ 0 < dd.length ∧ dd.length ≤ 60 + k ∧ OD w wr bd gb A3 c3 ns0 A5 c5 dd)
        case atStart => exact ⟨0, A4, c4, ds0, by omega, rfl, by rw [E2.out]; exact hn2', by rw [E2.out]; omega, O⟩
        case round =>
          clear O
          obtain ⟨k, A5, c5, dd, hk, rfl, hd0, hdk2, O⟩ := hrel
          have Hk := Lib.hid hk
          clear hk
          by_cases hlt : k ≤ 64
          · obtain ⟨ga, oa, hga, _⟩ := O.o2.cell (j := 0) (by rw [devsV_len]; omega)
            subst hga
            have hlt' : decide ((k : Int) ≤ 64) = true := decide_eq_true (by omega)
            have hO' := O.fr (Fr.of_below ((Below.refl wr.heap.size wr).drew)) (O.deck.below ((Below.refl wr.heap.size wr).drew))
            have hdsz2 : ∀ d ∈ dd ++ [dd[0]], d.name.size ≤ maxLen := fun d hd => by
              rcases List.mem_append.1 hd with hd | hd
              · exact O.dsz d hd
              · simp at hd; subst hd; exact O.dsz _ (List.getElem_mem _)
            have hgal : ga < wr.drew.heap.size := (OV.block O.o2 ga rfl).2
            clear O
            go_wp2_with (fail)
            refine wp_region_ext2X (by kernel_rfl) 10 [28, 29, 30, 31, 32, 33, 34, 35, 36] (Ev gb (some ⟨ga, oa, none⟩)) (fun d v w' => if d = 28 then v = .pointer (some ⟨gb, 1, none⟩) else if d = 29 then v = .slice (some ⟨ga, oa, none⟩) dd.length c5 else if d = 30 then v = .pointer (some ⟨gb, 1, none⟩) else if d = 31 then v = .slice (some ⟨ga, oa, none⟩) dd.length c5 else if d = 32 then v = .pointer (some ⟨ga, oa, none⟩) else if d = 33 then v = devAgg dd[0] else if d = 36 then v = .pointer (some ⟨gb, 1, none⟩) else if d = 34 then ∃ g : Nat, v = .slice (some ⟨g, 0, none⟩) 1 1 ∧ Lits gb (some ⟨ga, oa, none⟩) (devCells dd[0]).toArray 78 g w' else if d = 35 then ∃ A' c', v = .slice A' (dd.length + 1) c' else False) (fun dn f W' => OE w W' bd gb A3 c3 ns0 ∧ (dn 7 = false → OV W' (fun g => gb + 1 < g) 78 5 (some ⟨ga, oa, none⟩) dd.length c5 (devsV dd)) ∧ (dn 7 = true → ∃ A' c', f 35 = .slice A' (dd.length + 1) c' ∧ OV W' (fun g => gb + 1 < g) 78 5 A' (dd.length + 1) c' (devsV (dd ++ [dd[0]]))) ∧ W'.heap[gb]? = some (.cells #[.slice A3 ns0.length c3, if dn 9 = true then f 35 else .slice (some ⟨ga, oa, none⟩) dd.length c5] 26 (0, 0)) ∧ (dn 9 = true → dn 7 = true) ∧ (dn 7 = true → dn 1 = true) ∧ (dn 7 = true → dn 3 = true) ∧ (dn 7 = true → dn 5 = true) ∧ (dn 6 = true → dn 5 = true) ∧ (dn 5 = true → dn 4 = true) ∧ (dn 4 = true → dn 3 = true) ∧ ga < W'.heap.size) (by kernel_rfl) (⟨hO'.oe, fun _ => hO'.o2, fun h => (by cases h), hO'.box, fun h => h, fun h => (by cases h), fun h => (by cases h), fun h => (by cases h), fun h => h, fun h => h, fun h => h, hgal⟩) (fun d v a b hE hT => by
                by_cases h34 : d = 34
                · subst h34
                  obtain ⟨g, e1, e2⟩ := hT
                  exact ⟨g, e1, e2.ev hE⟩
                simp only [if_neg h34] at hT ⊢
                exact hT) ?_ ?_
            · intro i o hi ho dn f w1 hX hT hni hdn K hK
              have hi' : i = 0 ∨ i = 1 ∨ i = 2 ∨ i = 3 ∨ i = 4 ∨ i = 5 ∨ i = 6 ∨ i = 7 ∨ i = 8 ∨ i = 9 := by omega
              rcases hi' with rfl | rfl | rfl | rfl | rfl | rfl | rfl | rfl | rfl | rfl
              · simp only [List.getElem?_toArray, List.getElem?_cons_zero, Option.some.injEq] at ho
                subst ho
                generalize hA : fr _ _ _ f = A at hK ⊢
                have e3 : A.tmps[3]?.getD undef = .pointer (some ⟨gb, 0, none⟩) := by rw [← hA]; exact fr_out _ _ _ _ 3 _ (by decide) rfl
                clear hA
                have HX := Lib.hid hX
                have HT := Lib.hid hT
                have HN := Lib.hid hni
                have HDN := Lib.hid hdn
                clear hX hT hni hdn
                go_simp
                obtain ⟨x1, x2, x3, x4, x5, x6, x7, x8, x9, x10, x11, x12⟩ := HX.out
                exact hK _ _ (Ev.refl _ _ _) (fun d hd => by injection hd with hd; subst hd; exact rfl) ⟨x1, by simpa using x2, by simpa [nextF] using x3, by simpa [nextF] using x4, imp_dn x5 (by decide), imp_dn x6 (by decide), imp_dn x7 (by decide), imp_dn x8 (by decide), imp_dn x9 (by decide), imp_dn x10 (by decide), imp_dn x11 (by decide), x12⟩
              · simp only [List.getElem?_toArray, List.getElem?_cons_zero, List.getElem?_cons_succ, Option.some.injEq] at ho
                subst ho
                have h28 : f 28 = .pointer (some ⟨gb, 1, none⟩) := hT 0 28 (by decide) rfl (hdn { on := 0, ground := .data } (by simp) rfl)
                generalize hA : fr _ _ _ f = A at hK ⊢
                have e28 : A.tmps[28]?.getD undef = f 28 := by rw [← hA]; exact fr_in _ _ _ _ 28 (by decide) (by simp)
                clear hA
                have HX := Lib.hid hX
                have HT := Lib.hid hT
                have HN := Lib.hid hni
                have HDN := Lib.hid hdn
                clear hX hT hni hdn
                have Hf28 := Lib.hid h28
                rw [h28] at e28
                clear h28
                obtain ⟨x1, x2, x3, x4, x5, x6, x7, x8, x9, x10, x11, x12⟩ := HX.out
                have hn := HN.out
                have e7 : dn 7 = false := bfl x6 hn
                have e9 : dn 9 = false := bfl x5 e7
                simp only [e9, Bool.false_eq_true, if_false] at x4
                have hcell : w1.cell? ⟨gb, 1, none⟩ = some (.slice (some ⟨ga, oa, none⟩) dd.length c5) := by rw [cell_of_row w1 gb 1 _ _ _ x4]; rfl
                clear x1 x2 x3 x4 x5 x6 x7 x8 x9 x10 x11 x12 hn e7 e9
                go_simp
                obtain ⟨x1, x2, x3, x4, x5, x6, x7, x8, x9, x10, x11, x12⟩ := HX.out
                exact hK _ _ (Ev.refl _ _ _) (fun d hd => by injection hd with hd; subst hd; exact rfl) ⟨x1, by simpa using x2, by simpa [nextF] using x3, by simpa [nextF] using x4, imp_dn x5 (by decide), imp_dn x6 (by decide), imp_dn x7 (by decide), imp_dn x8 (by decide), imp_dn x9 (by decide), imp_dn x10 (by decide), imp_dn x11 (by decide), x12⟩
              · simp only [List.getElem?_toArray, List.getElem?_cons_zero, List.getElem?_cons_succ, Option.some.injEq] at ho
                subst ho
                generalize hA : fr _ _ _ f = A at hK ⊢
                have e3 : A.tmps[3]?.getD undef = .pointer (some ⟨gb, 0, none⟩) := by rw [← hA]; exact fr_out _ _ _ _ 3 _ (by decide) rfl
                clear hA
                have HX := Lib.hid hX
                have HT := Lib.hid hT
                have HN := Lib.hid hni
                have HDN := Lib.hid hdn
                clear hX hT hni hdn
                go_simp
                obtain ⟨x1, x2, x3, x4, x5, x6, x7, x8, x9, x10, x11, x12⟩ := HX.out
                exact hK _ _ (Ev.refl _ _ _) (fun d hd => by injection hd with hd; subst hd; exact rfl) ⟨x1, by simpa using x2, by simpa [nextF] using x3, by simpa [nextF] using x4, imp_dn x5 (by decide), imp_dn x6 (by decide), imp_dn x7 (by decide), imp_dn x8 (by decide), imp_dn x9 (by decide), imp_dn x10 (by decide), imp_dn x11 (by decide), x12⟩
              · simp only [List.getElem?_toArray, List.getElem?_cons_zero, List.getElem?_cons_succ, Option.some.injEq] at ho
                subst ho
                have h30 : f 30 = .pointer (some ⟨gb, 1, none⟩) := hT 2 30 (by decide) rfl (hdn { on := 2, ground := .data } (by simp) rfl)
                generalize hA : fr _ _ _ f = A at hK ⊢
                have e30 : A.tmps[30]?.getD undef = f 30 := by rw [← hA]; exact fr_in _ _ _ _ 30 (by decide) (by simp)
                clear hA
                have HX := Lib.hid hX
                have HT := Lib.hid hT
                have HN := Lib.hid hni
                have HDN := Lib.hid hdn
                clear hX hT hni hdn
                have Hf30 := Lib.hid h30
                rw [h30] at e30
                clear h30
                obtain ⟨x1, x2, x3, x4, x5, x6, x7, x8, x9, x10, x11, x12⟩ := HX.out
                have hn := HN.out
                have e7 : dn 7 = false := bfl x7 hn
                have e9 : dn 9 = false := bfl x5 e7
                simp only [e9, Bool.false_eq_true, if_false] at x4
                have hcell : w1.cell? ⟨gb, 1, none⟩ = some (.slice (some ⟨ga, oa, none⟩) dd.length c5) := by rw [cell_of_row w1 gb 1 _ _ _ x4]; rfl
                clear x1 x2 x3 x4 x5 x6 x7 x8 x9 x10 x11 x12 hn e7 e9
                go_simp
                obtain ⟨x1, x2, x3, x4, x5, x6, x7, x8, x9, x10, x11, x12⟩ := HX.out
                exact hK _ _ (Ev.refl _ _ _) (fun d hd => by injection hd with hd; subst hd; exact rfl) ⟨x1, by simpa using x2, by simpa [nextF] using x3, by simpa [nextF] using x4, imp_dn x5 (by decide), imp_dn x6 (by decide), imp_dn x7 (by decide), imp_dn x8 (by decide), imp_dn x9 (by decide), imp_dn x10 (by decide), imp_dn x11 (by decide), x12⟩
              · simp only [List.getElem?_toArray, List.getElem?_cons_zero, List.getElem?_cons_succ, Option.some.injEq] at ho
                subst ho
                have h31 : f 31 = .slice (some ⟨ga, oa, none⟩) dd.length c5 := hT 3 31 (by decide) rfl (hdn { on := 3, ground := .data } (by simp) rfl)
                have hd3 : dn 3 = true := hdn { on := 3, ground := .data } (by simp) rfl
                generalize hA : fr _ _ _ f = A at hK ⊢
                have e31 : A.tmps[31]?.getD undef = f 31 := by rw [← hA]; exact fr_in _ _ _ _ 31 (by decide) (by simp)
                clear hA
                have HX := Lib.hid hX
                have HT := Lib.hid hT
                have HN := Lib.hid hni
                have HDN := Lib.hid hdn
                clear hX hT hni hdn
                have Hf31 := Lib.hid h31
                rw [h31] at e31
                clear h31
                go_simp
                obtain ⟨x1, x2, x3, x4, x5, x6, x7, x8, x9, x10, x11, x12⟩ := HX.out
                exact hK _ _ (Ev.refl _ _ _) (fun d hd => by injection hd with hd; subst hd; exact rfl) ⟨x1, by simpa using x2, by simpa [nextF] using x3, by simpa [nextF] using x4, imp_dn x5 (by decide), imp_dn x6 (by decide), imp_dn x7 (by decide), imp_dn x8 (by decide), imp_dn x9 (by decide), imp_dn x10 (by decide), imp_dn' hd3, x12⟩
              · simp only [List.getElem?_toArray, List.getElem?_cons_zero, List.getElem?_cons_succ, Option.some.injEq] at ho
                subst ho
                have h32 : f 32 = .pointer (some ⟨ga, oa, none⟩) := hT 4 32 (by decide) rfl (hdn { on := 4, ground := .data } (by simp) rfl)
                have hd4 : dn 4 = true := hdn { on := 4, ground := .data } (by simp) rfl
                generalize hA : fr _ _ _ f = A at hK ⊢
                have e32 : A.tmps[32]?.getD undef = f 32 := by rw [← hA]; exact fr_in _ _ _ _ 32 (by decide) (by simp)
                clear hA
                have HX := Lib.hid hX
                have HT := Lib.hid hT
                have HN := Lib.hid hni
                have HDN := Lib.hid hdn
                clear hX hT hni hdn
                have Hf32 := Lib.hid h32
                rw [h32] at e32
                clear h32
                obtain ⟨x1, x2, x3, x4, x5, x6, x7, x8, x9, x10, x11, x12⟩ := HX.out
                have e7 : dn 7 = false := bfl x8 HN.out
                have ho := x2 e7
                obtain ⟨z0, z1, z2, z3, z4⟩ := ov_dev ho hd0
                clear x1 x2 x3 x4 x5 x6 x7 x8 x9 x10 x11 x12 e7 ho
                go_simp
                obtain ⟨x1, x2, x3, x4, x5, x6, x7, x8, x9, x10, x11, x12⟩ := HX.out
                exact hK _ _ (Ev.refl _ _ _) (fun d hd => by injection hd with hd; subst hd; exact rfl) ⟨x1, by simpa using x2, by simpa [nextF] using x3, by simpa [nextF] using x4, imp_dn x5 (by decide), imp_dn x6 (by decide), imp_dn x7 (by decide), imp_dn x8 (by decide), imp_dn x9 (by decide), imp_dn' hd4, imp_dn x11 (by decide), x12⟩
              · simp only [List.getElem?_toArray, List.getElem?_cons_zero, List.getElem?_cons_succ, Option.some.injEq] at ho
                subst ho
                have h33 : f 33 = devAgg dd[0] := hT 5 33 (by decide) rfl (hdn { on := 5, ground := .data } (by simp) rfl)
                have hd5 : dn 5 = true := hdn { on := 5, ground := .data } (by simp) rfl
                generalize hA : fr _ _ _ f = A at hK ⊢
                have e33 : A.tmps[33]?.getD undef = f 33 := by rw [← hA]; exact fr_in _ _ _ _ 33 (by decide) (by simp)
                clear hA
                have HX := Lib.hid hX
                have HT := Lib.hid hT
                have HN := Lib.hid hni
                have HDN := Lib.hid hdn
                clear hX hT hni hdn
                have Hf33 := Lib.hid h33
                rw [h33] at e33
                clear h33
                go_simp
                obtain ⟨x1, x2, x3, x4, x5, x6, x7, x8, x9, x10, x11, x12⟩ := HX.out
                have hgl : gb + 1 < w1.heap.size := x1.top
                have hga : some w1.heap.size ≠ blockOf (some ⟨ga, oa, none⟩) := fun e => by injection e with e; have e : w1.heap.size = ga := e; omega
                exact hK _ _ (Ev.alloc _ _ _ _) (fun d hd => by injection hd with hd; subst hd; exact ⟨w1.heap.size, rfl, by omega, hga, heap_alloc_new w1 _⟩) ⟨x1.alloc _, fun h => (x2 (by simpa using h)).keep (Kept.alloc _ _ _), fun h => (by obtain ⟨A', c', p1, p2⟩ := x3 (by simpa using h); exact ⟨A', c', by simpa [nextF] using p1, p2.keep (Kept.alloc _ _ _)⟩), by rw [Below.heap_alloc _ _ _ (by omega), x4]; simp [nextF], imp_dn x5 (by decide), imp_dn x6 (by decide), imp_dn x7 (by decide), imp_dn x8 (by decide), imp_dn' hd5, imp_dn x10 (by decide), imp_dn x11 (by decide), by simp; omega⟩
              · simp only [List.getElem?_toArray, List.getElem?_cons_zero, List.getElem?_cons_succ, Option.some.injEq] at ho
                subst ho
                have h29 : f 29 = .slice (some ⟨ga, oa, none⟩) dd.length c5 := hT 1 29 (by decide) rfl (hdn { on := 1, ground := .data } (by simp) rfl)
                have h34 : ∃ g : Nat, f 34 = .slice (some ⟨g, 0, none⟩) 1 1 ∧ Lits gb (some ⟨ga, oa, none⟩) (devCells dd[0]).toArray 78 g w1 := hT 6 34 (by decide) rfl (hdn { on := 6, ground := .data } (by simp) rfl)
                have hd1 : dn 1 = true := hdn { on := 1, ground := .data } (by simp) rfl
                have hd6 : dn 6 = true := hdn { on := 6, ground := .data } (by simp) rfl
                generalize hA : fr _ _ _ f = A at hK ⊢
                have e29 : A.tmps[29]?.getD undef = f 29 := by rw [← hA]; exact fr_in _ _ _ _ 29 (by decide) (by simp)
                have e34 : A.tmps[34]?.getD undef = f 34 := by rw [← hA]; exact fr_in _ _ _ _ 34 (by decide) (by simp)
                clear hA
                have HX := Lib.hid hX
                have HT := Lib.hid hT
                have HN := Lib.hid hni
                have HDN := Lib.hid hdn
                clear hX hT hni hdn
                have Hf29 := Lib.hid h29
                rw [h29] at e29
                clear h29
                obtain ⟨g34, h34, l34⟩ := h34
                have Hf34 := Lib.hid h34
                rw [h34] at e34
                clear h34
                obtain ⟨x1, x2, x3, x4, x5, x6, x7, x8, x9, x10, x11, x12⟩ := HX.out
                have hd5 := x9 hd6
                have hd4 := x10 hd5
                have hd3 := x11 hd4
                have hn := HN.out
                have e9 : dn 9 = false := bfl x5 hn
                have ho := x2 hn
                obtain ⟨i0, hi0, hz0, hz1, hz2⟩ := info_parts devInfo
                obtain ⟨A', c', w', hr, h2, h3, h4⟩ := run_append_OV (P := Tryd.prog) w1 (fun g => gb + 1 < g) 24 24 78 i0 _ 5 48 Tryd.underlying24 hi0 hz0 hz1 hz2 rfl (by decide) (some ⟨ga, oa, none⟩) dd.length c5 (devsV dd) ho (fun _ => True) (some ⟨g34, 0, none⟩) 1 1 (devCells dd[0]) rfl (SV.block l34.2.2) (devCells_one dd[0]) (by simp only [maxLen]; omega) (by omega)
                have hgl : gb + 1 < w1.heap.size := x1.top
                have hgA : ∀ k, k ≤ gb + 1 → some k ≠ blockOf (some ⟨ga, oa, none⟩) := fun k hk e => by have := (OV.block ho _ e.symm).1; omega
                refine wp_append (.tmp 29) (.tmp 34) 24 rfl (show A.eval (.tmp 29) = _ by simpa [Act.eval] using e29) (show A.eval (.tmp 34) = _ by simpa [Act.eval] using e34) hr ?_
                refine hK _ _ ⟨h3.size, fun k hk _ hne => h3.block k hk hne⟩ (fun d hd => by injection hd with hd; subst hd; exact ⟨A', c', rfl⟩) ⟨x1.grown h3 ho, fun h => by simp at h, fun _ => ⟨A', c', rfl, ?_⟩, ?_, imp_dn x5 (by decide), imp_dn' hd1, imp_dn' hd3, imp_dn' hd5, imp_dn x9 (by decide), imp_dn x10 (by decide), imp_dn x11 (by decide), Nat.lt_of_lt_of_le x12 h3.size⟩
                · have := h2.mono (T := fun g => gb + 1 < g) (fun g _ hg => by rcases hg with hg | hg <;> omega)
                  rw [show devsV (dd ++ [dd[0]]) = devsV dd ++ devCells dd[0] by simp [devsV]]
                  exact this
                · rw [(h3.block gb (by omega) (hgA gb (by omega))).trans x4]
                  simp [e9]
              · simp only [List.getElem?_toArray, List.getElem?_cons_zero, List.getElem?_cons_succ, Option.some.injEq] at ho
                subst ho
                generalize hA : fr _ _ _ f = A at hK ⊢
                have e3 : A.tmps[3]?.getD undef = .pointer (some ⟨gb, 0, none⟩) := by rw [← hA]; exact fr_out _ _ _ _ 3 _ (by decide) rfl
                clear hA
                have HX := Lib.hid hX
                have HT := Lib.hid hT
                have HN := Lib.hid hni
                have HDN := Lib.hid hdn
                clear hX hT hni hdn
                go_simp
                obtain ⟨x1, x2, x3, x4, x5, x6, x7, x8, x9, x10, x11, x12⟩ := HX.out
                exact hK _ _ (Ev.refl _ _ _) (fun d hd => by injection hd with hd; subst hd; exact rfl) ⟨x1, by simpa using x2, by simpa [nextF] using x3, by simpa [nextF] using x4, imp_dn x5 (by decide), imp_dn x6 (by decide), imp_dn x7 (by decide), imp_dn x8 (by decide), imp_dn x9 (by decide), imp_dn x10 (by decide), imp_dn x11 (by decide), x12⟩
              · simp only [List.getElem?_toArray, List.getElem?_cons_zero, List.getElem?_cons_succ, Option.some.injEq] at ho
                subst ho
                have h36 : f 36 = .pointer (some ⟨gb, 1, none⟩) := hT 8 36 (by decide) rfl (hdn { on := 8, ground := .data } (by simp) rfl)
                have h35 : ∃ A' c', f 35 = .slice A' (dd.length + 1) c' := hT 7 35 (by decide) rfl (hdn { on := 7, ground := .data } (by simp) rfl)
                have hd7 : dn 7 = true := hdn { on := 7, ground := .data } (by simp) rfl
                generalize hA : fr _ _ _ f = A at hK ⊢
                have e36 : A.tmps[36]?.getD undef = f 36 := by rw [← hA]; exact fr_in _ _ _ _ 36 (by decide) (by simp)
                have e35 : A.tmps[35]?.getD undef = f 35 := by rw [← hA]; exact fr_in _ _ _ _ 35 (by decide) (by simp)
                clear hA
                have HX := Lib.hid hX
                have HT := Lib.hid hT
                have HN := Lib.hid hni
                have HDN := Lib.hid hdn
                clear hX hT hni hdn
                have Hf36 := Lib.hid h36
                rw [h36] at e36
                clear h36
                obtain ⟨A35, c35, h35⟩ := h35
                have Hf35 := Lib.hid h35
                rw [h35] at e35
                clear h35
                obtain ⟨x1, x2, x3, x4, x5, x6, x7, x8, x9, x10, x11, x12⟩ := HX.out
                obtain ⟨q, hq⟩ : ∃ q, w1.cell? ⟨gb, 1, none⟩ = some q := ⟨_, by rw [cell_of_row w1 gb 1 _ _ _ x4]; rfl⟩
                have hfz : w1.frozen? ⟨gb, 1, none⟩ = false := free_row w1 gb 1 _ _ x4
                clear x1 x2 x3 x4 x5 x6 x7 x8 x9 x10 x11 x12
                go_simp
                obtain ⟨x1, x2, x3, x4, x5, x6, x7, x8, x9, x10, x11, x12⟩ := HX.out
                refine hK undef _ ⟨by simp [World.setCell], fun k hk hk2 _ => Below.heap_setCell _ _ _ _ (show k ≠ gb from hk2)⟩ (fun d hd => by cases hd) ⟨x1.setBox _, fun h => (by simp [hd7] at h), fun _ => ?_, ?_, imp_dn' hd7, imp_dn x6 (by decide), imp_dn x7 (by decide), imp_dn x8 (by decide), imp_dn x9 (by decide), imp_dn x10 (by decide), imp_dn x11 (by decide), by simpa [World.setCell] using x12⟩
                · obtain ⟨A', c', p1, p2⟩ := x3 hd7
                  exact ⟨A', c', p1, p2.keep (Kept.setCell (by show ¬ gb + 1 < gb; omega) _)⟩
                · rw [heap_setCell_same w1 gb 1 _ _ _ x4]
                  simp [nextF, Hf35.out]
            · intro dn f w1 hX hdn hall
              obtain ⟨x1, _, x3, x4, _⟩ := hX
              obtain ⟨A', c', p1, p2⟩ := x3 (hdn 7 (by decide))
              rw [hdn 9 (by decide), if_pos rfl, p1] at x4
              have HO : OD w w1 bd gb A3 c3 ns0 A' c' (dd ++ [dd[0]]) := x1.back (by simpa using p2) (by simpa using x4) hdsz2
              clear hdn hall x1 x3 x4 p1 p2
              simp only [fr, upd, List.mapIdx_cons, List.mapIdx_nil]
              simp
              go_wp2_with (fail)
              go_roundg (gk - 1)
              case measure => have := Hk.out; omega
              case rel => exact ⟨k + 1, A', c', _, by have := Hk.out; omega, by go_num, by simp, by simp; omega, HO⟩
          · have hlt' : decide ((k : Int) ≤ 64) = false := decide_eq_false (by omega)
            go_wp2_with (fail)
            go_meet
            case rel => exact ⟨A5, c5, dd.length, hd0, by have := Hk.out; omega, ns0, dd, E1.out, rfl, O⟩
    case rest =>
      obtain ⟨W5, rfl⟩ : ∃ x, x = wc := ⟨_, rfl⟩
      obtain ⟨A5, c5, m2, hm1, hm2, hO5⟩ := hcut
      clear hO
      have n0 := hO5.k0
      have n1' := hO5.k1
      obtain ⟨ns5, ds5, e1, e2, O⟩ := hO5
      have E1 := Lib.hid e1
      have E2 := Lib.hid e2
      have p0 : W5.cell? ⟨gb + 1, 0, none⟩ = some (.slice none 0 0) := by rw [cell_of_row W5 _ 0 _ _ _ O.res]; rfl
      have p1 : W5.cell? ⟨gb + 1, 1, none⟩ = some (.slice none 0 0) := by rw [cell_of_row W5 _ 1 _ _ _ O.res]; rfl
      have f0 := free_row W5 (gb + 1) 0 _ _ O.res
      have f1 := free_row W5 (gb + 1) 1 _ _ O.res
      obtain ⟨W6, hW6⟩ : ∃ x, x = (W5.setCell ⟨gb + 1, 0, none⟩ (.slice A3 n1 c3)).setCell ⟨gb + 1, 1, none⟩ (.slice A5 m2 c5) := ⟨_, rfl⟩
      have hrow : W6.heap[gb + 1]? = some (.cells #[.slice A3 n1 c3, .slice A5 m2 c5] 26 (0, 0)) := by
        rw [hW6, heap_setCell_same _ (gb + 1) 1 _ _ _ (heap_setCell_same W5 (gb + 1) 0 _ _ _ O.res)]
        rfl
      have hoth : ∀ k, k ≠ gb + 1 → W6.heap[k]? = W5.heap[k]? := fun k hk => by
        rw [hW6, Below.heap_setCell _ _ _ _ hk, Below.heap_setCell _ _ _ _ hk]
      have hsz : W6.heap.size = W5.heap.size := by rw [hW6]; simp [World.setCell]
      have hos : W6.os = W5.os ∧ W6.tape = W5.tape ∧ W6.output = W5.output := by rw [hW6]; exact ⟨rfl, rfl, rfl⟩
      have r0 : W6.cell? ⟨gb + 1, 0, none⟩ = some (.slice A3 n1 c3) := by rw [cell_of_row W6 _ 0 _ _ _ hrow]; rfl
      have r1 : W6.cell? ⟨gb + 1, 1, none⟩ = some (.slice A5 m2 c5) := by rw [cell_of_row W6 _ 1 _ _ _ hrow]; rfl
      have hbdg := O.bdg
      have HR : RetOdd w bd (.returned (.agg #[.slice A3 n1 c3, .slice A5 m2 c5])) W6 := by
        have hg := HG.out
        refine ⟨A3, c3, ns5, A5, c5, ds5, by rw [e1, e2], ⟨?_, ?_, O.nsz, O.dsz⟩, by omega, by omega, O.deck.keep (fun b hb => hoth b (by omega)) (by omega), ?_⟩
        · exact (O.o1.keep ⟨by omega, fun b hs _ => hoth b (by omega)⟩).sv.mono (fun g _ hh => by have hh : gb + 1 < g := hh; omega)
        · exact (O.o2.keep ⟨by omega, fun b hs _ => hoth b (by omega)⟩).sv.mono (fun g _ hh => by have hh : gb + 1 < g := hh; omega)
        · have ho := O.old
          rw [← hg]
          exact ⟨hos.1.trans ho.os, hos.2.1.trans ho.tape, hos.2.2.trans ho.output, by have := ho.size; omega, fun k hk hn => (hoth k (by omega)).trans (ho.block k hk hn)⟩
      have HW6 := Lib.hid hW6
      have HRR := Lib.hid HR
      clear O e1 e2 hrow hoth hsz hos HR hW6
      go_wp2_with (fail)
      rw [← HW6.out]
      refine bodyPost_ret (v := .agg #[.slice A3 n1 c3, .slice A5 m2 c5]) (by simp [results, Tryd.results15, go_sem, r0, r1]) rfl ?_
      exact HRR.out
end Go.Proofs.YtgpcojmdfmngeaaDoor

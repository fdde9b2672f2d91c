/-
  Walks of the reference's Meet, Finer, Agrees, Lowest, Highest, Count, All, Check, and of mk.Within, mk.Bent.
-/
import Derived.Test.YtgpcojmdfmngeaaDoorRm06
import Derived.Test.YtgpcojmdfmngeaaDoorGf
namespace Go.Proofs.YtgpcojmdfmngeaaDoor
open Go.RowKit
set_option maxHeartbeats 400000
set_option maxRecDepth 100000

theorem zip_any {p : Int → Int → Int} {q : Int → Bool} {xs ys : List Int} {k : Nat} (h1 : k < xs.length) (h2 : k < ys.length) (h : q (p xs[k] ys[k]) = true) : (List.zipWith p xs ys).any q = true := by
  rw [List.any_eq_true]
  exact ⟨(List.zipWith p xs ys)[k]'(by simp; omega), List.getElem_mem _, by rw [List.getElem_zipWith]; exact h⟩

set_option maxHeartbeats 2000000 in
theorem refMeet_any (w : World) (S T : Nat → Prop) (A B : Option Addr) (c dc : Nat) (xs ys : List Int) (hs : SI w S A xs) (ht : SI w T B ys) (hl : xs.length ≤ 65536) (hl2 : ys.length ≤ 65536) :
    Calls Tryd.prog 56 #[.slice A xs.length c, .slice B ys.length dc] w (RetIB w (meetV xs ys)) := by
  have HM1 := refMasked_any w S A c xs hs hl
  have HM2 := refMasked_any w T B dc ys ht hl2
  have hV : meetV xs ys = if (okPair xs ys && !(List.zipWith andM xs ys).any (fun x => 0 == x)) = true then (List.zipWith andM xs ys, true) else ([], false) := rfl
  cases hok : okPair xs ys with
  | false =>
    rw [hok, if_neg (by simp)] at hV
    rw [hV]
    clear hV
    rcases notok hok with h1 | ⟨h1, h2⟩ | ⟨h1, h2, h3⟩
    · have hb : ((xs.length : Int) != ys.length) = true := by simp; omega
      clear h1 hok HM1 HM2
      go_enter Tryd.func56, Tryd.ntmps56
      go_wp2_with (fail)
      go_ret2
      exact ⟨none, 0, rfl, OI.nil _ _, Below.refl _ _⟩
    · have hb : ((xs.length : Int) != ys.length) = false := by simp [h1]
      rw [h2] at HM1
      have H1 := Lib.hid HM1
      clear h1 h2 hok HM1 HM2
      go_enter Tryd.func56, Tryd.ntmps56
      go_wp2_with (fail)
      refine H1.out.mono ?_
      rintro e w' ⟨rfl, rfl⟩
      go_wp2_with (fail)
      go_ret2
      exact ⟨none, 0, rfl, OI.nil _ _, Below.refl _ _⟩
    · have hb : ((xs.length : Int) != ys.length) = false := by simp [h1]
      rw [h2] at HM1
      rw [h3] at HM2
      have H1 := Lib.hid HM1
      have H2 := Lib.hid HM2
      clear h1 h2 h3 hok HM1 HM2
      go_enter Tryd.func56, Tryd.ntmps56
      go_wp2_with (fail)
      refine H1.out.mono ?_
      rintro e w' ⟨rfl, rfl⟩
      go_wp2_with (fail)
      refine H2.out.mono ?_
      rintro e w' ⟨rfl, rfl⟩
      go_wp2_with (fail)
      go_ret2
      exact ⟨none, 0, rfl, OI.nil _ _, Below.refl _ _⟩
  | true =>
    obtain ⟨o1, o2, o3⟩ := okPair_parts hok
    have hb : ((xs.length : Int) != ys.length) = false := by simp [o1]
    rw [o2] at HM1
    rw [o3] at HM2
    have H1 := Lib.hid HM1
    have H2 := Lib.hid HM2
    have M1 := Lib.hid (masks_of o2)
    have M2 := Lib.hid (masks_of o3)
    have O1 := Lib.hid o1
    have hst := fun k h1 h2 => @zip_take andM xs ys k h1 h2
    have hdr := fun k h1 h2 => @zip_drop andM (fun x => 0 == x) xs ys k h1 h2
    have hzl : (List.zipWith andM xs ys).length = xs.length := by simp; omega
    have hvt : (List.zipWith andM xs ys).any (fun x => 0 == x) = true → meetV xs ys = ([], false) := fun h => by rw [hV, hok, h]; rfl
    have hvf : (List.zipWith andM xs ys).any (fun x => 0 == x) = false → meetV xs ys = (List.zipWith andM xs ys, true) := fun h => by rw [hV, hok, h]; rfl
    clear hV
    generalize List.zipWith andM xs ys = Z at hst hdr hzl hvt hvf
    have Hst := Lib.hid hst
    have Hdr := Lib.hid hdr
    have HZl := Lib.hid hzl
    have Hvt := Lib.hid hvt
    have Hvf := Lib.hid hvf
    generalize meetV xs ys = mv at *
    clear o1 o2 o3 hok HM1 HM2 hst hdr hzl hvt hvf
    go_enter Tryd.func56, Tryd.ntmps56
    go_wp2_with (fail)
    refine H1.out.mono ?_
    rintro e w' ⟨rfl, rfl⟩
    go_wp2_with (fail)
    refine H2.out.mono ?_
    rintro e w' ⟨rfl, rfl⟩
    go_wp2_with (fail)
    go_loopg [6, 7] xs.length (fun g v i wr => ∃ (k : Nat) (A' : Option Addr) (c' : Nat), k + g = xs.length ∧ i = .int .i64 k ∧ v = .slice A' (Z.take k).length c' ∧ OI wr (fun g => w.heap.size ≤ g) A' c' (Z.take k) ∧ Below w.heap.size w wr ∧
      Z.any (fun x => 0 == x) = (Z.drop k).any (fun x => 0 == x))
    case atStart => exact ⟨0, none, 0, by omega, rfl, rfl, OI.nil _ _, Below.refl _ _, rfl⟩
    case round =>
      obtain ⟨k, A', c', hk, rfl, rfl, hown, hbel, hany⟩ := hrel
      have Hk := Lib.hid hk
      have Hany := Lib.hid hany
      have htl : (Z.take k).length ≤ k := by simp; omega
      clear hk hany
      by_cases hlt : k < xs.length
      · have hlt2 : k < ys.length := by have := O1.out; omega
        obtain ⟨b1, f1, rfl, _, hl1, q1⟩ := hs.at_ hlt
        obtain ⟨b2, f2, rfl, _, hl2', q2⟩ := ht.at_ hlt2
        have p1 := (hbel.cell (p := ⟨b1, f1 + k, none⟩) hl1).trans q1
        have p2 := (hbel.cell (p := ⟨b2, f2 + k, none⟩) hl2').trans q2
        have Hs2 := Lib.hid (Hst.out k hlt hlt2)
        have Hd2 := Lib.hid (Hdr.out k hlt hlt2)
        have hbt := bits_and (M1.out k hlt) (M2.out k hlt2)
        generalize xs[k] = x at *
        generalize ys[k] = y at *
        by_cases hz : andM x y = 0
        · have F1 : (bits BinOp.and IntKind.i64 x y == 0) = true := by rw [hbt, hz]; rfl
          have Hz := Lib.hid hz
          clear hbt hz
          go_wp2_with (fail)
          go_quiet (fail)
          go_wp2_with (fail)
          go_ret2
          have ht1 : Z.any (fun x => 0 == x) = true := by rw [Hany.out, Hd2.out, Hz.out]; rfl
          rw [Hvt.out ht1]
          exact ⟨none, 0, rfl, OI.nil _ _, hbel.trans (below_drewN _ _ _)⟩
        · have F1 : (bits BinOp.and IntKind.i64 x y == 0) = false := by rw [hbt]; simpa using hz
          have Hn2 : Hid (Z.any (fun x => 0 == x) = (Z.drop (k + 1)).any (fun x => 0 == x)) := Lib.hid (by
            rw [Hany.out, Hd2.out, show ((0 : Int) == andM x y) = false by simpa using fun h => hz h.symm]; rfl)
          have Hb := Lib.hid hbt
          clear hbt hz
          generalize Z.take k = Z0 at *
          go_wp2_with (fail)
          go_quiet (fail)
          obtain ⟨wq, hwq⟩ : ∃ x, x = wr.drewN nq := ⟨_, rfl⟩
          have hown' : OI wq (fun g => w.heap.size ≤ g) A' c' Z0 := by rw [hwq]; exact hown
          have hbel' : Below w.heap.size w wq := by rw [hwq]; exact hbel.trans (below_drewN _ _ _)
          have HAl := Lib.hid (fun g hg => (OV.block hown' g hg).2)
          rw [← hwq]
          clear hown hbel p1 p2 hwq F1
          have hown := hown'
          have hbel := hbel'
          clear hown' hbel'
          go_upto_region 9 with (fail)
          refine wp_region_ext2X (by kernel_rfl) 13 [39, 40, 41, 42, 43, 44, 45, 46, 47, 48, 49, 50, 6] (fun a b => a.heap.size ≤ b.heap.size ∧ ∀ k, k < a.heap.size → some k ≠ blockOf A' → b.heap[k]? = a.heap[k]?) (fun d v w' => if d = 39 then v = .slice A' Z0.length c' else if d = 40 then v = .slice (some ⟨b1, f1, none⟩) xs.length c else if d = 41 then v = .int .i64 (k : Nat) else if d = 42 then v = .pointer (some ⟨b1, f1 + k, none⟩) else if d = 43 then v = .int .i64 x else if d = 44 then v = .slice (some ⟨b2, f2, none⟩) ys.length dc else if d = 45 then v = .int .i64 (k : Nat) else if d = 46 then v = .pointer (some ⟨b2, f2 + k, none⟩) else if d = 47 then v = .int .i64 y else if d = 48 then v = .int .i64 (bits BinOp.and IntKind.i64 x y) else if d = 49 then ∃ b : Nat, v = .slice (some ⟨b, 0, none⟩) 1 1 ∧ some b ≠ blockOf A' ∧ w'.heap[b]? = some (.cells #[.int .i64 (bits BinOp.and IntKind.i64 x y)] 3 (0, 0)) else if d = 50 then ∃ (A1 : Option Addr) (c1 : Nat), v = .slice A1 (Z0.length + 1) c1 else if d = 6 then ∃ (A1 : Option Addr) (c1 : Nat), v = .slice A1 (Z0.length + 1) c1 else False) (fun dn f W' => Below w.heap.size w W' ∧ (dn 11 = false → OI W' (fun g => w.heap.size ≤ g) A' c' Z0) ∧ (dn 11 = true → ∃ (A1 : Option Addr) (c1 : Nat), f 50 = .slice A1 (Z0.length + 1) c1 ∧ OI W' (fun g => w.heap.size ≤ g) A1 c1 (Z0 ++ [bits BinOp.and IntKind.i64 x y])) ∧ (dn 12 = true → f 6 = f 50 ∧ dn 11 = true) ∧ (∀ g, blockOf A' = some g → g < W'.heap.size) ∧ (dn 11 = true → dn 0 = true) ∧ (dn 12 = false → f 6 = .slice A' Z0.length c')) (by kernel_rfl) (⟨hbel.drew, fun _ => hown, fun h => (by cases h), fun h => (by cases h), HAl.out, fun h => (by cases h), fun _ => rfl⟩) (fun d v a b hE hT => by
              by_cases h49 : d = 49
              · subst h49
                obtain ⟨g, e1, e2, e3⟩ := hT
                exact ⟨g, e1, e2, (hE.2 g (Array.getElem?_eq_some_iff.1 e3).1 e2).trans e3⟩
              simp only [if_neg h49] at hT ⊢
              exact hT) ?_ ?_
          · intro i o hi ho dn f w1 hX hT hni hdn K hK
            have hi' : i = 0 ∨ i = 1 ∨ i = 2 ∨ i = 3 ∨ i = 4 ∨ i = 5 ∨ i = 6 ∨ i = 7 ∨ i = 8 ∨ i = 9 ∨ i = 10 ∨ i = 11 ∨ i = 12 := by omega
            rcases hi' with rfl | rfl | rfl | rfl | rfl | rfl | rfl | rfl | rfl | rfl | rfl | rfl | rfl
            · simp only [List.getElem?_toArray, List.getElem?_cons_zero, Option.some.injEq] at ho
              subst ho
              have h6 : f 6 = .slice A' Z0.length c' := hX.2.2.2.2.2.2 (bfl (fun h => (hX.2.2.2.1 h).2) (bfl hX.2.2.2.2.2.1 hni))
              generalize hA : fr _ _ _ f = A at hK ⊢
              have e6 : A.tmps[6]?.getD undef = f 6 := by rw [← hA]; exact fr_in _ _ _ _ 6 (by decide) (by simp)
              rw [h6] at e6
              clear h6
              clear hA
              have HX := Lib.hid hX
              have HT := Lib.hid hT
              have HN := Lib.hid hni
              have HDN := Lib.hid hdn
              clear hX hT hni hdn
              go_simp
              obtain ⟨x1, x2, x3, x4, x5, x6, x7⟩ := HX.out
              exact hK _ _ ⟨Nat.le_refl _, fun _ _ _ => rfl⟩ (fun d hd => by injection hd with hd; subst hd; exact rfl) ⟨x1, by simpa using x2, by simpa [nextF] using x3, by simpa [nextF] using x4, x5, fun _ => by simp, by simpa [nextF] using x7⟩
            · simp only [List.getElem?_toArray, List.getElem?_cons_zero, List.getElem?_cons_succ, Option.some.injEq] at ho
              subst ho
              generalize hA : fr _ _ _ f = A at hK ⊢
              have e0 : A.tmps[0]?.getD undef = .slice (some ⟨b1, f1, none⟩) xs.length c := by rw [← hA]; exact fr_out _ _ _ _ 0 _ (by decide) rfl
              clear hA
              have HX := Lib.hid hX
              have HT := Lib.hid hT
              have HN := Lib.hid hni
              have HDN := Lib.hid hdn
              clear hX hT hni hdn
              go_simp
              obtain ⟨x1, x2, x3, x4, x5, x6, x7⟩ := HX.out
              exact hK _ _ ⟨Nat.le_refl _, fun _ _ _ => rfl⟩ (fun d hd => by injection hd with hd; subst hd; exact rfl) ⟨x1, by simpa using x2, by simpa [nextF] using x3, by simpa [nextF] using x4, x5, by simpa using x6, by simpa [nextF] using x7⟩
            · simp only [List.getElem?_toArray, List.getElem?_cons_zero, List.getElem?_cons_succ, Option.some.injEq] at ho
              subst ho
              generalize hA : fr _ _ _ f = A at hK ⊢
              have e7 : A.tmps[7]?.getD undef = .int .i64 (k : Nat) := by rw [← hA]; exact fr_out _ _ _ _ 7 _ (by decide) rfl
              clear hA
              have HX := Lib.hid hX
              have HT := Lib.hid hT
              have HN := Lib.hid hni
              have HDN := Lib.hid hdn
              clear hX hT hni hdn
              go_simp
              obtain ⟨x1, x2, x3, x4, x5, x6, x7⟩ := HX.out
              exact hK _ _ ⟨Nat.le_refl _, fun _ _ _ => rfl⟩ (fun d hd => by injection hd with hd; subst hd; exact rfl) ⟨x1, by simpa using x2, by simpa [nextF] using x3, by simpa [nextF] using x4, x5, by simpa using x6, by simpa [nextF] using x7⟩
            · simp only [List.getElem?_toArray, List.getElem?_cons_zero, List.getElem?_cons_succ, Option.some.injEq] at ho
              subst ho
              have h40 : f 40 = .slice (some ⟨b1, f1, none⟩) xs.length c := hT 1 40 (by decide) rfl (hdn { on := 1, ground := .data } (by simp) rfl)
              have h41 : f 41 = .int .i64 (k : Nat) := hT 2 41 (by decide) rfl (hdn { on := 2, ground := .data } (by simp) rfl)
              generalize hA : fr _ _ _ f = A at hK ⊢
              have e40 : A.tmps[40]?.getD undef = f 40 := by rw [← hA]; exact fr_in _ _ _ _ 40 (by decide) (by simp)
              have e41 : A.tmps[41]?.getD undef = f 41 := by rw [← hA]; exact fr_in _ _ _ _ 41 (by decide) (by simp)
              clear hA
              have HX := Lib.hid hX
              have HT := Lib.hid hT
              have HN := Lib.hid hni
              have HDN := Lib.hid hdn
              clear hX hT hni hdn
              have Hf40 := Lib.hid h40
              rw [h40] at e40
              clear h40
              have Hf41 := Lib.hid h41
              rw [h41] at e41
              clear h41
              go_simp
              obtain ⟨x1, x2, x3, x4, x5, x6, x7⟩ := HX.out
              exact hK _ _ ⟨Nat.le_refl _, fun _ _ _ => rfl⟩ (fun d hd => by injection hd with hd; subst hd; exact rfl) ⟨x1, by simpa using x2, by simpa [nextF] using x3, by simpa [nextF] using x4, x5, by simpa using x6, by simpa [nextF] using x7⟩
            · simp only [List.getElem?_toArray, List.getElem?_cons_zero, List.getElem?_cons_succ, Option.some.injEq] at ho
              subst ho
              have h42 : f 42 = .pointer (some ⟨b1, f1 + k, none⟩) := hT 3 42 (by decide) rfl (hdn { on := 3, ground := .data } (by simp) rfl)
              generalize hA : fr _ _ _ f = A at hK ⊢
              have e42 : A.tmps[42]?.getD undef = f 42 := by rw [← hA]; exact fr_in _ _ _ _ 42 (by decide) (by simp)
              clear hA
              have HX := Lib.hid hX
              have HT := Lib.hid hT
              have HN := Lib.hid hni
              have HDN := Lib.hid hdn
              clear hX hT hni hdn
              have Hf42 := Lib.hid h42
              rw [h42] at e42
              clear h42
              have hcell := ((HX.out.1).cell (p := ⟨b1, f1 + k, none⟩) hl1).trans q1
              go_simp
              obtain ⟨x1, x2, x3, x4, x5, x6, x7⟩ := HX.out
              exact hK _ _ ⟨Nat.le_refl _, fun _ _ _ => rfl⟩ (fun d hd => by injection hd with hd; subst hd; exact rfl) ⟨x1, by simpa using x2, by simpa [nextF] using x3, by simpa [nextF] using x4, x5, by simpa using x6, by simpa [nextF] using x7⟩
            · simp only [List.getElem?_toArray, List.getElem?_cons_zero, List.getElem?_cons_succ, Option.some.injEq] at ho
              subst ho
              generalize hA : fr _ _ _ f = A at hK ⊢
              have e1 : A.tmps[1]?.getD undef = .slice (some ⟨b2, f2, none⟩) ys.length dc := by rw [← hA]; exact fr_out _ _ _ _ 1 _ (by decide) rfl
              clear hA
              have HX := Lib.hid hX
              have HT := Lib.hid hT
              have HN := Lib.hid hni
              have HDN := Lib.hid hdn
              clear hX hT hni hdn
              go_simp
              obtain ⟨x1, x2, x3, x4, x5, x6, x7⟩ := HX.out
              exact hK _ _ ⟨Nat.le_refl _, fun _ _ _ => rfl⟩ (fun d hd => by injection hd with hd; subst hd; exact rfl) ⟨x1, by simpa using x2, by simpa [nextF] using x3, by simpa [nextF] using x4, x5, by simpa using x6, by simpa [nextF] using x7⟩
            · simp only [List.getElem?_toArray, List.getElem?_cons_zero, List.getElem?_cons_succ, Option.some.injEq] at ho
              subst ho
              generalize hA : fr _ _ _ f = A at hK ⊢
              have e7 : A.tmps[7]?.getD undef = .int .i64 (k : Nat) := by rw [← hA]; exact fr_out _ _ _ _ 7 _ (by decide) rfl
              clear hA
              have HX := Lib.hid hX
              have HT := Lib.hid hT
              have HN := Lib.hid hni
              have HDN := Lib.hid hdn
              clear hX hT hni hdn
              go_simp
              obtain ⟨x1, x2, x3, x4, x5, x6, x7⟩ := HX.out
              exact hK _ _ ⟨Nat.le_refl _, fun _ _ _ => rfl⟩ (fun d hd => by injection hd with hd; subst hd; exact rfl) ⟨x1, by simpa using x2, by simpa [nextF] using x3, by simpa [nextF] using x4, x5, by simpa using x6, by simpa [nextF] using x7⟩
            · simp only [List.getElem?_toArray, List.getElem?_cons_zero, List.getElem?_cons_succ, Option.some.injEq] at ho
              subst ho
              have h44 : f 44 = .slice (some ⟨b2, f2, none⟩) ys.length dc := hT 5 44 (by decide) rfl (hdn { on := 5, ground := .data } (by simp) rfl)
              have h45 : f 45 = .int .i64 (k : Nat) := hT 6 45 (by decide) rfl (hdn { on := 6, ground := .data } (by simp) rfl)
              generalize hA : fr _ _ _ f = A at hK ⊢
              have e44 : A.tmps[44]?.getD undef = f 44 := by rw [← hA]; exact fr_in _ _ _ _ 44 (by decide) (by simp)
              have e45 : A.tmps[45]?.getD undef = f 45 := by rw [← hA]; exact fr_in _ _ _ _ 45 (by decide) (by simp)
              clear hA
              have HX := Lib.hid hX
              have HT := Lib.hid hT
              have HN := Lib.hid hni
              have HDN := Lib.hid hdn
              clear hX hT hni hdn
              have Hf44 := Lib.hid h44
              rw [h44] at e44
              clear h44
              have Hf45 := Lib.hid h45
              rw [h45] at e45
              clear h45
              go_simp
              obtain ⟨x1, x2, x3, x4, x5, x6, x7⟩ := HX.out
              exact hK _ _ ⟨Nat.le_refl _, fun _ _ _ => rfl⟩ (fun d hd => by injection hd with hd; subst hd; exact rfl) ⟨x1, by simpa using x2, by simpa [nextF] using x3, by simpa [nextF] using x4, x5, by simpa using x6, by simpa [nextF] using x7⟩
            · simp only [List.getElem?_toArray, List.getElem?_cons_zero, List.getElem?_cons_succ, Option.some.injEq] at ho
              subst ho
              have h46 : f 46 = .pointer (some ⟨b2, f2 + k, none⟩) := hT 7 46 (by decide) rfl (hdn { on := 7, ground := .data } (by simp) rfl)
              generalize hA : fr _ _ _ f = A at hK ⊢
              have e46 : A.tmps[46]?.getD undef = f 46 := by rw [← hA]; exact fr_in _ _ _ _ 46 (by decide) (by simp)
              clear hA
              have HX := Lib.hid hX
              have HT := Lib.hid hT
              have HN := Lib.hid hni
              have HDN := Lib.hid hdn
              clear hX hT hni hdn
              have Hf46 := Lib.hid h46
              rw [h46] at e46
              clear h46
              have hcell := ((HX.out.1).cell (p := ⟨b2, f2 + k, none⟩) hl2').trans q2
              go_simp
              obtain ⟨x1, x2, x3, x4, x5, x6, x7⟩ := HX.out
              exact hK _ _ ⟨Nat.le_refl _, fun _ _ _ => rfl⟩ (fun d hd => by injection hd with hd; subst hd; exact rfl) ⟨x1, by simpa using x2, by simpa [nextF] using x3, by simpa [nextF] using x4, x5, by simpa using x6, by simpa [nextF] using x7⟩
            · simp only [List.getElem?_toArray, List.getElem?_cons_zero, List.getElem?_cons_succ, Option.some.injEq] at ho
              subst ho
              have h43 : f 43 = .int .i64 x := hT 4 43 (by decide) rfl (hdn { on := 4, ground := .data } (by simp) rfl)
              have h47 : f 47 = .int .i64 y := hT 8 47 (by decide) rfl (hdn { on := 8, ground := .data } (by simp) rfl)
              generalize hA : fr _ _ _ f = A at hK ⊢
              have e43 : A.tmps[43]?.getD undef = f 43 := by rw [← hA]; exact fr_in _ _ _ _ 43 (by decide) (by simp)
              have e47 : A.tmps[47]?.getD undef = f 47 := by rw [← hA]; exact fr_in _ _ _ _ 47 (by decide) (by simp)
              clear hA
              have HX := Lib.hid hX
              have HT := Lib.hid hT
              have HN := Lib.hid hni
              have HDN := Lib.hid hdn
              clear hX hT hni hdn
              have Hf43 := Lib.hid h43
              rw [h43] at e43
              clear h43
              have Hf47 := Lib.hid h47
              rw [h47] at e47
              clear h47
              go_simp
              obtain ⟨x1, x2, x3, x4, x5, x6, x7⟩ := HX.out
              exact hK _ _ ⟨Nat.le_refl _, fun _ _ _ => rfl⟩ (fun d hd => by injection hd with hd; subst hd; exact rfl) ⟨x1, by simpa using x2, by simpa [nextF] using x3, by simpa [nextF] using x4, x5, by simpa using x6, by simpa [nextF] using x7⟩
            · simp only [List.getElem?_toArray, List.getElem?_cons_zero, List.getElem?_cons_succ, Option.some.injEq] at ho
              subst ho
              have h48 : f 48 = .int .i64 (bits BinOp.and IntKind.i64 x y) := hT 9 48 (by decide) rfl (hdn { on := 9, ground := .data } (by simp) rfl)
              generalize hA : fr _ _ _ f = A at hK ⊢
              have e48 : A.tmps[48]?.getD undef = f 48 := by rw [← hA]; exact fr_in _ _ _ _ 48 (by decide) (by simp)
              clear hA
              have HX := Lib.hid hX
              have HT := Lib.hid hT
              have HN := Lib.hid hni
              have HDN := Lib.hid hdn
              clear hX hT hni hdn
              have Hf48 := Lib.hid h48
              rw [h48] at e48
              clear h48
              go_simp
              obtain ⟨x1, x2, x3, x4, x5, x6, x7⟩ := HX.out
              have hnb : some w1.heap.size ≠ blockOf A' := fun e => by have := x5 _ e.symm; omega
              refine hK _ _ ⟨by simp, fun k hk _ => Below.heap_alloc _ _ _ hk⟩ (fun d hd => by injection hd with hd; subst hd; exact ⟨w1.heap.size, rfl, hnb, heap_alloc_new w1 _⟩) ⟨x1.alloc x1.size _, fun h => (x2 (by simpa using h)).keep (Kept.alloc _ _ _), fun h => ?_, by simpa [nextF] using x4, fun g hg => by have := x5 g hg; simp; omega, by simpa using x6, by simpa [nextF] using x7⟩
              obtain ⟨A1, c1, e1, o1⟩ := x3 (by simpa using h)
              exact ⟨A1, c1, by simpa [nextF] using e1, o1.keep (Kept.alloc _ _ _)⟩
            · simp only [List.getElem?_toArray, List.getElem?_cons_zero, List.getElem?_cons_succ, Option.some.injEq] at ho
              subst ho
              have h39 : f 39 = .slice A' Z0.length c' := hT 0 39 (by decide) rfl (hdn { on := 0, ground := .data } (by simp) rfl)
              have h49 : ∃ b : Nat, f 49 = .slice (some ⟨b, 0, none⟩) 1 1 ∧ some b ≠ blockOf A' ∧ w1.heap[b]? = some (.cells #[.int .i64 (bits BinOp.and IntKind.i64 x y)] 3 (0, 0)) := hT 10 49 (by decide) rfl (hdn { on := 10, ground := .data } (by simp) rfl)
              have hd0 : dn 0 = true := hdn { on := 0, ground := .data } (by simp) rfl
              generalize hA : fr _ _ _ f = A at hK ⊢
              have e39 : A.tmps[39]?.getD undef = f 39 := by rw [← hA]; exact fr_in _ _ _ _ 39 (by decide) (by simp)
              have e49 : A.tmps[49]?.getD undef = f 49 := by rw [← hA]; exact fr_in _ _ _ _ 49 (by decide) (by simp)
              clear hA
              have HX := Lib.hid hX
              have HT := Lib.hid hT
              have HN := Lib.hid hni
              have HDN := Lib.hid hdn
              clear hX hT hni hdn
              have Hf39 := Lib.hid h39
              rw [h39] at e39
              clear h39
              obtain ⟨gb, h49, gn, gr⟩ := h49
              have Hf49 := Lib.hid h49
              rw [h49] at e49
              clear h49
              obtain ⟨x1, x2, x3, x4, x5, x6, x7⟩ := HX.out
              have ho := x2 HN.out
              obtain ⟨i0, hi0, hz0, hz1, hz2⟩ := info_parts intInfo
              obtain ⟨A1, c1, w2, hr, h2, h3, h4⟩ := run_append_OV (P := Tryd.prog) w1 (fun g => w.heap.size ≤ g) 22 22 3 i0 _ 1 8 Tryd.underlying22 hi0 hz0 hz1 hz2 rfl (by decide) A' Z0.length c' (ints Z0) ho (fun _ => True) (some ⟨gb, 0, none⟩) 1 1 [.int .i64 (bits BinOp.and IntKind.i64 x y)] rfl (SV.block gr) (by intro u hu; simp at hu; subst hu; rfl) (by simp only [maxLen]; omega) (by omega)
              refine wp_append (.tmp 39) (.tmp 49) 22 rfl (show A.eval (.tmp 39) = _ by simpa [Act.eval] using e39) (show A.eval (.tmp 49) = _ by simpa [Act.eval] using e49) hr ?_
              refine hK _ _ ⟨h3.size, fun k hk hne => h3.block k hk hne⟩ (fun d hd => by injection hd with hd; subst hd; exact ⟨A1, c1, rfl⟩) ⟨x1.trans ((Below.refl w.heap.size w1).grown h3 x1.size (fun g hg => (OV.block ho g hg).1)), fun h => by simp at h, fun _ => ⟨A1, c1, by simp [nextF], ?_⟩, fun h => ?_, fun g hg => Nat.lt_of_lt_of_le (x5 g hg) h3.size, fun _ => by simp [hd0], by simpa [nextF] using x7⟩
              · have := h2.mono (T := fun g => w.heap.size ≤ g) (fun g _ hg => by have := x1.size; rcases hg with hg | hg <;> omega)
                unfold OI
                rw [List.length_append, show ints (Z0 ++ [bits BinOp.and IntKind.i64 x y]) = ints Z0 ++ [.int .i64 (bits BinOp.and IntKind.i64 x y)] by simp [ints]]
                exact this
              · have := (x4 (by simpa using h)).2
                rw [HN.out] at this
                cases this
            · simp only [List.getElem?_toArray, List.getElem?_cons_zero, List.getElem?_cons_succ, Option.some.injEq] at ho
              subst ho
              have h50 : ∃ (A1 : Option Addr) (c1 : Nat), f 50 = .slice A1 (Z0.length + 1) c1 := hT 11 50 (by decide) rfl (hdn { on := 11, ground := .data } (by simp) rfl)
              have hd11 : dn 11 = true := hdn { on := 11, ground := .data } (by simp) rfl
              generalize hA : fr _ _ _ f = A at hK ⊢
              have e50 : A.tmps[50]?.getD undef = f 50 := by rw [← hA]; exact fr_in _ _ _ _ 50 (by decide) (by simp)
              clear hA
              have HX := Lib.hid hX
              have HT := Lib.hid hT
              have HN := Lib.hid hni
              have HDN := Lib.hid hdn
              clear hX hT hni hdn
              obtain ⟨A1, c1, h50⟩ := h50
              have Hf50 := Lib.hid h50
              rw [h50] at e50
              clear h50
              go_simp
              obtain ⟨x1, x2, x3, x4, x5, x6, x7⟩ := HX.out
              exact hK _ _ ⟨Nat.le_refl _, fun _ _ _ => rfl⟩ (fun d hd => by injection hd with hd; subst hd; exact ⟨A1, c1, rfl⟩) ⟨x1, by simpa using x2, by simpa [nextF] using x3, fun _ => ⟨by simp [nextF, Hf50.out], by simp [hd11]⟩, x5, by simpa using x6, fun h => by simp at h⟩
          · intro dn f w1 hX hdn hall
            obtain ⟨x1, _, x3, x4, _⟩ := hX
            obtain ⟨A1, c1, e1, o1⟩ := x3 (hdn 11 (by decide))
            have e2 := (x4 (hdn 12 (by decide))).1.trans e1
            have E2 := Lib.hid e2
            clear hdn hall x3 x4 e1 e2
            simp only [fr, upd, List.mapIdx_cons, List.mapIdx_nil]
            simp
            go_wp2_with (fail)
            go_roundg (gk - 1)
            case measure => have := Hk.out; omega
            case rel =>
              rw [Hb.out] at o1
              exact ⟨k + 1, A1, c1, by have := Hk.out; omega, by go_num, by rw [Hs2.out, E2.out]; simp, by rw [Hs2.out]; exact o1, x1, Hn2.out⟩
      · have Hf : Hid (Z.any (fun x => 0 == x) = false) := Lib.hid (by rw [Hany.out, List.drop_of_length_le (by rw [HZl.out]; omega)]; rfl)
        go_wp2_with (fail)
        go_ret2
        rw [List.take_of_length_le (by rw [HZl.out]; omega)] at hown ⊢
        rw [Hvf.out Hf.out]
        exact ⟨A', c', rfl, hown, hbel⟩

theorem bits_fin {x y : Int} (hx : 1 ≤ x ∧ x ≤ 3) (hy : 1 ≤ y ∧ y ≤ 3) : (bits BinOp.and IntKind.i64 x y != x) = (difM x y != 0) := by
  have h1 : x = 1 ∨ x = 2 ∨ x = 3 := by omega
  have h2 : y = 1 ∨ y = 2 ∨ y = 3 := by omega
  rcases h1 with rfl | rfl | rfl <;> rcases h2 with rfl | rfl | rfl <;> decide
set_option maxHeartbeats 2000000 in
theorem refFiner_any (w : World) (S T : Nat → Prop) (A B : Option Addr) (c dc : Nat) (xs ys : List Int) (hs : SI w S A xs) (ht : SI w T B ys) (hl : xs.length ≤ 65536) (hl2 : ys.length ≤ 65536) :
    Calls Tryd.prog 60 #[.slice A xs.length c, .slice B ys.length dc] w fun e w' => e = .returned (.bool (finV xs ys)) ∧ Below w.heap.size w w' := by
  have HM1 := refMasked_any w S A c xs hs hl
  have HM2 := refMasked_any w T B dc ys ht hl2
  unfold finV
  cases hok : okPair xs ys with
  | false =>
    rw [Bool.false_and]
    rcases notok hok with h1 | ⟨h1, h2⟩ | ⟨h1, h2, h3⟩
    · have hb : ((xs.length : Int) != ys.length) = true := by simp; omega
      clear h1 hok HM1 HM2
      go_enter Tryd.func60, Tryd.ntmps60
      go_wp2_with (fail)
      go_ret
      exact ⟨rfl, Below.refl _ _⟩
    · have hb : ((xs.length : Int) != ys.length) = false := by simp [h1]
      rw [h2] at HM1
      have H1 := Lib.hid HM1
      clear h1 h2 hok HM1 HM2
      go_enter Tryd.func60, Tryd.ntmps60
      go_wp2_with (fail)
      refine H1.out.mono ?_
      rintro e w' ⟨rfl, rfl⟩
      go_wp2_with (fail)
      go_ret
      exact ⟨rfl, Below.refl _ _⟩
    · have hb : ((xs.length : Int) != ys.length) = false := by simp [h1]
      rw [h2] at HM1
      rw [h3] at HM2
      have H1 := Lib.hid HM1
      have H2 := Lib.hid HM2
      clear h1 h2 h3 hok HM1 HM2
      go_enter Tryd.func60, Tryd.ntmps60
      go_wp2_with (fail)
      refine H1.out.mono ?_
      rintro e w' ⟨rfl, rfl⟩
      go_wp2_with (fail)
      refine H2.out.mono ?_
      rintro e w' ⟨rfl, rfl⟩
      go_wp2_with (fail)
      go_ret
      exact ⟨rfl, Below.refl _ _⟩
  | true =>
    rw [Bool.true_and]
    obtain ⟨o1, o2, o3⟩ := okPair_parts hok
    have hb : ((xs.length : Int) != ys.length) = false := by simp [o1]
    rw [o2] at HM1
    rw [o3] at HM2
    have H1 := Lib.hid HM1
    have H2 := Lib.hid HM2
    have M1 := Lib.hid (masks_of o2)
    have M2 := Lib.hid (masks_of o3)
    have O1 := Lib.hid o1
    have Hdr := Lib.hid (fun k h1 h2 => @zip_drop difM (fun x => x != 0) xs ys k h1 h2)
    have HZl : Hid ((List.zipWith difM xs ys).length = xs.length) := Lib.hid (by simp; omega)
    have HE := Lib.hid (show finer xs ys = !(List.zipWith difM xs ys).any (fun x => x != 0) from rfl)
    clear o1 o2 o3 hok HM1 HM2
    go_enter Tryd.func60, Tryd.ntmps60
    go_wp2_with (fail)
    refine H1.out.mono ?_
    rintro e w' ⟨rfl, rfl⟩
    go_wp2_with (fail)
    refine H2.out.mono ?_
    rintro e w' ⟨rfl, rfl⟩
    go_wp2_with (fail)
    go_loopg [5] xs.length (fun g i wr => ∃ k : Nat, k + g = xs.length ∧ i = .int .i64 k ∧ Below w.heap.size w wr ∧ (List.zipWith difM xs ys).any (fun x => x != 0) = ((List.zipWith difM xs ys).drop k).any (fun x => x != 0))
    case atStart => exact ⟨0, by omega, rfl, Below.refl _ _, rfl⟩
    case round =>
      obtain ⟨k, hk, rfl, hbel, hany⟩ := hrel
      have Hk := Lib.hid hk
      have Hany := Lib.hid hany
      clear hk hany
      by_cases hlt : k < xs.length
      · have hlt2 : k < ys.length := by have := O1.out; omega
        obtain ⟨b1, f1, rfl, _, hl1, q1⟩ := hs.at_ hlt
        obtain ⟨b2, f2, rfl, _, hl2', q2⟩ := ht.at_ hlt2
        have p1 := (hbel.cell (p := ⟨b1, f1 + k, none⟩) hl1).trans q1
        have p2 := (hbel.cell (p := ⟨b2, f2 + k, none⟩) hl2').trans q2
        have Hd2 := Lib.hid (Hdr.out k hlt hlt2)
        have hbt := bits_fin (M1.out k hlt) (M2.out k hlt2)
        generalize xs[k] = x at *
        generalize ys[k] = y at *
        by_cases hz : (difM x y != 0) = true
        · have F1 : (bits BinOp.and IntKind.i64 x y != x) = true := by rw [hbt, hz]
          have Hz := Lib.hid hz
          clear hbt hz
          go_wp2_with (fail)
          go_quiet (fail)
          go_wp2_with (fail)
          go_ret
          exact ⟨by rw [HE.out, Hany.out, Hd2.out, Hz.out]; rfl, hbel.trans (below_drewN _ _ _)⟩
        · have hz : (difM x y != 0) = false := by simpa using hz
          have F1 : (bits BinOp.and IntKind.i64 x y != x) = false := by rw [hbt, hz]
          have Hz := Lib.hid hz
          clear hbt hz
          go_wp2_with (fail)
          go_quiet (fail)
          go_wp2_with (fail)
          go_roundg (gk - 1)
          case measure => have := Hk.out; omega
          case rel => exact ⟨k + 1, by have := Hk.out; omega, by go_num, hbel.trans (below_drewN _ _ _), by rw [Hany.out, Hd2.out, Hz.out]; rfl⟩
      · have Hf : Hid ((List.zipWith difM xs ys).any (fun x => x != 0) = false) := Lib.hid (by rw [Hany.out, List.drop_of_length_le (by rw [HZl.out]; omega)]; rfl)
        go_wp2_with (fail)
        go_ret
        exact ⟨by rw [HE.out, Hf.out]; rfl, hbel⟩

set_option maxHeartbeats 2000000 in
theorem refAgrees_any (w : World) (S T : Nat → Prop) (A B : Option Addr) (c dc : Nat) (xs ys : List Int) (hs : SI w S A xs) (ht : SI w T B ys) (hl : xs.length ≤ 65536) (hl2 : ys.length ≤ 65536) :
    Calls Tryd.prog 62 #[.slice A xs.length c, .slice B ys.length dc] w fun e w' => e = .returned (.bool (agr xs ys)) ∧ Below w.heap.size w w' := by
  have hv := refMasked_any w T B dc ys ht hl2
  by_cases hlen : xs.length = ys.length
  · have hb : ((xs.length : Int) != ys.length) = false := by simp [hlen]
    have hagr : agr xs ys = (ys.all isMask && agl xs ys) := by unfold agr; simp [hlen]
    rw [hagr]
    have Hl := Lib.hid hlen
    clear hlen hagr
    by_cases hm : ys.all isMask = true
    · have Hm := Lib.hid (masks_of hm)
      rw [hm] at hv
      rw [hm, Bool.true_and]
      have Hv := Lib.hid hv
      clear hm hv
      go_enter Tryd.func62, Tryd.ntmps62
      go_wp2_with (fail)
      refine Hv.out.mono ?_
      rintro e w' ⟨rfl, rfl⟩
      go_wp2_with (fail)
      go_loopg [5] xs.length (fun g i wr => ∃ k : Nat, k + g = xs.length ∧ i = .int .i64 k ∧ Below w.heap.size w wr ∧ agl xs ys = agl (xs.drop k) (ys.drop k))
      case atStart => exact ⟨0, by omega, rfl, Below.refl _ _, rfl⟩
      case round =>
        obtain ⟨k, hk, rfl, hbel, hi⟩ := hrel
        have Hi := Lib.hid hi
        have Hk := Lib.hid hk
        clear hi hk
        by_cases hlt : k < xs.length
        · have hlt2 : k < ys.length := by have := Hl.out; omega
          obtain ⟨b, off, rfl, _, _, hc⟩ := (hs.keep (Kept.of_below hbel)).at_ hlt
          obtain ⟨b2, off2, rfl, _, _, hc2⟩ := (ht.keep (Kept.of_below hbel)).at_ hlt2
          have Hd := Lib.hid (agl_drop xs ys k hlt hlt2)
          have my := Hm.out k hlt2
          generalize xs[k] = x at *
          generalize ys[k] = y at *
          by_cases hx : x = 1 ∨ x = 2
          · have hy2 : y = 1 ∨ y = 2 ∨ y = 3 := by omega
            clear my
            rcases hx with rfl | rfl <;> rcases hy2 with rfl | rfl | rfl
            all_goals
              go_wp2_with (fail)
              go_quiet (fail)
              go_wp2_with (fail)
              first
              | (go_ret
                 exact ⟨by rw [Hi.out, Hd.out]; rfl, hbel.trans (below_drewN _ _ _)⟩)
              | (go_roundg (gk - 1)
                 case measure => have := Hk.out; omega
                 case rel =>
                   have := Hk.out
                   refine ⟨k + 1, by omega, by go_num, hbel.trans (below_drewN _ _ _), ?_⟩
                   rw [Hi.out, Hd.out]; rfl)
          · have f1 : (x != 1) = true := by simp; omega
            have f2 : (x != 2) = true := by simp; omega
            have Hp : Hid (agB x y = false) := Lib.hid (by unfold agB isPos; simp; omega)
            clear hx my
            go_wp2_with (fail)
            go_quiet (fail)
            go_wp2_with (fail)
            go_ret
            exact ⟨by rw [Hi.out, Hd.out, Hp.out]; rfl, hbel.trans (below_drewN _ _ _)⟩
        · have Hf : Hid (agl xs ys = true) := Lib.hid (by rw [Hi.out, List.drop_of_length_le (by omega)]; rfl)
          go_wp2_with (fail)
          go_ret
          exact ⟨by rw [Hf.out]; rfl, hbel⟩
    · have hm : ys.all isMask = false := by simpa using hm
      rw [hm] at hv
      rw [hm, Bool.false_and]
      have Hv := Lib.hid hv
      clear hm hv
      go_enter Tryd.func62, Tryd.ntmps62
      go_wp2_with (fail)
      refine Hv.out.mono ?_
      rintro e w' ⟨rfl, rfl⟩
      go_wp2_with (fail)
      go_ret
      exact ⟨rfl, Below.refl _ _⟩
  · have hb : ((xs.length : Int) != ys.length) = true := by simp; omega
    have HE := Lib.hid (show agr xs ys = false by unfold agr; simp [hlen])
    clear hlen hv
    go_enter Tryd.func62, Tryd.ntmps62
    go_wp2_with (fail)
    go_ret
    exact ⟨by rw [HE.out]; rfl, Below.refl _ _⟩
end Go.Proofs.YtgpcojmdfmngeaaDoor

/-
  The law MaskAnswers, walked: region 14, and the inputs that the law takes.
-/
import Derived.Test.YtgpcojmdfmngeaaDoorLMf
namespace Go.Proofs.YtgpcojmdfmngeaaDoor
open Go.RowKit
set_option maxHeartbeats 400000
set_option maxRecDepth 100000

set_option maxHeartbeats 16000000 in
theorem maskRed_ok (w : World) (h : TabC w) (ht : Tab w) (A : Option Addr) (c : Nat) (xs : List Int) (hs : SI w (fun _ => True) A xs) (Aa : Option Addr) (ca : Nat) (la : List Int) (hsa : SI w (fun _ => True) Aa la) (Ab : Option Addr) (cb : Nat) (lb : List Int) (hsb : SI w (fun _ => True) Ab lb)
    (R1 R2 : Option Addr) (d1 d2 : Nat) (rn : List Node) (rd : List Dev) (hr : NetIn w (fun _ => True) R1 R2 rn rd) (hr1 : rn.length ≤ maxLen) (hr2 : rd.length ≤ maxLen) (hf : xs.length ≤ 400) (h100 : la.length ≤ 12) (h200 : lb.length ≤ 12) (hli : lightB rn rd = true) :
    (maskRed w h ht A c xs hs Aa ca la hsa Ab cb lb hsb R1 R2 d1 d2 rn rd hr hr1 hr2 hf h100 h200 hli).1 := by
  unfold maskRed
  dsimp only
  set_option tactic.hygienic false in intros
  refine wp_region_extG (by kernel_rfl) 56 [97, 98, 99, 100, 101, 102, 103, 104, 105, 106, 107, 108, 109, 110, 111, 112, 113, 114, 115, 116, 117, 118, 119, 120, 121, 122, 123, 124, 125, 126, 127, 128, 129, 130, 131, 132, 133, 134, 135, 136, 137, 138, 139, 140, 141, 142, 143, 144, 145, 146, 147, 148, 149, 150, 151, 152] [(100, false), (105, false), (110, false), (117, false), (126, false), (135, false), (144, false)] [] (fun w' => AS wb WA w') (fun _ _ => True) (fun d vv w' => if d = 97 then vv = .int .i64 (cn) else if d = 98 then vv = .int .i64 (cn) else if d = 99 then vv = .bool false else if d = 100 then vv = .bool false else if d = 101 then vv = .int .i64 (ce) else if d = 102 then vv = .int .i64 (ce) else if d = 103 then vv = .bool false else if d = 104 then vv = .bool false else if d = 105 then vv = .bool false else if d = 106 then vv = .int .i64 (ae) else if d = 107 then vv = .int .i64 (ae) else if d = 108 then vv = .bool false else if d = 109 then vv = .bool false else if d = 110 then vv = .bool false else if d = 111 then vv = .slice P1 rows.length pc1 else if d = 112 then vv = .int .i64 (rows.length : Nat) else if d = 113 then vv = .slice P2 rows.length pc2 else if d = 114 then vv = .int .i64 (rows.length : Nat) else if d = 115 then vv = .bool false else if d = 116 then vv = .bool false else if d = 117 then vv = .bool false else if d = 118 then vv = .agg #[.slice A1 ns.length c1, .slice A2 ds.length c2] else if d = 119 then vv = .slice X xl.length xc else if d = 120 then vv = .int .i64 (maskC isMask ns ds xl) else if d = 121 then vv = .agg #[.slice A1 ns.length c1, .slice A2 ds.length c2] else if d = 122 then vv = .slice X xl.length xc else if d = 123 then vv = .int .i64 (maskC isMask ns ds xl) else if d = 124 then vv = .bool false else if d = 125 then vv = .bool false else if d = 126 then vv = .bool false else if d = 127 then vv = .agg #[.slice A1 ns.length c1, .slice A2 ds.length c2] else if d = 128 then vv = .slice X xl.length xc else if d = 129 then vv = .int .i64 (maskC isPos ns ds xl) else if d = 130 then vv = .agg #[.slice A1 ns.length c1, .slice A2 ds.length c2] else if d = 131 then vv = .slice X xl.length xc else if d = 132 then vv = .int .i64 (maskC isPos ns ds xl) else if d = 133 then vv = .bool false else if d = 134 then vv = .bool false else if d = 135 then vv = .bool false else if d = 136 then vv = .agg #[.slice R1 rn.length d1, .slice R2 rd.length d2] else if d = 137 then vv = .slice X xl.length xc else if d = 138 then vv = .int .i64 (maskC isMask rn rd xl) else if d = 139 then vv = .agg #[.slice R1 rn.length d1, .slice R2 rd.length d2] else if d = 140 then vv = .slice X xl.length xc else if d = 141 then vv = .int .i64 (maskC isMask rn rd xl) else if d = 142 then vv = .bool false else if d = 143 then vv = .bool false else if d = 144 then vv = .bool false else if d = 145 then vv = .agg #[.slice R1 rn.length d1, .slice R2 rd.length d2] else if d = 146 then vv = .slice X xl.length xc else if d = 147 then vv = .int .i64 (maskC isPos rn rd xl) else if d = 148 then vv = .agg #[.slice R1 rn.length d1, .slice R2 rd.length d2] else if d = 149 then vv = .slice X xl.length xc else if d = 150 then vv = .int .i64 (maskC isPos rn rd xl) else if d = 151 then vv = .bool false else if d = 152 then vv = .bool false else False) (by kernel_rfl) (by kernel_rfl) (by simp) (SA.drew) (fun _ => trivial) (by simp) (by simp) (fun _ _ _ _ _ _ h => h) ?_ ?_
  · intro i o d hi hwt ho hd f w1 hC hdep K hK
    have hi' : i = 0 ∨ i = 1 ∨ i = 2 ∨ i = 3 ∨ i = 4 ∨ i = 5 ∨ i = 6 ∨ i = 7 ∨ i = 8 ∨ i = 9 ∨ i = 10 ∨ i = 11 ∨ i = 12 ∨ i = 13 ∨ i = 14 ∨ i = 15 ∨ i = 16 ∨ i = 17 ∨ i = 18 ∨ i = 19 ∨ i = 20 ∨ i = 21 ∨ i = 22 ∨ i = 23 ∨ i = 24 ∨ i = 25 ∨ i = 26 ∨ i = 27 ∨ i = 28 ∨ i = 29 ∨ i = 30 ∨ i = 31 ∨ i = 32 ∨ i = 33 ∨ i = 34 ∨ i = 35 ∨ i = 36 ∨ i = 37 ∨ i = 38 ∨ i = 39 ∨ i = 40 ∨ i = 41 ∨ i = 42 ∨ i = 43 ∨ i = 44 ∨ i = 45 ∨ i = 46 ∨ i = 47 ∨ i = 48 ∨ i = 49 ∨ i = 50 ∨ i = 51 ∨ i = 52 ∨ i = 53 ∨ i = 54 ∨ i = 55 := by omega
    rcases hi' with rfl | rfl | rfl | rfl | rfl | rfl | rfl | rfl | rfl | rfl | rfl | rfl | rfl | rfl | rfl | rfl | rfl | rfl | rfl | rfl | rfl | rfl | rfl | rfl | rfl | rfl | rfl | rfl | rfl | rfl | rfl | rfl | rfl | rfl | rfl | rfl | rfl | rfl | rfl | rfl | rfl | rfl | rfl | rfl | rfl | rfl | rfl | rfl | rfl | rfl | rfl | rfl | rfl | rfl | rfl | rfl
    · simp only [List.getElem?_toArray, List.getElem?_cons_zero, Option.some.injEq] at ho
      clear hwt
      subst ho
      simp only [Option.some.injEq] at hd
      subst hd
      generalize hA : fr _ _ _ f = A at hK ⊢
      have e16 : A.tmps[16]?.getD undef = .int .i64 (cn) := by rw [← hA]; exact fr_out _ _ _ _ 16 _ (by decide) rfl
      clear hA hdep
      go_simp
      exact hK _ _ trivial hC rfl
    · simp only [List.getElem?_toArray, List.getElem?_cons_zero, List.getElem?_cons_succ, Option.some.injEq] at ho
      clear hwt
      subst ho
      simp only [Option.some.injEq] at hd
      subst hd
      generalize hA : fr _ _ _ f = A at hK ⊢
      have e18 : A.tmps[18]?.getD undef = .int .i64 (cn) := by rw [← hA]; exact fr_out _ _ _ _ 18 _ (by decide) rfl
      clear hA hdep
      go_simp
      exact hK _ _ trivial hC rfl
    · simp only [List.getElem?_toArray, List.getElem?_cons_zero, List.getElem?_cons_succ, Option.some.injEq] at ho
      clear hwt
      subst ho
      simp only [Option.some.injEq] at hd
      subst hd
      have h97 : f 97 = .int .i64 (cn) := hdep { on := 0, ground := .data } (by simp) rfl 97 rfl
      have h98 : f 98 = .int .i64 (cn) := hdep { on := 1, ground := .data } (by simp) rfl 98 rfl
      generalize hA : fr _ _ _ f = A at hK ⊢
      have e97 : A.tmps[97]?.getD undef = f 97 := by rw [← hA]; exact fr_in _ _ _ _ 97 (by decide) (by simp)
      have e98 : A.tmps[98]?.getD undef = f 98 := by rw [← hA]; exact fr_in _ _ _ _ 98 (by decide) (by simp)
      clear hA hdep
      rw [h97] at e97
      clear h97
      rw [h98] at e98
      clear h98
      go_simp
      exact hK _ _ trivial hC (by simp)
    · simp only [List.getElem?_toArray, List.getElem?_cons_zero, List.getElem?_cons_succ, Option.some.injEq] at ho
      clear hwt
      subst ho
      simp only [Option.some.injEq] at hd
      subst hd
      have h99 : f 99 = .bool false := hdep { on := 2, ground := .data } (by simp) rfl 99 rfl
      generalize hA : fr _ _ _ f = A at hK ⊢
      have e99 : A.tmps[99]?.getD undef = f 99 := by rw [← hA]; exact fr_in _ _ _ _ 99 (by decide) (by simp)
      clear hA hdep
      rw [h99] at e99
      clear h99
      go_simp
      exact hK _ _ trivial hC rfl
    · simp only [List.getElem?_toArray, List.getElem?_cons_zero, List.getElem?_cons_succ, Option.some.injEq] at ho
      clear hwt
      subst ho
      simp only [Option.some.injEq] at hd
      subst hd
      generalize hA : fr _ _ _ f = A at hK ⊢
      have e17 : A.tmps[17]?.getD undef = .int .i64 (ce) := by rw [← hA]; exact fr_out _ _ _ _ 17 _ (by decide) rfl
      clear hA hdep
      go_simp
      exact hK _ _ trivial hC rfl
    · simp only [List.getElem?_toArray, List.getElem?_cons_zero, List.getElem?_cons_succ, Option.some.injEq] at ho
      clear hwt
      subst ho
      simp only [Option.some.injEq] at hd
      subst hd
      generalize hA : fr _ _ _ f = A at hK ⊢
      have e19 : A.tmps[19]?.getD undef = .int .i64 (ce) := by rw [← hA]; exact fr_out _ _ _ _ 19 _ (by decide) rfl
      clear hA hdep
      go_simp
      exact hK _ _ trivial hC rfl
    · simp only [List.getElem?_toArray, List.getElem?_cons_zero, List.getElem?_cons_succ, Option.some.injEq] at ho
      clear hwt
      subst ho
      simp only [Option.some.injEq] at hd
      subst hd
      have h101 : f 101 = .int .i64 (ce) := hdep { on := 4, ground := .data } (by simp) rfl 101 rfl
      have h102 : f 102 = .int .i64 (ce) := hdep { on := 5, ground := .data } (by simp) rfl 102 rfl
      generalize hA : fr _ _ _ f = A at hK ⊢
      have e101 : A.tmps[101]?.getD undef = f 101 := by rw [← hA]; exact fr_in _ _ _ _ 101 (by decide) (by simp)
      have e102 : A.tmps[102]?.getD undef = f 102 := by rw [← hA]; exact fr_in _ _ _ _ 102 (by decide) (by simp)
      clear hA hdep
      rw [h101] at e101
      clear h101
      rw [h102] at e102
      clear h102
      go_simp
      exact hK _ _ trivial hC (by simp)
    · simp only [List.getElem?_toArray, List.getElem?_cons_zero, List.getElem?_cons_succ, Option.some.injEq] at ho
      clear hwt
      subst ho
      simp only [Option.some.injEq] at hd
      subst hd
      have h100 : f 100 = .bool false := hdep { on := 3, ground := .data } (by simp) rfl 100 rfl
      have h103 : f 103 = .bool false := hdep { on := 6, ground := .data } (by simp) rfl 103 rfl
      generalize hA : fr _ _ _ f = A at hK ⊢
      have e100 : A.tmps[100]?.getD undef = f 100 := by rw [← hA]; exact fr_in _ _ _ _ 100 (by decide) (by simp)
      have e103 : A.tmps[103]?.getD undef = f 103 := by rw [← hA]; exact fr_in _ _ _ _ 103 (by decide) (by simp)
      clear hA hdep
      rw [h100] at e100
      clear h100
      rw [h103] at e103
      clear h103
      go_simp
      exact hK _ _ trivial hC (by simp)
    · simp only [List.getElem?_toArray, List.getElem?_cons_zero, List.getElem?_cons_succ, Option.some.injEq] at ho
      clear hwt
      subst ho
      simp only [Option.some.injEq] at hd
      subst hd
      have h104 : f 104 = .bool false := hdep { on := 7, ground := .data } (by simp) rfl 104 rfl
      generalize hA : fr _ _ _ f = A at hK ⊢
      have e104 : A.tmps[104]?.getD undef = f 104 := by rw [← hA]; exact fr_in _ _ _ _ 104 (by decide) (by simp)
      clear hA hdep
      rw [h104] at e104
      clear h104
      go_simp
      exact hK _ _ trivial hC rfl
    · simp only [List.getElem?_toArray, List.getElem?_cons_zero, List.getElem?_cons_succ, Option.some.injEq] at ho
      clear hwt
      subst ho
      simp only [Option.some.injEq] at hd
      subst hd
      generalize hA : fr _ _ _ f = A at hK ⊢
      have e21 : A.tmps[21]?.getD undef = .int .i64 (ae) := by rw [← hA]; exact fr_out _ _ _ _ 21 _ (by decide) rfl
      clear hA hdep
      go_simp
      exact hK _ _ trivial hC rfl
    · simp only [List.getElem?_toArray, List.getElem?_cons_zero, List.getElem?_cons_succ, Option.some.injEq] at ho
      clear hwt
      subst ho
      simp only [Option.some.injEq] at hd
      subst hd
      generalize hA : fr _ _ _ f = A at hK ⊢
      have e23 : A.tmps[23]?.getD undef = .int .i64 (ae) := by rw [← hA]; exact fr_out _ _ _ _ 23 _ (by decide) rfl
      clear hA hdep
      go_simp
      exact hK _ _ trivial hC rfl
    · simp only [List.getElem?_toArray, List.getElem?_cons_zero, List.getElem?_cons_succ, Option.some.injEq] at ho
      clear hwt
      subst ho
      simp only [Option.some.injEq] at hd
      subst hd
      have h106 : f 106 = .int .i64 (ae) := hdep { on := 9, ground := .data } (by simp) rfl 106 rfl
      have h107 : f 107 = .int .i64 (ae) := hdep { on := 10, ground := .data } (by simp) rfl 107 rfl
      generalize hA : fr _ _ _ f = A at hK ⊢
      have e106 : A.tmps[106]?.getD undef = f 106 := by rw [← hA]; exact fr_in _ _ _ _ 106 (by decide) (by simp)
      have e107 : A.tmps[107]?.getD undef = f 107 := by rw [← hA]; exact fr_in _ _ _ _ 107 (by decide) (by simp)
      clear hA hdep
      rw [h106] at e106
      clear h106
      rw [h107] at e107
      clear h107
      go_simp
      exact hK _ _ trivial hC (by simp)
    · simp only [List.getElem?_toArray, List.getElem?_cons_zero, List.getElem?_cons_succ, Option.some.injEq] at ho
      clear hwt
      subst ho
      simp only [Option.some.injEq] at hd
      subst hd
      have h105 : f 105 = .bool false := hdep { on := 8, ground := .data } (by simp) rfl 105 rfl
      have h108 : f 108 = .bool false := hdep { on := 11, ground := .data } (by simp) rfl 108 rfl
      generalize hA : fr _ _ _ f = A at hK ⊢
      have e105 : A.tmps[105]?.getD undef = f 105 := by rw [← hA]; exact fr_in _ _ _ _ 105 (by decide) (by simp)
      have e108 : A.tmps[108]?.getD undef = f 108 := by rw [← hA]; exact fr_in _ _ _ _ 108 (by decide) (by simp)
      clear hA hdep
      rw [h105] at e105
      clear h105
      rw [h108] at e108
      clear h108
      go_simp
      exact hK _ _ trivial hC (by simp)
    · simp only [List.getElem?_toArray, List.getElem?_cons_zero, List.getElem?_cons_succ, Option.some.injEq] at ho
      clear hwt
      subst ho
      simp only [Option.some.injEq] at hd
      subst hd
      have h109 : f 109 = .bool false := hdep { on := 12, ground := .data } (by simp) rfl 109 rfl
      generalize hA : fr _ _ _ f = A at hK ⊢
      have e109 : A.tmps[109]?.getD undef = f 109 := by rw [← hA]; exact fr_in _ _ _ _ 109 (by decide) (by simp)
      clear hA hdep
      rw [h109] at e109
      clear h109
      go_simp
      exact hK _ _ trivial hC rfl
    · simp only [List.getElem?_toArray, List.getElem?_cons_zero, List.getElem?_cons_succ, Option.some.injEq] at ho
      clear hwt
      subst ho
      simp only [Option.some.injEq] at hd
      subst hd
      generalize hA : fr _ _ _ f = A at hK ⊢
      have e20 : A.tmps[20]?.getD undef = .slice P1 rows.length pc1 := by rw [← hA]; exact fr_out _ _ _ _ 20 _ (by decide) rfl
      clear hA hdep
      go_simp
      exact hK _ _ trivial hC rfl
    · simp only [List.getElem?_toArray, List.getElem?_cons_zero, List.getElem?_cons_succ, Option.some.injEq] at ho
      clear hwt
      subst ho
      simp only [Option.some.injEq] at hd
      subst hd
      have h111 : f 111 = .slice P1 rows.length pc1 := hdep { on := 14, ground := .data } (by simp) rfl 111 rfl
      generalize hA : fr _ _ _ f = A at hK ⊢
      have e111 : A.tmps[111]?.getD undef = f 111 := by rw [← hA]; exact fr_in _ _ _ _ 111 (by decide) (by simp)
      clear hA hdep
      rw [h111] at e111
      clear h111
      go_simp
      exact hK _ _ trivial hC rfl
    · simp only [List.getElem?_toArray, List.getElem?_cons_zero, List.getElem?_cons_succ, Option.some.injEq] at ho
      clear hwt
      subst ho
      simp only [Option.some.injEq] at hd
      subst hd
      generalize hA : fr _ _ _ f = A at hK ⊢
      have e22 : A.tmps[22]?.getD undef = .slice P2 rows.length pc2 := by rw [← hA]; exact fr_out _ _ _ _ 22 _ (by decide) rfl
      clear hA hdep
      go_simp
      exact hK _ _ trivial hC rfl
    · simp only [List.getElem?_toArray, List.getElem?_cons_zero, List.getElem?_cons_succ, Option.some.injEq] at ho
      clear hwt
      subst ho
      simp only [Option.some.injEq] at hd
      subst hd
      have h113 : f 113 = .slice P2 rows.length pc2 := hdep { on := 16, ground := .data } (by simp) rfl 113 rfl
      generalize hA : fr _ _ _ f = A at hK ⊢
      have e113 : A.tmps[113]?.getD undef = f 113 := by rw [← hA]; exact fr_in _ _ _ _ 113 (by decide) (by simp)
      clear hA hdep
      rw [h113] at e113
      clear h113
      go_simp
      exact hK _ _ trivial hC rfl
    · simp only [List.getElem?_toArray, List.getElem?_cons_zero, List.getElem?_cons_succ, Option.some.injEq] at ho
      clear hwt
      subst ho
      simp only [Option.some.injEq] at hd
      subst hd
      have h112 : f 112 = .int .i64 (rows.length : Nat) := hdep { on := 15, ground := .data } (by simp) rfl 112 rfl
      have h114 : f 114 = .int .i64 (rows.length : Nat) := hdep { on := 17, ground := .data } (by simp) rfl 114 rfl
      generalize hA : fr _ _ _ f = A at hK ⊢
      have e112 : A.tmps[112]?.getD undef = f 112 := by rw [← hA]; exact fr_in _ _ _ _ 112 (by decide) (by simp)
      have e114 : A.tmps[114]?.getD undef = f 114 := by rw [← hA]; exact fr_in _ _ _ _ 114 (by decide) (by simp)
      clear hA hdep
      rw [h112] at e112
      clear h112
      rw [h114] at e114
      clear h114
      go_simp
      exact hK _ _ trivial hC (by simp)
    · simp only [List.getElem?_toArray, List.getElem?_cons_zero, List.getElem?_cons_succ, Option.some.injEq] at ho
      clear hwt
      subst ho
      simp only [Option.some.injEq] at hd
      subst hd
      have h110 : f 110 = .bool false := hdep { on := 13, ground := .data } (by simp) rfl 110 rfl
      have h115 : f 115 = .bool false := hdep { on := 18, ground := .data } (by simp) rfl 115 rfl
      generalize hA : fr _ _ _ f = A at hK ⊢
      have e110 : A.tmps[110]?.getD undef = f 110 := by rw [← hA]; exact fr_in _ _ _ _ 110 (by decide) (by simp)
      have e115 : A.tmps[115]?.getD undef = f 115 := by rw [← hA]; exact fr_in _ _ _ _ 115 (by decide) (by simp)
      clear hA hdep
      rw [h110] at e110
      clear h110
      rw [h115] at e115
      clear h115
      go_simp
      exact hK _ _ trivial hC (by simp)
    · simp only [List.getElem?_toArray, List.getElem?_cons_zero, List.getElem?_cons_succ, Option.some.injEq] at ho
      clear hwt
      subst ho
      simp only [Option.some.injEq] at hd
      subst hd
      have h116 : f 116 = .bool false := hdep { on := 19, ground := .data } (by simp) rfl 116 rfl
      generalize hA : fr _ _ _ f = A at hK ⊢
      have e116 : A.tmps[116]?.getD undef = f 116 := by rw [← hA]; exact fr_in _ _ _ _ 116 (by decide) (by simp)
      clear hA hdep
      rw [h116] at e116
      clear h116
      go_simp
      exact hK _ _ trivial hC rfl
    · simp only [List.getElem?_toArray, List.getElem?_cons_zero, List.getElem?_cons_succ, Option.some.injEq] at ho
      clear hwt
      subst ho
      simp only [Option.some.injEq] at hd
      subst hd
      generalize hA : fr _ _ _ f = A at hK ⊢
      have e10 : A.tmps[10]?.getD undef = .pointer (some ⟨gn, 0, none⟩) := by rw [← hA]; exact fr_out _ _ _ _ 10 _ (by decide) rfl
      clear hA hdep
      have hcell0 := (hC.fr.cell hgnl hgnb 0).trans x0
      have hcell1 := (hC.fr.cell hgnl hgnb 1).trans x1
      go_simp
      exact hK _ _ trivial hC rfl
    · simp only [List.getElem?_toArray, List.getElem?_cons_zero, List.getElem?_cons_succ, Option.some.injEq] at ho
      clear hwt
      subst ho
      simp only [Option.some.injEq] at hd
      subst hd
      generalize hA : fr _ _ _ f = A at hK ⊢
      have e15 : A.tmps[15]?.getD undef = .slice X xl.length xc := by rw [← hA]; exact fr_out _ _ _ _ 15 _ (by decide) rfl
      clear hA hdep
      go_simp
      exact hK _ _ trivial hC rfl
    · simp only [List.getElem?_toArray, List.getElem?_cons_zero, List.getElem?_cons_succ, Option.some.injEq] at ho
      clear hwt
      subst ho
      simp only [Option.some.injEq] at hd
      subst hd
      have h118 : f 118 = .agg #[.slice A1 ns.length c1, .slice A2 ds.length c2] := hdep { on := 21, ground := .data } (by simp) rfl 118 rfl
      have h119 : f 119 = .slice X xl.length xc := hdep { on := 22, ground := .data } (by simp) rfl 119 rfl
      generalize hA : fr _ _ _ f = A at hK ⊢
      have e118 : A.tmps[118]?.getD undef = f 118 := by rw [← hA]; exact fr_in _ _ _ _ 118 (by decide) (by simp)
      have e119 : A.tmps[119]?.getD undef = f 119 := by rw [← hA]; exact fr_in _ _ _ _ 119 (by decide) (by simp)
      clear hA hdep
      rw [h118] at e118
      clear h118
      rw [h119] at e119
      clear h119
      go_simp
      refine (HCn1.out w1 hC).mono ?_
      rintro e' w2 ⟨rfl, hb2⟩
      exact hK _ _ trivial (hC.below hb2) rfl
    · simp only [List.getElem?_toArray, List.getElem?_cons_zero, List.getElem?_cons_succ, Option.some.injEq] at ho
      clear hwt
      subst ho
      simp only [Option.some.injEq] at hd
      subst hd
      generalize hA : fr _ _ _ f = A at hK ⊢
      have e10 : A.tmps[10]?.getD undef = .pointer (some ⟨gn, 0, none⟩) := by rw [← hA]; exact fr_out _ _ _ _ 10 _ (by decide) rfl
      clear hA hdep
      have hcell0 := (hC.fr.cell hgnl hgnb 0).trans x0
      have hcell1 := (hC.fr.cell hgnl hgnb 1).trans x1
      go_simp
      exact hK _ _ trivial hC rfl
    · simp only [List.getElem?_toArray, List.getElem?_cons_zero, List.getElem?_cons_succ, Option.some.injEq] at ho
      clear hwt
      subst ho
      simp only [Option.some.injEq] at hd
      subst hd
      generalize hA : fr _ _ _ f = A at hK ⊢
      have e15 : A.tmps[15]?.getD undef = .slice X xl.length xc := by rw [← hA]; exact fr_out _ _ _ _ 15 _ (by decide) rfl
      clear hA hdep
      go_simp
      exact hK _ _ trivial hC rfl
    · simp only [List.getElem?_toArray, List.getElem?_cons_zero, List.getElem?_cons_succ, Option.some.injEq] at ho
      clear hwt
      subst ho
      simp only [Option.some.injEq] at hd
      subst hd
      have h121 : f 121 = .agg #[.slice A1 ns.length c1, .slice A2 ds.length c2] := hdep { on := 24, ground := .data } (by simp) rfl 121 rfl
      have h122 : f 122 = .slice X xl.length xc := hdep { on := 25, ground := .data } (by simp) rfl 122 rfl
      generalize hA : fr _ _ _ f = A at hK ⊢
      have e121 : A.tmps[121]?.getD undef = f 121 := by rw [← hA]; exact fr_in _ _ _ _ 121 (by decide) (by simp)
      have e122 : A.tmps[122]?.getD undef = f 122 := by rw [← hA]; exact fr_in _ _ _ _ 122 (by decide) (by simp)
      clear hA hdep
      rw [h121] at e121
      clear h121
      rw [h122] at e122
      clear h122
      go_simp
      refine (HCn2.out w1 hC).mono ?_
      rintro e' w2 ⟨rfl, hb2⟩
      exact hK _ _ trivial (hC.below hb2) rfl
    · simp only [List.getElem?_toArray, List.getElem?_cons_zero, List.getElem?_cons_succ, Option.some.injEq] at ho
      clear hwt
      subst ho
      simp only [Option.some.injEq] at hd
      subst hd
      have h120 : f 120 = .int .i64 (maskC isMask ns ds xl) := hdep { on := 23, ground := .data } (by simp) rfl 120 rfl
      have h123 : f 123 = .int .i64 (maskC isMask ns ds xl) := hdep { on := 26, ground := .data } (by simp) rfl 123 rfl
      generalize hA : fr _ _ _ f = A at hK ⊢
      have e120 : A.tmps[120]?.getD undef = f 120 := by rw [← hA]; exact fr_in _ _ _ _ 120 (by decide) (by simp)
      have e123 : A.tmps[123]?.getD undef = f 123 := by rw [← hA]; exact fr_in _ _ _ _ 123 (by decide) (by simp)
      clear hA hdep
      rw [h120] at e120
      clear h120
      rw [h123] at e123
      clear h123
      go_simp
      exact hK _ _ trivial hC (by simp)
    · simp only [List.getElem?_toArray, List.getElem?_cons_zero, List.getElem?_cons_succ, Option.some.injEq] at ho
      clear hwt
      subst ho
      simp only [Option.some.injEq] at hd
      subst hd
      have h117 : f 117 = .bool false := hdep { on := 20, ground := .data } (by simp) rfl 117 rfl
      have h124 : f 124 = .bool false := hdep { on := 27, ground := .data } (by simp) rfl 124 rfl
      generalize hA : fr _ _ _ f = A at hK ⊢
      have e117 : A.tmps[117]?.getD undef = f 117 := by rw [← hA]; exact fr_in _ _ _ _ 117 (by decide) (by simp)
      have e124 : A.tmps[124]?.getD undef = f 124 := by rw [← hA]; exact fr_in _ _ _ _ 124 (by decide) (by simp)
      clear hA hdep
      rw [h117] at e117
      clear h117
      rw [h124] at e124
      clear h124
      go_simp
      exact hK _ _ trivial hC (by simp)
    · simp only [List.getElem?_toArray, List.getElem?_cons_zero, List.getElem?_cons_succ, Option.some.injEq] at ho
      clear hwt
      subst ho
      simp only [Option.some.injEq] at hd
      subst hd
      have h125 : f 125 = .bool false := hdep { on := 28, ground := .data } (by simp) rfl 125 rfl
      generalize hA : fr _ _ _ f = A at hK ⊢
      have e125 : A.tmps[125]?.getD undef = f 125 := by rw [← hA]; exact fr_in _ _ _ _ 125 (by decide) (by simp)
      clear hA hdep
      rw [h125] at e125
      clear h125
      go_simp
      exact hK _ _ trivial hC rfl
    · simp only [List.getElem?_toArray, List.getElem?_cons_zero, List.getElem?_cons_succ, Option.some.injEq] at ho
      clear hwt
      subst ho
      simp only [Option.some.injEq] at hd
      subst hd
      generalize hA : fr _ _ _ f = A at hK ⊢
      have e10 : A.tmps[10]?.getD undef = .pointer (some ⟨gn, 0, none⟩) := by rw [← hA]; exact fr_out _ _ _ _ 10 _ (by decide) rfl
      clear hA hdep
      have hcell0 := (hC.fr.cell hgnl hgnb 0).trans x0
      have hcell1 := (hC.fr.cell hgnl hgnb 1).trans x1
      go_simp
      exact hK _ _ trivial hC rfl
    · simp only [List.getElem?_toArray, List.getElem?_cons_zero, List.getElem?_cons_succ, Option.some.injEq] at ho
      clear hwt
      subst ho
      simp only [Option.some.injEq] at hd
      subst hd
      generalize hA : fr _ _ _ f = A at hK ⊢
      have e15 : A.tmps[15]?.getD undef = .slice X xl.length xc := by rw [← hA]; exact fr_out _ _ _ _ 15 _ (by decide) rfl
      clear hA hdep
      go_simp
      exact hK _ _ trivial hC rfl
    · simp only [List.getElem?_toArray, List.getElem?_cons_zero, List.getElem?_cons_succ, Option.some.injEq] at ho
      clear hwt
      subst ho
      simp only [Option.some.injEq] at hd
      subst hd
      have h127 : f 127 = .agg #[.slice A1 ns.length c1, .slice A2 ds.length c2] := hdep { on := 30, ground := .data } (by simp) rfl 127 rfl
      have h128 : f 128 = .slice X xl.length xc := hdep { on := 31, ground := .data } (by simp) rfl 128 rfl
      generalize hA : fr _ _ _ f = A at hK ⊢
      have e127 : A.tmps[127]?.getD undef = f 127 := by rw [← hA]; exact fr_in _ _ _ _ 127 (by decide) (by simp)
      have e128 : A.tmps[128]?.getD undef = f 128 := by rw [← hA]; exact fr_in _ _ _ _ 128 (by decide) (by simp)
      clear hA hdep
      rw [h127] at e127
      clear h127
      rw [h128] at e128
      clear h128
      go_simp
      refine (HSn1.out w1 hC).mono ?_
      rintro e' w2 ⟨rfl, hb2⟩
      exact hK _ _ trivial (hC.below hb2) rfl
    · simp only [List.getElem?_toArray, List.getElem?_cons_zero, List.getElem?_cons_succ, Option.some.injEq] at ho
      clear hwt
      subst ho
      simp only [Option.some.injEq] at hd
      subst hd
      generalize hA : fr _ _ _ f = A at hK ⊢
      have e10 : A.tmps[10]?.getD undef = .pointer (some ⟨gn, 0, none⟩) := by rw [← hA]; exact fr_out _ _ _ _ 10 _ (by decide) rfl
      clear hA hdep
      have hcell0 := (hC.fr.cell hgnl hgnb 0).trans x0
      have hcell1 := (hC.fr.cell hgnl hgnb 1).trans x1
      go_simp
      exact hK _ _ trivial hC rfl
    · simp only [List.getElem?_toArray, List.getElem?_cons_zero, List.getElem?_cons_succ, Option.some.injEq] at ho
      clear hwt
      subst ho
      simp only [Option.some.injEq] at hd
      subst hd
      generalize hA : fr _ _ _ f = A at hK ⊢
      have e15 : A.tmps[15]?.getD undef = .slice X xl.length xc := by rw [← hA]; exact fr_out _ _ _ _ 15 _ (by decide) rfl
      clear hA hdep
      go_simp
      exact hK _ _ trivial hC rfl
    · simp only [List.getElem?_toArray, List.getElem?_cons_zero, List.getElem?_cons_succ, Option.some.injEq] at ho
      clear hwt
      subst ho
      simp only [Option.some.injEq] at hd
      subst hd
      have h130 : f 130 = .agg #[.slice A1 ns.length c1, .slice A2 ds.length c2] := hdep { on := 33, ground := .data } (by simp) rfl 130 rfl
      have h131 : f 131 = .slice X xl.length xc := hdep { on := 34, ground := .data } (by simp) rfl 131 rfl
      generalize hA : fr _ _ _ f = A at hK ⊢
      have e130 : A.tmps[130]?.getD undef = f 130 := by rw [← hA]; exact fr_in _ _ _ _ 130 (by decide) (by simp)
      have e131 : A.tmps[131]?.getD undef = f 131 := by rw [← hA]; exact fr_in _ _ _ _ 131 (by decide) (by simp)
      clear hA hdep
      rw [h130] at e130
      clear h130
      rw [h131] at e131
      clear h131
      go_simp
      refine (HSn2.out w1 hC).mono ?_
      rintro e' w2 ⟨rfl, hb2⟩
      exact hK _ _ trivial (hC.below hb2) rfl
    · simp only [List.getElem?_toArray, List.getElem?_cons_zero, List.getElem?_cons_succ, Option.some.injEq] at ho
      clear hwt
      subst ho
      simp only [Option.some.injEq] at hd
      subst hd
      have h129 : f 129 = .int .i64 (maskC isPos ns ds xl) := hdep { on := 32, ground := .data } (by simp) rfl 129 rfl
      have h132 : f 132 = .int .i64 (maskC isPos ns ds xl) := hdep { on := 35, ground := .data } (by simp) rfl 132 rfl
      generalize hA : fr _ _ _ f = A at hK ⊢
      have e129 : A.tmps[129]?.getD undef = f 129 := by rw [← hA]; exact fr_in _ _ _ _ 129 (by decide) (by simp)
      have e132 : A.tmps[132]?.getD undef = f 132 := by rw [← hA]; exact fr_in _ _ _ _ 132 (by decide) (by simp)
      clear hA hdep
      rw [h129] at e129
      clear h129
      rw [h132] at e132
      clear h132
      go_simp
      exact hK _ _ trivial hC (by simp)
    · simp only [List.getElem?_toArray, List.getElem?_cons_zero, List.getElem?_cons_succ, Option.some.injEq] at ho
      clear hwt
      subst ho
      simp only [Option.some.injEq] at hd
      subst hd
      have h126 : f 126 = .bool false := hdep { on := 29, ground := .data } (by simp) rfl 126 rfl
      have h133 : f 133 = .bool false := hdep { on := 36, ground := .data } (by simp) rfl 133 rfl
      generalize hA : fr _ _ _ f = A at hK ⊢
      have e126 : A.tmps[126]?.getD undef = f 126 := by rw [← hA]; exact fr_in _ _ _ _ 126 (by decide) (by simp)
      have e133 : A.tmps[133]?.getD undef = f 133 := by rw [← hA]; exact fr_in _ _ _ _ 133 (by decide) (by simp)
      clear hA hdep
      rw [h126] at e126
      clear h126
      rw [h133] at e133
      clear h133
      go_simp
      exact hK _ _ trivial hC (by simp)
    · simp only [List.getElem?_toArray, List.getElem?_cons_zero, List.getElem?_cons_succ, Option.some.injEq] at ho
      clear hwt
      subst ho
      simp only [Option.some.injEq] at hd
      subst hd
      have h134 : f 134 = .bool false := hdep { on := 37, ground := .data } (by simp) rfl 134 rfl
      generalize hA : fr _ _ _ f = A at hK ⊢
      have e134 : A.tmps[134]?.getD undef = f 134 := by rw [← hA]; exact fr_in _ _ _ _ 134 (by decide) (by simp)
      clear hA hdep
      rw [h134] at e134
      clear h134
      go_simp
      exact hK _ _ trivial hC rfl
    · simp only [List.getElem?_toArray, List.getElem?_cons_zero, List.getElem?_cons_succ, Option.some.injEq] at ho
      clear hwt
      subst ho
      simp only [Option.some.injEq] at hd
      subst hd
      generalize hA : fr _ _ _ f = A at hK ⊢
      have e7 : A.tmps[7]?.getD undef = .pointer (some ⟨gr, 0, none⟩) := by rw [← hA]; exact fr_out _ _ _ _ 7 _ (by decide) rfl
      clear hA hdep
      have hcell0 := (hC.fr.cell hgrl hgrb 0).trans z0
      have hcell1 := (hC.fr.cell hgrl hgrb 1).trans z1
      go_simp
      exact hK _ _ trivial hC rfl
    · simp only [List.getElem?_toArray, List.getElem?_cons_zero, List.getElem?_cons_succ, Option.some.injEq] at ho
      clear hwt
      subst ho
      simp only [Option.some.injEq] at hd
      subst hd
      generalize hA : fr _ _ _ f = A at hK ⊢
      have e15 : A.tmps[15]?.getD undef = .slice X xl.length xc := by rw [← hA]; exact fr_out _ _ _ _ 15 _ (by decide) rfl
      clear hA hdep
      go_simp
      exact hK _ _ trivial hC rfl
    · simp only [List.getElem?_toArray, List.getElem?_cons_zero, List.getElem?_cons_succ, Option.some.injEq] at ho
      clear hwt
      subst ho
      simp only [Option.some.injEq] at hd
      subst hd
      have h136 : f 136 = .agg #[.slice R1 rn.length d1, .slice R2 rd.length d2] := hdep { on := 39, ground := .data } (by simp) rfl 136 rfl
      have h137 : f 137 = .slice X xl.length xc := hdep { on := 40, ground := .data } (by simp) rfl 137 rfl
      generalize hA : fr _ _ _ f = A at hK ⊢
      have e136 : A.tmps[136]?.getD undef = f 136 := by rw [← hA]; exact fr_in _ _ _ _ 136 (by decide) (by simp)
      have e137 : A.tmps[137]?.getD undef = f 137 := by rw [← hA]; exact fr_in _ _ _ _ 137 (by decide) (by simp)
      clear hA hdep
      rw [h136] at e136
      clear h136
      rw [h137] at e137
      clear h137
      go_simp
      refine (HCr1.out w1 hC).mono ?_
      rintro e' w2 ⟨rfl, hb2⟩
      exact hK _ _ trivial (hC.below hb2) rfl
    · simp only [List.getElem?_toArray, List.getElem?_cons_zero, List.getElem?_cons_succ, Option.some.injEq] at ho
      clear hwt
      subst ho
      simp only [Option.some.injEq] at hd
      subst hd
      generalize hA : fr _ _ _ f = A at hK ⊢
      have e7 : A.tmps[7]?.getD undef = .pointer (some ⟨gr, 0, none⟩) := by rw [← hA]; exact fr_out _ _ _ _ 7 _ (by decide) rfl
      clear hA hdep
      have hcell0 := (hC.fr.cell hgrl hgrb 0).trans z0
      have hcell1 := (hC.fr.cell hgrl hgrb 1).trans z1
      go_simp
      exact hK _ _ trivial hC rfl
    · simp only [List.getElem?_toArray, List.getElem?_cons_zero, List.getElem?_cons_succ, Option.some.injEq] at ho
      clear hwt
      subst ho
      simp only [Option.some.injEq] at hd
      subst hd
      generalize hA : fr _ _ _ f = A at hK ⊢
      have e15 : A.tmps[15]?.getD undef = .slice X xl.length xc := by rw [← hA]; exact fr_out _ _ _ _ 15 _ (by decide) rfl
      clear hA hdep
      go_simp
      exact hK _ _ trivial hC rfl
    · simp only [List.getElem?_toArray, List.getElem?_cons_zero, List.getElem?_cons_succ, Option.some.injEq] at ho
      clear hwt
      subst ho
      simp only [Option.some.injEq] at hd
      subst hd
      have h139 : f 139 = .agg #[.slice R1 rn.length d1, .slice R2 rd.length d2] := hdep { on := 42, ground := .data } (by simp) rfl 139 rfl
      have h140 : f 140 = .slice X xl.length xc := hdep { on := 43, ground := .data } (by simp) rfl 140 rfl
      generalize hA : fr _ _ _ f = A at hK ⊢
      have e139 : A.tmps[139]?.getD undef = f 139 := by rw [← hA]; exact fr_in _ _ _ _ 139 (by decide) (by simp)
      have e140 : A.tmps[140]?.getD undef = f 140 := by rw [← hA]; exact fr_in _ _ _ _ 140 (by decide) (by simp)
      clear hA hdep
      rw [h139] at e139
      clear h139
      rw [h140] at e140
      clear h140
      go_simp
      refine (HCr2.out w1 hC).mono ?_
      rintro e' w2 ⟨rfl, hb2⟩
      exact hK _ _ trivial (hC.below hb2) rfl
    · simp only [List.getElem?_toArray, List.getElem?_cons_zero, List.getElem?_cons_succ, Option.some.injEq] at ho
      clear hwt
      subst ho
      simp only [Option.some.injEq] at hd
      subst hd
      have h138 : f 138 = .int .i64 (maskC isMask rn rd xl) := hdep { on := 41, ground := .data } (by simp) rfl 138 rfl
      have h141 : f 141 = .int .i64 (maskC isMask rn rd xl) := hdep { on := 44, ground := .data } (by simp) rfl 141 rfl
      generalize hA : fr _ _ _ f = A at hK ⊢
      have e138 : A.tmps[138]?.getD undef = f 138 := by rw [← hA]; exact fr_in _ _ _ _ 138 (by decide) (by simp)
      have e141 : A.tmps[141]?.getD undef = f 141 := by rw [← hA]; exact fr_in _ _ _ _ 141 (by decide) (by simp)
      clear hA hdep
      rw [h138] at e138
      clear h138
      rw [h141] at e141
      clear h141
      go_simp
      exact hK _ _ trivial hC (by simp)
    · simp only [List.getElem?_toArray, List.getElem?_cons_zero, List.getElem?_cons_succ, Option.some.injEq] at ho
      clear hwt
      subst ho
      simp only [Option.some.injEq] at hd
      subst hd
      have h135 : f 135 = .bool false := hdep { on := 38, ground := .data } (by simp) rfl 135 rfl
      have h142 : f 142 = .bool false := hdep { on := 45, ground := .data } (by simp) rfl 142 rfl
      generalize hA : fr _ _ _ f = A at hK ⊢
      have e135 : A.tmps[135]?.getD undef = f 135 := by rw [← hA]; exact fr_in _ _ _ _ 135 (by decide) (by simp)
      have e142 : A.tmps[142]?.getD undef = f 142 := by rw [← hA]; exact fr_in _ _ _ _ 142 (by decide) (by simp)
      clear hA hdep
      rw [h135] at e135
      clear h135
      rw [h142] at e142
      clear h142
      go_simp
      exact hK _ _ trivial hC (by simp)
    · simp only [List.getElem?_toArray, List.getElem?_cons_zero, List.getElem?_cons_succ, Option.some.injEq] at ho
      clear hwt
      subst ho
      simp only [Option.some.injEq] at hd
      subst hd
      have h143 : f 143 = .bool false := hdep { on := 46, ground := .data } (by simp) rfl 143 rfl
      generalize hA : fr _ _ _ f = A at hK ⊢
      have e143 : A.tmps[143]?.getD undef = f 143 := by rw [← hA]; exact fr_in _ _ _ _ 143 (by decide) (by simp)
      clear hA hdep
      rw [h143] at e143
      clear h143
      go_simp
      exact hK _ _ trivial hC rfl
    · simp only [List.getElem?_toArray, List.getElem?_cons_zero, List.getElem?_cons_succ, Option.some.injEq] at ho
      clear hwt
      subst ho
      simp only [Option.some.injEq] at hd
      subst hd
      generalize hA : fr _ _ _ f = A at hK ⊢
      have e7 : A.tmps[7]?.getD undef = .pointer (some ⟨gr, 0, none⟩) := by rw [← hA]; exact fr_out _ _ _ _ 7 _ (by decide) rfl
      clear hA hdep
      have hcell0 := (hC.fr.cell hgrl hgrb 0).trans z0
      have hcell1 := (hC.fr.cell hgrl hgrb 1).trans z1
      go_simp
      exact hK _ _ trivial hC rfl
    · simp only [List.getElem?_toArray, List.getElem?_cons_zero, List.getElem?_cons_succ, Option.some.injEq] at ho
      clear hwt
      subst ho
      simp only [Option.some.injEq] at hd
      subst hd
      generalize hA : fr _ _ _ f = A at hK ⊢
      have e15 : A.tmps[15]?.getD undef = .slice X xl.length xc := by rw [← hA]; exact fr_out _ _ _ _ 15 _ (by decide) rfl
      clear hA hdep
      go_simp
      exact hK _ _ trivial hC rfl
    · simp only [List.getElem?_toArray, List.getElem?_cons_zero, List.getElem?_cons_succ, Option.some.injEq] at ho
      clear hwt
      subst ho
      simp only [Option.some.injEq] at hd
      subst hd
      have h145 : f 145 = .agg #[.slice R1 rn.length d1, .slice R2 rd.length d2] := hdep { on := 48, ground := .data } (by simp) rfl 145 rfl
      have h146 : f 146 = .slice X xl.length xc := hdep { on := 49, ground := .data } (by simp) rfl 146 rfl
      generalize hA : fr _ _ _ f = A at hK ⊢
      have e145 : A.tmps[145]?.getD undef = f 145 := by rw [← hA]; exact fr_in _ _ _ _ 145 (by decide) (by simp)
      have e146 : A.tmps[146]?.getD undef = f 146 := by rw [← hA]; exact fr_in _ _ _ _ 146 (by decide) (by simp)
      clear hA hdep
      rw [h145] at e145
      clear h145
      rw [h146] at e146
      clear h146
      go_simp
      refine (HSr1.out w1 hC).mono ?_
      rintro e' w2 ⟨rfl, hb2⟩
      exact hK _ _ trivial (hC.below hb2) rfl
    · simp only [List.getElem?_toArray, List.getElem?_cons_zero, List.getElem?_cons_succ, Option.some.injEq] at ho
      clear hwt
      subst ho
      simp only [Option.some.injEq] at hd
      subst hd
      generalize hA : fr _ _ _ f = A at hK ⊢
      have e7 : A.tmps[7]?.getD undef = .pointer (some ⟨gr, 0, none⟩) := by rw [← hA]; exact fr_out _ _ _ _ 7 _ (by decide) rfl
      clear hA hdep
      have hcell0 := (hC.fr.cell hgrl hgrb 0).trans z0
      have hcell1 := (hC.fr.cell hgrl hgrb 1).trans z1
      go_simp
      exact hK _ _ trivial hC rfl
    · simp only [List.getElem?_toArray, List.getElem?_cons_zero, List.getElem?_cons_succ, Option.some.injEq] at ho
      clear hwt
      subst ho
      simp only [Option.some.injEq] at hd
      subst hd
      generalize hA : fr _ _ _ f = A at hK ⊢
      have e15 : A.tmps[15]?.getD undef = .slice X xl.length xc := by rw [← hA]; exact fr_out _ _ _ _ 15 _ (by decide) rfl
      clear hA hdep
      go_simp
      exact hK _ _ trivial hC rfl
    · simp only [List.getElem?_toArray, List.getElem?_cons_zero, List.getElem?_cons_succ, Option.some.injEq] at ho
      clear hwt
      subst ho
      simp only [Option.some.injEq] at hd
      subst hd
      have h148 : f 148 = .agg #[.slice R1 rn.length d1, .slice R2 rd.length d2] := hdep { on := 51, ground := .data } (by simp) rfl 148 rfl
      have h149 : f 149 = .slice X xl.length xc := hdep { on := 52, ground := .data } (by simp) rfl 149 rfl
      generalize hA : fr _ _ _ f = A at hK ⊢
      have e148 : A.tmps[148]?.getD undef = f 148 := by rw [← hA]; exact fr_in _ _ _ _ 148 (by decide) (by simp)
      have e149 : A.tmps[149]?.getD undef = f 149 := by rw [← hA]; exact fr_in _ _ _ _ 149 (by decide) (by simp)
      clear hA hdep
      rw [h148] at e148
      clear h148
      rw [h149] at e149
      clear h149
      go_simp
      refine (HSr2.out w1 hC).mono ?_
      rintro e' w2 ⟨rfl, hb2⟩
      exact hK _ _ trivial (hC.below hb2) rfl
    · simp only [List.getElem?_toArray, List.getElem?_cons_zero, List.getElem?_cons_succ, Option.some.injEq] at ho
      clear hwt
      subst ho
      simp only [Option.some.injEq] at hd
      subst hd
      have h147 : f 147 = .int .i64 (maskC isPos rn rd xl) := hdep { on := 50, ground := .data } (by simp) rfl 147 rfl
      have h150 : f 150 = .int .i64 (maskC isPos rn rd xl) := hdep { on := 53, ground := .data } (by simp) rfl 150 rfl
      generalize hA : fr _ _ _ f = A at hK ⊢
      have e147 : A.tmps[147]?.getD undef = f 147 := by rw [← hA]; exact fr_in _ _ _ _ 147 (by decide) (by simp)
      have e150 : A.tmps[150]?.getD undef = f 150 := by rw [← hA]; exact fr_in _ _ _ _ 150 (by decide) (by simp)
      clear hA hdep
      rw [h147] at e147
      clear h147
      rw [h150] at e150
      clear h150
      go_simp
      exact hK _ _ trivial hC (by simp)
    · simp only [List.getElem?_toArray, List.getElem?_cons_zero, List.getElem?_cons_succ, Option.some.injEq] at ho
      clear hwt
      subst ho
      simp only [Option.some.injEq] at hd
      subst hd
      have h144 : f 144 = .bool false := hdep { on := 47, ground := .data } (by simp) rfl 144 rfl
      have h151 : f 151 = .bool false := hdep { on := 54, ground := .data } (by simp) rfl 151 rfl
      generalize hA : fr _ _ _ f = A at hK ⊢
      have e144 : A.tmps[144]?.getD undef = f 144 := by rw [← hA]; exact fr_in _ _ _ _ 144 (by decide) (by simp)
      have e151 : A.tmps[151]?.getD undef = f 151 := by rw [← hA]; exact fr_in _ _ _ _ 151 (by decide) (by simp)
      clear hA hdep
      rw [h144] at e144
      clear h144
      rw [h151] at e151
      clear h151
      go_simp
      exact hK _ _ trivial hC (by simp)
  · intro f w1 hC hall
    have q0 : f 152 = .bool false := hall 55 152 (by decide) rfl
    have Q0 := Lib.hid q0
    clear hall q0
    simp only [fr, upd, List.mapIdx_cons, List.mapIdx_nil]
    simp
    go_wp2_with fail
    go_meet
    case rel => exact ⟨Q0.out, hC⟩
theorem maskAnswers_ok (w : World) (h : TabC w) (ht : Tab w) (A : Option Addr) (c : Nat) (xs : List Int) (hs : SI w (fun _ => True) A xs) (Aa : Option Addr) (ca : Nat) (la : List Int) (hsa : SI w (fun _ => True) Aa la) (Ab : Option Addr) (cb : Nat) (lb : List Int) (hsb : SI w (fun _ => True) Ab lb)
    (R1 R2 : Option Addr) (d1 d2 : Nat) (rn : List Node) (rd : List Dev) (hr : NetIn w (fun _ => True) R1 R2 rn rd) (hr1 : rn.length ≤ maxLen) (hr2 : rd.length ≤ maxLen) (hf : xs.length ≤ 400) (h100 : la.length ≤ 12) (h200 : lb.length ≤ 12) (hli : lightB rn rd = true) :
    Calls Tryd.prog 4 #[.slice A xs.length c, .slice Aa la.length ca, .slice Ab lb.length cb, .agg #[.slice R1 rn.length d1, .slice R2 rd.length d2]] w (RetTrue w) :=
  (maskRed w h ht A c xs hs Aa ca la hsa Ab cb lb hsb R1 R2 d1 d2 rn rd hr hr1 hr2 hf h100 h200 hli).2 (Lib.hid (maskRed_ok w h ht A c xs hs Aa ca la hsa Ab cb lb hsb R1 R2 d1 d2 rn rd hr hr1 hr2 hf h100 h200 hli))
end Go.Proofs.YtgpcojmdfmngeaaDoor

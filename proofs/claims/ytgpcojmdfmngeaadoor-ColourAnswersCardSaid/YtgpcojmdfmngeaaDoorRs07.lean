/-
  The walk of the reference's Shades.
-/
import Derived.Test.YtgpcojmdfmngeaaDoorRf07
import Derived.Test.YtgpcojmdfmngeaaDoorRo06
namespace Go.Proofs.YtgpcojmdfmngeaaDoor
open Go.RowKit
set_option maxHeartbeats 400000
set_option maxRecDepth 100000

theorem shdV_one (x : Shd) : ∀ u ∈ shdV x, u.oneCell' = true := by
  intro u hu
  simp [shdV] at hu
  rcases hu with rfl | rfl | rfl | rfl <;> rfl
theorem lowL_pos {pos : Int} (hp : isPos pos = true) {xs : List Int} (h : xs.all isMask = true) : (lowL pos xs).all isPos = true := by
  rw [List.all_eq_true]
  intro x hx
  obtain ⟨k, hk, rfl⟩ := List.getElem_of_mem hx
  have hk' : k < xs.length := by rw [lowL_len] at hk; exact hk
  rw [lowL_get pos xs k hk']
  have := List.all_eq_true.1 h xs[k] (List.getElem_mem hk')
  unfold isMask at this
  split
  · exact hp
  · rename_i h3
    unfold isPos
    simp at this ⊢
    omega
theorem maskC_low {pos : Int} (hp : isPos pos = true) {ns : List Node} {ds : List Dev} {ms : List Int} (h : maskC isMask ns ds ms = 0) : maskC isPos ns ds (lowL pos ms) = 0 := by
  obtain ⟨z1, z2, z3⟩ := maskC_zero h
  unfold maskC
  rw [if_neg (by omega), if_neg (by rw [lowL_len]; omega), if_pos (lowL_pos hp z3)]
theorem coloursE_low {pos : Int} (hp : isPos pos = true) {ns : List Node} {ds : List Dev} {ms : List Int} (h : maskC isMask ns ds ms = 0) : coloursE ns ds (lowL pos ms) = (colL ds (lowL pos ms) (partsL ns.length ds (lowL pos ms)), 0) := by
  unfold coloursE
  rw [if_neg (by rw [maskC_low hp h]; decide)]
theorem shadeL_take (ca cb : List Int) (k : Nat) (h1 : k < ca.length) (h2 : k < cb.length) :
    (shadeL ca cb).take (k + 1) = (shadeL ca cb).take k ++ [⟨bits BinOp.and IntKind.i64 ca[k] 1 != 0, bits BinOp.and IntKind.i64 cb[k] 1 != 0, bits BinOp.and IntKind.i64 ca[k] 2 != 0, bits BinOp.and IntKind.i64 cb[k] 2 != 0⟩] := by
  have hk : k < (shadeL ca cb).length := by simp [shadeL]; omega
  rw [List.take_succ_eq_append_getElem hk]
  simp [shadeL, liveOf, earthOf]

set_option maxHeartbeats 8000000 in
theorem refShades_any (w : World) (S : Nat → Prop) (A1 A2 : Option Addr) (c1 c2 : Nat) (ns : List Node) (ds : List Dev) (hn : NetIn w S A1 A2 ns ds) (hl1 : ns.length ≤ 65536) (hl2 : ds.length ≤ 65536)
    (U : Option Addr) (cu : Nat) (ms : List Int) (hs : SI w S U ms) (hsl : ms.length ≤ 65536) :
    Calls Tryd.prog 70 #[.agg #[.slice A1 ns.length c1, .slice A2 ds.length c2], .slice U ms.length cu] w
      fun e w' => ∃ A c, e = .returned (.tuple #[.slice A (shadesE ns ds ms).1.length c, .int .i64 (shadesE ns ds ms).2]) ∧ OS w' (fun g => w.heap.size ≤ g) A c (shadesE ns ds ms).1 ∧ Below w.heap.size w w' := by
  have hb := (Below.refl w.heap.size w).alloc (Nat.le_refl _) (.cells #[.slice A1 ns.length c1, .slice A2 ds.length c2] 26)
  have HC := Lib.hid (refCheck6_any _ S A1 A2 c1 c2 ns ds (hn.below hb) hl1 hl2 U cu ms (hs.keep (Kept.of_below hb)) hsl)
  have HK1 := Lib.hid (@coloursE_low 1 (by decide) ns ds ms)
  have HK2 := Lib.hid (@coloursE_low 2 (by decide) ns ds ms)
  have HE := Lib.hid (show shadesE ns ds ms = if maskC isMask ns ds ms ≠ 0 then ([], maskC isMask ns ds ms) else (shadeL (colL ds (lowL 2 ms) (partsL ns.length ds (lowL 2 ms))) (colL ds (lowL 1 ms) (partsL ns.length ds (lowL 1 ms))), 0) from rfl)
  generalize maskC isMask ns ds ms = ce at *
  by_cases h0 : (ce != 0) = true
  · have H0 := Lib.hid (show ¬ ce = 0 by simpa using h0)
    go_enter Tryd.func70, Tryd.ntmps70
    go_wp2_with (fail)
    refine (HC.out).mono ?_
    rintro e w1 ⟨rfl, hb1⟩
    go_wp2_with (fail)
    go_ret2
    rw [HE.out, if_pos H0.out]
    exact ⟨none, 0, rfl, OV.nil _ _ _ _, hb.trans (hb1.mono hb.size)⟩
  · have h0' : (ce != 0) = false := by simpa using h0
    have hz : ce = 0 := by simpa using h0
    rw [if_neg (by simpa using hz)] at HE
    have K1 := HK1.out hz
    have K2 := HK2.out hz
    clear h0 hz HK1 HK2
    have la : (colL ds (lowL 2 ms) (partsL ns.length ds (lowL 2 ms))).length = ns.length := by rw [colL_len, partsL_len]
    have lb : (colL ds (lowL 1 ms) (partsL ns.length ds (lowL 1 ms))).length = ns.length := by rw [colL_len, partsL_len]
    generalize colL ds (lowL 2 ms) (partsL ns.length ds (lowL 2 ms)) = ca at *
    generalize colL ds (lowL 1 ms) (partsL ns.length ds (lowL 1 ms)) = cb at *
    have HRa : Hid (∀ (W : World) (A : Option Addr) (c : Nat), NetIn W (fun _ => True) A1 A2 ns ds → SI W (fun _ => True) A (lowL 2 ms) → Calls Tryd.prog 68 #[.agg #[.slice A1 ns.length c1, .slice A2 ds.length c2], .slice A (lowL 2 ms).length c] W fun e w' => ∃ A c, e = .returned (.tuple #[.slice A ca.length c, .int .i64 0]) ∧ OI w' (fun g => W.heap.size ≤ g) A c ca ∧ Below W.heap.size W w') := Lib.hid (fun W A c hN hS => by
      have := refColours_any W _ A1 A2 c1 c2 ns ds hN hl1 hl2 A c (lowL 2 ms) hS (by rw [lowL_len]; exact hsl)
      rw [K2] at this
      exact this)
    have HRb : Hid (∀ (W : World) (A : Option Addr) (c : Nat), NetIn W (fun _ => True) A1 A2 ns ds → SI W (fun _ => True) A (lowL 1 ms) → Calls Tryd.prog 68 #[.agg #[.slice A1 ns.length c1, .slice A2 ds.length c2], .slice A (lowL 1 ms).length c] W fun e w' => ∃ A c, e = .returned (.tuple #[.slice A cb.length c, .int .i64 0]) ∧ OI w' (fun g => W.heap.size ≤ g) A c cb ∧ Below W.heap.size W w') := Lib.hid (fun W A c hN hS => by
      have := refColours_any W _ A1 A2 c1 c2 ns ds hN hl1 hl2 A c (lowL 1 ms) hS (by rw [lowL_len]; exact hsl)
      rw [K1] at this
      exact this)
    clear K1 K2
    have Hzl := Lib.hid (show (shadeL ca cb).length = ns.length by simp [shadeL, la, lb])
    have Hst := Lib.hid (shadeL_take ca cb)
    have La := Lib.hid la
    have Lb := Lib.hid lb
    clear la lb
    generalize shadeL ca cb = Z at *
    go_enter Tryd.func70, Tryd.ntmps70
    go_wp2_with (fail)
    refine (HC.out).mono ?_
    rintro e w1 ⟨rfl, hb1⟩
    have hbA := hb.trans (hb1.mono hb.size)
    have Hbox := Lib.hid (box_at hb1)
    have n0 : w1.cell? ⟨w.heap.size, 0, none⟩ = some (.slice A1 ns.length c1) := by rw [cell_of_row w1 _ 0 _ _ _ Hbox.out]; rfl
    have n1 : w1.cell? ⟨w.heap.size, 1, none⟩ = some (.slice A2 ds.length c2) := by rw [cell_of_row w1 _ 1 _ _ _ Hbox.out]; rfl
    have hn1 := (hn.below hbA).mono (T := fun _ => True) (fun _ _ _ => trivial)
    have hs1 := (hs.keep (Kept.of_below hbA)).mono (T := fun _ => True) (fun _ _ _ => trivial)
    clear Hbox hb1 hb HC hn hs
    go_upto_region 4 with (fail)
    go_cut [7] (fun v7 wx => ∃ A c, v7 = .slice A cb.length c ∧ SI wx (fun _ => True) A cb ∧ Below w1.heap.size w1 wx)
    case first =>
      refine wp_region_ext1 (by kernel_rfl) 9 [20, 21, 22, 23, 19, 24, 25, 7, 8] (fun w' => Below w1.heap.size w1 w') (fun a b => Below a.heap.size a b) (fun d vv w' => if d = 20 then vv = .agg #[.slice A1 ns.length c1, .slice A2 ds.length c2] else if d = 21 then vv = .slice U ms.length cu else if d = 25 then vv = .int .i64 0 else if d = 8 then vv = .int .i64 0 else if d = 22 then ∃ A' c', vv = .slice A' (lowL 1 ms).length c' ∧ SI w' (fun _ => True) A' (lowL 1 ms) else if d = 23 then ∃ A' c', vv = .tuple #[.slice A' cb.length c', .int .i64 0] ∧ SI w' (fun _ => True) A' cb else if d = 19 then ∃ A' c', vv = .tuple #[.slice A' cb.length c', .int .i64 0] ∧ SI w' (fun _ => True) A' cb else if d = 24 then ∃ A' c', vv = .slice A' cb.length c' ∧ SI w' (fun _ => True) A' cb else if d = 7 then ∃ A' c', vv = .slice A' cb.length c' ∧ SI w' (fun _ => True) A' cb else False) (by kernel_rfl) ((Below.refl _ _).drew) (fun d v w1 w2 _ hE hT => by
          by_cases h22 : d = 22
          · subst h22; obtain ⟨A', c', a1, a2⟩ := hT; exact ⟨A', c', a1, a2.keep (Kept.of_below hE)⟩
          by_cases h23 : d = 23
          · subst h23; obtain ⟨A', c', a1, a2⟩ := hT; exact ⟨A', c', a1, a2.keep (Kept.of_below hE)⟩
          by_cases h19 : d = 19
          · subst h19; obtain ⟨A', c', a1, a2⟩ := hT; exact ⟨A', c', a1, a2.keep (Kept.of_below hE)⟩
          by_cases h24 : d = 24
          · subst h24; obtain ⟨A', c', a1, a2⟩ := hT; exact ⟨A', c', a1, a2.keep (Kept.of_below hE)⟩
          by_cases h7 : d = 7
          · subst h7; obtain ⟨A', c', a1, a2⟩ := hT; exact ⟨A', c', a1, a2.keep (Kept.of_below hE)⟩
          simp only [if_neg h22, if_neg h23, if_neg h19, if_neg h24, if_neg h7] at hT ⊢
          exact hT) ?_ ?_
      · intro i o d hi ho hd f w1 hC hdep K hK
        have hi' : i = 0 ∨ i = 1 ∨ i = 2 ∨ i = 3 ∨ i = 4 ∨ i = 5 ∨ i = 6 ∨ i = 7 ∨ i = 8 := by omega
        rcases hi' with rfl | rfl | rfl | rfl | rfl | rfl | rfl | rfl | rfl
        · simp only [List.getElem?_toArray, List.getElem?_cons_zero, Option.some.injEq] at ho
          subst ho
          simp only [Option.some.injEq] at hd
          subst hd
          generalize hA : fr _ _ _ f = A at hK ⊢
          have e2 : A.tmps[2]?.getD undef = .pointer (some ⟨w.heap.size, 0, none⟩) := by rw [← hA]; exact fr_out _ _ _ _ 2 _ (by decide) rfl
          clear hA hdep
          have hcell0 := (hC.cell (p := ⟨w.heap.size, 0, none⟩) (World.block_lt_of_cell? _ _ n0)).trans n0
          have hcell1 := (hC.cell (p := ⟨w.heap.size, 1, none⟩) (World.block_lt_of_cell? _ _ n1)).trans n1
          go_simp
          exact hK _ _ (Below.refl _ _) hC rfl
        · simp only [List.getElem?_toArray, List.getElem?_cons_zero, List.getElem?_cons_succ, Option.some.injEq] at ho
          subst ho
          simp only [Option.some.injEq] at hd
          subst hd
          generalize hA : fr _ _ _ f = A at hK ⊢
          have e1 : A.tmps[1]?.getD undef = .slice U ms.length cu := by rw [← hA]; exact fr_out _ _ _ _ 1 _ (by decide) rfl
          clear hA hdep
          go_simp
          exact hK _ _ (Below.refl _ _) hC rfl
        · simp only [List.getElem?_toArray, List.getElem?_cons_zero, List.getElem?_cons_succ, Option.some.injEq] at ho
          subst ho
          simp only [Option.some.injEq] at hd
          subst hd
          have h21 : f 21 = .slice U ms.length cu := hdep { on := 1, ground := .data } (by simp) rfl 21 rfl
          generalize hA : fr _ _ _ f = A at hK ⊢
          have e21 : A.tmps[21]?.getD undef = f 21 := by rw [← hA]; exact fr_in _ _ _ _ 21 (by decide) (by simp)
          clear hA hdep
          rw [h21] at e21
          clear h21
          go_simp
          refine (refLowest_any w1 _ U cu ms (hs1.keep (Kept.of_below hC)) (by omega)).mono ?_
          rintro e' w2 ⟨A5, c5, rfl, ho5, hb2⟩
          exact hK _ _ hb2 (hC.trans (hb2.mono hC.size)) ⟨A5, c5, rfl, (OI.si ho5).mono (fun _ _ _ => trivial)⟩
        · simp only [List.getElem?_toArray, List.getElem?_cons_zero, List.getElem?_cons_succ, Option.some.injEq] at ho
          subst ho
          simp only [Option.some.injEq] at hd
          subst hd
          have h20 : f 20 = .agg #[.slice A1 ns.length c1, .slice A2 ds.length c2] := hdep { on := 0, ground := .data } (by simp) rfl 20 rfl
          have h22 : ∃ A' c', f 22 = .slice A' (lowL 1 ms).length c' ∧ SI w1 (fun _ => True) A' (lowL 1 ms) := hdep { on := 2, ground := .data } (by simp) rfl 22 rfl
          generalize hA : fr _ _ _ f = A at hK ⊢
          have e20 : A.tmps[20]?.getD undef = f 20 := by rw [← hA]; exact fr_in _ _ _ _ 20 (by decide) (by simp)
          have e22 : A.tmps[22]?.getD undef = f 22 := by rw [← hA]; exact fr_in _ _ _ _ 22 (by decide) (by simp)
          clear hA hdep
          rw [h20] at e20
          clear h20
          obtain ⟨Ak, ck, h22, l1⟩ := h22
          rw [h22] at e22
          have Hf22 := Lib.hid h22
          clear h22
          go_simp
          refine (HRb.out w1 Ak ck (hn1.below hC) l1).mono ?_
          rintro e' w2 ⟨A5, c5, rfl, o5, hb2⟩
          exact hK _ _ hb2 (hC.trans (hb2.mono hC.size)) ⟨A5, c5, rfl, o5.si.mono (fun _ _ _ => trivial)⟩
        · simp only [List.getElem?_toArray, List.getElem?_cons_zero, List.getElem?_cons_succ, Option.some.injEq] at ho
          subst ho
          simp only [Option.some.injEq] at hd
          subst hd
          have h23 : ∃ A' c', f 23 = .tuple #[.slice A' cb.length c', .int .i64 0] ∧ SI w1 (fun _ => True) A' cb := hdep { on := 3, ground := .data } (by simp) rfl 23 rfl
          generalize hA : fr _ _ _ f = A at hK ⊢
          have e23 : A.tmps[23]?.getD undef = f 23 := by rw [← hA]; exact fr_in _ _ _ _ 23 (by decide) (by simp)
          clear hA hdep
          obtain ⟨Ak, ck, h23, l1⟩ := h23
          rw [h23] at e23
          have Hf23 := Lib.hid h23
          clear h23
          go_simp
          exact hK _ _ (Below.refl _ _) hC ⟨Ak, ck, rfl, l1⟩
        · simp only [List.getElem?_toArray, List.getElem?_cons_zero, List.getElem?_cons_succ, Option.some.injEq] at ho
          subst ho
          simp only [Option.some.injEq] at hd
          subst hd
          have h19 : ∃ A' c', f 19 = .tuple #[.slice A' cb.length c', .int .i64 0] ∧ SI w1 (fun _ => True) A' cb := hdep { on := 4, ground := .data } (by simp) rfl 19 rfl
          generalize hA : fr _ _ _ f = A at hK ⊢
          have e19 : A.tmps[19]?.getD undef = f 19 := by rw [← hA]; exact fr_in _ _ _ _ 19 (by decide) (by simp)
          clear hA hdep
          obtain ⟨Ak, ck, h19, l1⟩ := h19
          rw [h19] at e19
          have Hf19 := Lib.hid h19
          clear h19
          go_simp
          exact hK _ _ (Below.refl _ _) hC ⟨Ak, ck, rfl, l1⟩
        · simp only [List.getElem?_toArray, List.getElem?_cons_zero, List.getElem?_cons_succ, Option.some.injEq] at ho
          subst ho
          simp only [Option.some.injEq] at hd
          subst hd
          have h19 : ∃ A' c', f 19 = .tuple #[.slice A' cb.length c', .int .i64 0] ∧ SI w1 (fun _ => True) A' cb := hdep { on := 4, ground := .data } (by simp) rfl 19 rfl
          generalize hA : fr _ _ _ f = A at hK ⊢
          have e19 : A.tmps[19]?.getD undef = f 19 := by rw [← hA]; exact fr_in _ _ _ _ 19 (by decide) (by simp)
          clear hA hdep
          obtain ⟨Ak, ck, h19, l1⟩ := h19
          rw [h19] at e19
          have Hf19 := Lib.hid h19
          clear h19
          go_simp
          exact hK _ _ (Below.refl _ _) hC rfl
        · simp only [List.getElem?_toArray, List.getElem?_cons_zero, List.getElem?_cons_succ, Option.some.injEq] at ho
          subst ho
          simp only [Option.some.injEq] at hd
          subst hd
          have h24 : ∃ A' c', f 24 = .slice A' cb.length c' ∧ SI w1 (fun _ => True) A' cb := hdep { on := 5, ground := .data } (by simp) rfl 24 rfl
          generalize hA : fr _ _ _ f = A at hK ⊢
          have e24 : A.tmps[24]?.getD undef = f 24 := by rw [← hA]; exact fr_in _ _ _ _ 24 (by decide) (by simp)
          clear hA hdep
          obtain ⟨Ak, ck, h24, l1⟩ := h24
          rw [h24] at e24
          have Hf24 := Lib.hid h24
          clear h24
          go_simp
          exact hK _ _ (Below.refl _ _) hC ⟨Ak, ck, rfl, l1⟩
        · simp only [List.getElem?_toArray, List.getElem?_cons_zero, List.getElem?_cons_succ, Option.some.injEq] at ho
          subst ho
          simp only [Option.some.injEq] at hd
          subst hd
          have h25 : f 25 = .int .i64 0 := hdep { on := 6, ground := .data } (by simp) rfl 25 rfl
          generalize hA : fr _ _ _ f = A at hK ⊢
          have e25 : A.tmps[25]?.getD undef = f 25 := by rw [← hA]; exact fr_in _ _ _ _ 25 (by decide) (by simp)
          clear hA hdep
          rw [h25] at e25
          clear h25
          go_simp
          exact hK _ _ (Below.refl _ _) hC rfl
      · intro f w1 hC hall
        have q0 : ∃ A' c', f 7 = .slice A' cb.length c' ∧ SI w1 (fun _ => True) A' cb := hall 7 7 (by decide) rfl
        have H0 := Lib.hid q0
        clear hall q0
        simp only [fr, upd, List.mapIdx_cons, List.mapIdx_nil]
        simp
        go_wp2_with fail
        go_meet
        case rel =>
          obtain ⟨g2, k2, a1, a2⟩ := H0.out
          exact ⟨g2, k2, a1, a2, hC⟩
    case rest =>
      obtain ⟨w5, rfl⟩ : ∃ W0, W0 = wc := ⟨_, rfl⟩
      obtain ⟨Ab, kb, rfl, sB, hb5⟩ := hcut
      have n0 := (hb5.cell (p := ⟨w.heap.size, 0, none⟩) (World.block_lt_of_cell? _ _ n0)).trans n0
      have n1 := (hb5.cell (p := ⟨w.heap.size, 1, none⟩) (World.block_lt_of_cell? _ _ n1)).trans n1
      have hn1 := hn1.below hb5
      have hs1 := hs1.keep (Kept.of_below hb5)
      go_upto_region 5 with (fail)
      go_cut [9] (fun v9 wx => ∃ A c, v9 = .slice A ca.length c ∧ SI wx (fun _ => True) A ca ∧ Below w5.heap.size w5 wx)
      case first =>
        refine wp_region_ext1 (by kernel_rfl) 9 [27, 28, 29, 30, 26, 31, 32, 9, 10] (fun w' => Below w5.heap.size w5 w') (fun a b => Below a.heap.size a b) (fun d vv w' => if d = 27 then vv = .agg #[.slice A1 ns.length c1, .slice A2 ds.length c2] else if d = 28 then vv = .slice U ms.length cu else if d = 32 then vv = .int .i64 0 else if d = 10 then vv = .int .i64 0 else if d = 29 then ∃ A' c', vv = .slice A' (lowL 2 ms).length c' ∧ SI w' (fun _ => True) A' (lowL 2 ms) else if d = 30 then ∃ A' c', vv = .tuple #[.slice A' ca.length c', .int .i64 0] ∧ SI w' (fun _ => True) A' ca else if d = 26 then ∃ A' c', vv = .tuple #[.slice A' ca.length c', .int .i64 0] ∧ SI w' (fun _ => True) A' ca else if d = 31 then ∃ A' c', vv = .slice A' ca.length c' ∧ SI w' (fun _ => True) A' ca else if d = 9 then ∃ A' c', vv = .slice A' ca.length c' ∧ SI w' (fun _ => True) A' ca else False) (by kernel_rfl) ((Below.refl _ _).drew) (fun d v w1 w2 _ hE hT => by
            by_cases h29 : d = 29
            · subst h29; obtain ⟨A', c', a1, a2⟩ := hT; exact ⟨A', c', a1, a2.keep (Kept.of_below hE)⟩
            by_cases h30 : d = 30
            · subst h30; obtain ⟨A', c', a1, a2⟩ := hT; exact ⟨A', c', a1, a2.keep (Kept.of_below hE)⟩
            by_cases h26 : d = 26
            · subst h26; obtain ⟨A', c', a1, a2⟩ := hT; exact ⟨A', c', a1, a2.keep (Kept.of_below hE)⟩
            by_cases h31 : d = 31
            · subst h31; obtain ⟨A', c', a1, a2⟩ := hT; exact ⟨A', c', a1, a2.keep (Kept.of_below hE)⟩
            by_cases h9 : d = 9
            · subst h9; obtain ⟨A', c', a1, a2⟩ := hT; exact ⟨A', c', a1, a2.keep (Kept.of_below hE)⟩
            simp only [if_neg h29, if_neg h30, if_neg h26, if_neg h31, if_neg h9] at hT ⊢
            exact hT) ?_ ?_
        · intro i o d hi ho hd f w1 hC hdep K hK
          have hi' : i = 0 ∨ i = 1 ∨ i = 2 ∨ i = 3 ∨ i = 4 ∨ i = 5 ∨ i = 6 ∨ i = 7 ∨ i = 8 := by omega
          rcases hi' with rfl | rfl | rfl | rfl | rfl | rfl | rfl | rfl | rfl
          · simp only [List.getElem?_toArray, List.getElem?_cons_zero, Option.some.injEq] at ho
            subst ho
            simp only [Option.some.injEq] at hd
            subst hd
            generalize hA : fr _ _ _ f = A at hK ⊢
            have e2 : A.tmps[2]?.getD undef = .pointer (some ⟨w.heap.size, 0, none⟩) := by rw [← hA]; exact fr_out _ _ _ _ 2 _ (by decide) rfl
            clear hA hdep
            have hcell0 := (hC.cell (p := ⟨w.heap.size, 0, none⟩) (World.block_lt_of_cell? _ _ n0)).trans n0
            have hcell1 := (hC.cell (p := ⟨w.heap.size, 1, none⟩) (World.block_lt_of_cell? _ _ n1)).trans n1
            go_simp
            exact hK _ _ (Below.refl _ _) hC rfl
          · simp only [List.getElem?_toArray, List.getElem?_cons_zero, List.getElem?_cons_succ, Option.some.injEq] at ho
            subst ho
            simp only [Option.some.injEq] at hd
            subst hd
            generalize hA : fr _ _ _ f = A at hK ⊢
            have e1 : A.tmps[1]?.getD undef = .slice U ms.length cu := by rw [← hA]; exact fr_out _ _ _ _ 1 _ (by decide) rfl
            clear hA hdep
            go_simp
            exact hK _ _ (Below.refl _ _) hC rfl
          · simp only [List.getElem?_toArray, List.getElem?_cons_zero, List.getElem?_cons_succ, Option.some.injEq] at ho
            subst ho
            simp only [Option.some.injEq] at hd
            subst hd
            have h28 : f 28 = .slice U ms.length cu := hdep { on := 1, ground := .data } (by simp) rfl 28 rfl
            generalize hA : fr _ _ _ f = A at hK ⊢
            have e28 : A.tmps[28]?.getD undef = f 28 := by rw [← hA]; exact fr_in _ _ _ _ 28 (by decide) (by simp)
            clear hA hdep
            rw [h28] at e28
            clear h28
            go_simp
            refine (refHighest_any w1 _ U cu ms (hs1.keep (Kept.of_below hC)) (by omega)).mono ?_
            rintro e' w2 ⟨A5, c5, rfl, ho5, hb2⟩
            exact hK _ _ hb2 (hC.trans (hb2.mono hC.size)) ⟨A5, c5, rfl, (OI.si ho5).mono (fun _ _ _ => trivial)⟩
          · simp only [List.getElem?_toArray, List.getElem?_cons_zero, List.getElem?_cons_succ, Option.some.injEq] at ho
            subst ho
            simp only [Option.some.injEq] at hd
            subst hd
            have h27 : f 27 = .agg #[.slice A1 ns.length c1, .slice A2 ds.length c2] := hdep { on := 0, ground := .data } (by simp) rfl 27 rfl
            have h29 : ∃ A' c', f 29 = .slice A' (lowL 2 ms).length c' ∧ SI w1 (fun _ => True) A' (lowL 2 ms) := hdep { on := 2, ground := .data } (by simp) rfl 29 rfl
            generalize hA : fr _ _ _ f = A at hK ⊢
            have e27 : A.tmps[27]?.getD undef = f 27 := by rw [← hA]; exact fr_in _ _ _ _ 27 (by decide) (by simp)
            have e29 : A.tmps[29]?.getD undef = f 29 := by rw [← hA]; exact fr_in _ _ _ _ 29 (by decide) (by simp)
            clear hA hdep
            rw [h27] at e27
            clear h27
            obtain ⟨Ak, ck, h29, l1⟩ := h29
            rw [h29] at e29
            have Hf29 := Lib.hid h29
            clear h29
            go_simp
            refine (HRa.out w1 Ak ck (hn1.below hC) l1).mono ?_
            rintro e' w2 ⟨A5, c5, rfl, o5, hb2⟩
            exact hK _ _ hb2 (hC.trans (hb2.mono hC.size)) ⟨A5, c5, rfl, o5.si.mono (fun _ _ _ => trivial)⟩
          · simp only [List.getElem?_toArray, List.getElem?_cons_zero, List.getElem?_cons_succ, Option.some.injEq] at ho
            subst ho
            simp only [Option.some.injEq] at hd
            subst hd
            have h30 : ∃ A' c', f 30 = .tuple #[.slice A' ca.length c', .int .i64 0] ∧ SI w1 (fun _ => True) A' ca := hdep { on := 3, ground := .data } (by simp) rfl 30 rfl
            generalize hA : fr _ _ _ f = A at hK ⊢
            have e30 : A.tmps[30]?.getD undef = f 30 := by rw [← hA]; exact fr_in _ _ _ _ 30 (by decide) (by simp)
            clear hA hdep
            obtain ⟨Ak, ck, h30, l1⟩ := h30
            rw [h30] at e30
            have Hf30 := Lib.hid h30
            clear h30
            go_simp
            exact hK _ _ (Below.refl _ _) hC ⟨Ak, ck, rfl, l1⟩
          · simp only [List.getElem?_toArray, List.getElem?_cons_zero, List.getElem?_cons_succ, Option.some.injEq] at ho
            subst ho
            simp only [Option.some.injEq] at hd
            subst hd
            have h26 : ∃ A' c', f 26 = .tuple #[.slice A' ca.length c', .int .i64 0] ∧ SI w1 (fun _ => True) A' ca := hdep { on := 4, ground := .data } (by simp) rfl 26 rfl
            generalize hA : fr _ _ _ f = A at hK ⊢
            have e26 : A.tmps[26]?.getD undef = f 26 := by rw [← hA]; exact fr_in _ _ _ _ 26 (by decide) (by simp)
            clear hA hdep
            obtain ⟨Ak, ck, h26, l1⟩ := h26
            rw [h26] at e26
            have Hf26 := Lib.hid h26
            clear h26
            go_simp
            exact hK _ _ (Below.refl _ _) hC ⟨Ak, ck, rfl, l1⟩
          · simp only [List.getElem?_toArray, List.getElem?_cons_zero, List.getElem?_cons_succ, Option.some.injEq] at ho
            subst ho
            simp only [Option.some.injEq] at hd
            subst hd
            have h26 : ∃ A' c', f 26 = .tuple #[.slice A' ca.length c', .int .i64 0] ∧ SI w1 (fun _ => True) A' ca := hdep { on := 4, ground := .data } (by simp) rfl 26 rfl
            generalize hA : fr _ _ _ f = A at hK ⊢
            have e26 : A.tmps[26]?.getD undef = f 26 := by rw [← hA]; exact fr_in _ _ _ _ 26 (by decide) (by simp)
            clear hA hdep
            obtain ⟨Ak, ck, h26, l1⟩ := h26
            rw [h26] at e26
            have Hf26 := Lib.hid h26
            clear h26
            go_simp
            exact hK _ _ (Below.refl _ _) hC rfl
          · simp only [List.getElem?_toArray, List.getElem?_cons_zero, List.getElem?_cons_succ, Option.some.injEq] at ho
            subst ho
            simp only [Option.some.injEq] at hd
            subst hd
            have h31 : ∃ A' c', f 31 = .slice A' ca.length c' ∧ SI w1 (fun _ => True) A' ca := hdep { on := 5, ground := .data } (by simp) rfl 31 rfl
            generalize hA : fr _ _ _ f = A at hK ⊢
            have e31 : A.tmps[31]?.getD undef = f 31 := by rw [← hA]; exact fr_in _ _ _ _ 31 (by decide) (by simp)
            clear hA hdep
            obtain ⟨Ak, ck, h31, l1⟩ := h31
            rw [h31] at e31
            have Hf31 := Lib.hid h31
            clear h31
            go_simp
            exact hK _ _ (Below.refl _ _) hC ⟨Ak, ck, rfl, l1⟩
          · simp only [List.getElem?_toArray, List.getElem?_cons_zero, List.getElem?_cons_succ, Option.some.injEq] at ho
            subst ho
            simp only [Option.some.injEq] at hd
            subst hd
            have h32 : f 32 = .int .i64 0 := hdep { on := 6, ground := .data } (by simp) rfl 32 rfl
            generalize hA : fr _ _ _ f = A at hK ⊢
            have e32 : A.tmps[32]?.getD undef = f 32 := by rw [← hA]; exact fr_in _ _ _ _ 32 (by decide) (by simp)
            clear hA hdep
            rw [h32] at e32
            clear h32
            go_simp
            exact hK _ _ (Below.refl _ _) hC rfl
        · intro f w1 hC hall
          have q0 : ∃ A' c', f 9 = .slice A' ca.length c' ∧ SI w1 (fun _ => True) A' ca := hall 7 9 (by decide) rfl
          have H0 := Lib.hid q0
          clear hall q0
          simp only [fr, upd, List.mapIdx_cons, List.mapIdx_nil]
          simp
          go_wp2_with fail
          go_meet
          case rel =>
            obtain ⟨g2, k2, a1, a2⟩ := H0.out
            exact ⟨g2, k2, a1, a2, hC⟩
      case rest =>
        obtain ⟨w6, rfl⟩ : ∃ W0, W0 = wc := ⟨_, rfl⟩
        obtain ⟨Aa, ka, rfl, sA, hb6⟩ := hcut
        have sB := sB.keep (Kept.of_below hb6)
        have m0 := (hb6.cell (p := ⟨w.heap.size, 0, none⟩) (World.block_lt_of_cell? _ _ n0)).trans n0
        have hb16 := hbA.trans ((hb5.trans (hb6.mono hb5.size)).mono hbA.size)
        have hbx := World.block_lt_of_cell? _ _ m0
        clear n0 n1 hn1 hs1 hb5 hb6 hbA HRa HRb
        go_wp2_with (fail)
        go_loopg [11, 12] ns.length (fun g v i wr => ∃ (k : Nat) (A' : Option Addr) (c' : Nat), k + g = ns.length ∧ i = .int .i64 k ∧ v = .slice A' (Z.take k).length c' ∧ OS wr (fun g => w6.heap.size ≤ g) A' c' (Z.take k) ∧ Below w6.heap.size w6 wr)
        case atStart => exact ⟨0, none, 0, by omega, rfl, rfl, OV.nil _ _ _ _, Below.refl _ _⟩
        case round =>
          obtain ⟨k, A', c', hk, rfl, rfl, hown, hbel⟩ := hrel
          have Hk := Lib.hid hk
          have htl : (Z.take k).length ≤ k := by simp; omega
          clear hk
          have m1 := (hbel.cell (p := ⟨w.heap.size, 0, none⟩) hbx).trans m0
          by_cases hlt : k < ns.length
          · have hka : k < ca.length := by rw [La.out]; exact hlt
            have hkb : k < cb.length := by rw [Lb.out]; exact hlt
            obtain ⟨b1, f1, rfl, _, hl1a, q1⟩ := sA.at_ hka
            obtain ⟨b2, f2, rfl, _, hl2a, q2⟩ := sB.at_ hkb
            have Hs2 := Lib.hid (Hst.out k hka hkb)
            have HAl := Lib.hid (fun g hg => (OV.block hown g hg).2)
            generalize ca[k] = x at *
            generalize cb[k] = y at *
            generalize Z.take k = Z0 at *
            go_upto_region 10 with (fail)
            clear m1
            refine wp_region_ext2X (by kernel_rfl) 29 [40, 41, 42, 43, 44, 45, 46, 47, 48, 49, 50, 51, 52, 53, 54, 55, 56, 57, 58, 59, 60, 61, 62, 63, 64, 65, 66, 67, 11] (fun a b => a.heap.size ≤ b.heap.size ∧ ∀ k, k < a.heap.size → some k ≠ blockOf A' → b.heap[k]? = a.heap[k]?) (fun d v w' => if d = 40 then v = .slice A' Z0.length c' else if d = 41 then v = .slice (some ⟨b1, f1, none⟩) ca.length ka else if d = 42 then v = .int .i64 (k : Nat) else if d = 43 then v = .pointer (some ⟨b1, f1 + k, none⟩) else if d = 44 then v = .int .i64 x else if d = 45 then v = .int .i64 (bits BinOp.and IntKind.i64 x 1) else if d = 46 then v = .bool (bits BinOp.and IntKind.i64 x 1 != 0) else if d = 47 then v = .slice (some ⟨b2, f2, none⟩) cb.length kb else if d = 48 then v = .int .i64 (k : Nat) else if d = 49 then v = .pointer (some ⟨b2, f2 + k, none⟩) else if d = 50 then v = .int .i64 y else if d = 51 then v = .int .i64 (bits BinOp.and IntKind.i64 y 1) else if d = 52 then v = .bool (bits BinOp.and IntKind.i64 y 1 != 0) else if d = 53 then v = .slice (some ⟨b1, f1, none⟩) ca.length ka else if d = 54 then v = .int .i64 (k : Nat) else if d = 55 then v = .pointer (some ⟨b1, f1 + k, none⟩) else if d = 56 then v = .int .i64 x else if d = 57 then v = .int .i64 (bits BinOp.and IntKind.i64 x 2) else if d = 58 then v = .bool (bits BinOp.and IntKind.i64 x 2 != 0) else if d = 59 then v = .slice (some ⟨b2, f2, none⟩) cb.length kb else if d = 60 then v = .int .i64 (k : Nat) else if d = 61 then v = .pointer (some ⟨b2, f2 + k, none⟩) else if d = 62 then v = .int .i64 y else if d = 63 then v = .int .i64 (bits BinOp.and IntKind.i64 y 2) else if d = 64 then v = .bool (bits BinOp.and IntKind.i64 y 2 != 0) else if d = 65 then v = .agg #[.bool (bits BinOp.and IntKind.i64 x 1 != 0), .bool (bits BinOp.and IntKind.i64 y 1 != 0), .bool (bits BinOp.and IntKind.i64 x 2 != 0), .bool (bits BinOp.and IntKind.i64 y 2 != 0)] else if d = 66 then ∃ b : Nat, v = .slice (some ⟨b, 0, none⟩) 1 1 ∧ some b ≠ blockOf A' ∧ w'.heap[b]? = some (.cells #[.bool (bits BinOp.and IntKind.i64 x 1 != 0), .bool (bits BinOp.and IntKind.i64 y 1 != 0), .bool (bits BinOp.and IntKind.i64 x 2 != 0), .bool (bits BinOp.and IntKind.i64 y 2 != 0)] 135 (0, 0)) else if d = 67 then ∃ (A1 : Option Addr) (c1 : Nat), v = .slice A1 (Z0.length + 1) c1 else if d = 11 then ∃ (A1 : Option Addr) (c1 : Nat), v = .slice A1 (Z0.length + 1) c1 else False) (fun dn f W' => Below w6.heap.size w6 W' ∧ (dn 27 = false → OS W' (fun g => w6.heap.size ≤ g) A' c' Z0) ∧ (dn 27 = true → ∃ (A1 : Option Addr) (c1 : Nat), f 67 = .slice A1 (Z0.length + 1) c1 ∧ OS W' (fun g => w6.heap.size ≤ g) A1 c1 (Z0 ++ [(⟨bits BinOp.and IntKind.i64 x 1 != 0, bits BinOp.and IntKind.i64 y 1 != 0, bits BinOp.and IntKind.i64 x 2 != 0, bits BinOp.and IntKind.i64 y 2 != 0⟩ : Shd)])) ∧ (dn 28 = true → f 11 = f 67 ∧ dn 27 = true) ∧ (∀ g, blockOf A' = some g → g < W'.heap.size) ∧ (dn 27 = true → dn 0 = true) ∧ (dn 28 = false → f 11 = .slice A' Z0.length c')) (by kernel_rfl) (⟨hbel.drew, fun _ => hown, fun h => (by cases h), fun h => (by cases h), HAl.out, fun h => (by cases h), fun _ => rfl⟩) (fun d v a b hE hT => by
                by_cases h66 : d = 66
                · subst h66
                  obtain ⟨g, e1, e2, e3⟩ := hT
                  exact ⟨g, e1, e2, (hE.2 g (Array.getElem?_eq_some_iff.1 e3).1 e2).trans e3⟩
                simp only [if_neg h66] at hT ⊢
                exact hT) ?_ ?_
            · intro i o hi ho dn f w1 hX hT hni hdn K hK
              have hi' : i = 0 ∨ i = 1 ∨ i = 2 ∨ i = 3 ∨ i = 4 ∨ i = 5 ∨ i = 6 ∨ i = 7 ∨ i = 8 ∨ i = 9 ∨ i = 10 ∨ i = 11 ∨ i = 12 ∨ i = 13 ∨ i = 14 ∨ i = 15 ∨ i = 16 ∨ i = 17 ∨ i = 18 ∨ i = 19 ∨ i = 20 ∨ i = 21 ∨ i = 22 ∨ i = 23 ∨ i = 24 ∨ i = 25 ∨ i = 26 ∨ i = 27 ∨ i = 28 := by omega
              rcases hi' with rfl | rfl | rfl | rfl | rfl | rfl | rfl | rfl | rfl | rfl | rfl | rfl | rfl | rfl | rfl | rfl | rfl | rfl | rfl | rfl | rfl | rfl | rfl | rfl | rfl | rfl | rfl | rfl | rfl
              · simp only [List.getElem?_toArray, List.getElem?_cons_zero, Option.some.injEq] at ho
                subst ho
                have h11 : f 11 = .slice A' Z0.length c' := hX.2.2.2.2.2.2 (bfl (fun h => (hX.2.2.2.1 h).2) (bfl hX.2.2.2.2.2.1 hni))
                generalize hA : fr _ _ _ f = A at hK ⊢
                have e11 : A.tmps[11]?.getD undef = f 11 := by rw [← hA]; exact fr_in _ _ _ _ 11 (by decide) (by simp)
                rw [h11] at e11
                clear h11
                clear hA
                have HX := Lib.hid hX
                have HT := Lib.hid hT
                have HN := Lib.hid hni
                have HDN := Lib.hid hdn
                clear hX hT hni hdn
                go_simp
                obtain ⟨x1, x2, x3, x4, x5, x6, x7⟩ := HX.out
                exact hK _ _ ⟨Nat.le_refl _, fun _ _ _ => rfl⟩ (fun d hd => by injection hd with hd; subst hd; exact (rfl)) ⟨x1, by simpa using x2, by simpa [nextF] using x3, by simpa [nextF] using x4, x5, fun _ => by simp, by simpa [nextF] using x7⟩
              · simp only [List.getElem?_toArray, List.getElem?_cons_zero, List.getElem?_cons_succ, Option.some.injEq] at ho
                subst ho
                generalize hA : fr _ _ _ f = A at hK ⊢
                have e9 : A.tmps[9]?.getD undef = .slice (some ⟨b1, f1, none⟩) ca.length ka := by rw [← hA]; exact fr_out _ _ _ _ 9 _ (by decide) rfl
                clear hA
                have HX := Lib.hid hX
                have HT := Lib.hid hT
                have HN := Lib.hid hni
                have HDN := Lib.hid hdn
                clear hX hT hni hdn
                go_simp
                obtain ⟨x1, x2, x3, x4, x5, x6, x7⟩ := HX.out
                exact hK _ _ ⟨Nat.le_refl _, fun _ _ _ => rfl⟩ (fun d hd => by injection hd with hd; subst hd; exact (rfl)) ⟨x1, by simpa using x2, by simpa [nextF] using x3, by simpa [nextF] using x4, x5, by simpa using x6, by simpa [nextF] using x7⟩
              · simp only [List.getElem?_toArray, List.getElem?_cons_zero, List.getElem?_cons_succ, Option.some.injEq] at ho
                subst ho
                generalize hA : fr _ _ _ f = A at hK ⊢
                have e12 : A.tmps[12]?.getD undef = .int .i64 (k : Nat) := by rw [← hA]; exact fr_out _ _ _ _ 12 _ (by decide) rfl
                clear hA
                have HX := Lib.hid hX
                have HT := Lib.hid hT
                have HN := Lib.hid hni
                have HDN := Lib.hid hdn
                clear hX hT hni hdn
                go_simp
                obtain ⟨x1, x2, x3, x4, x5, x6, x7⟩ := HX.out
                exact hK _ _ ⟨Nat.le_refl _, fun _ _ _ => rfl⟩ (fun d hd => by injection hd with hd; subst hd; exact (rfl)) ⟨x1, by simpa using x2, by simpa [nextF] using x3, by simpa [nextF] using x4, x5, by simpa using x6, by simpa [nextF] using x7⟩
              · simp only [List.getElem?_toArray, List.getElem?_cons_zero, List.getElem?_cons_succ, Option.some.injEq] at ho
                subst ho
                have h41 : f 41 = .slice (some ⟨b1, f1, none⟩) ca.length ka := hT 1 41 (by decide) rfl (hdn { on := 1, ground := .data } (by simp) rfl)
                have h42 : f 42 = .int .i64 (k : Nat) := hT 2 42 (by decide) rfl (hdn { on := 2, ground := .data } (by simp) rfl)
                generalize hA : fr _ _ _ f = A at hK ⊢
                have e41 : A.tmps[41]?.getD undef = f 41 := by rw [← hA]; exact fr_in _ _ _ _ 41 (by decide) (by simp)
                have e42 : A.tmps[42]?.getD undef = f 42 := by rw [← hA]; exact fr_in _ _ _ _ 42 (by decide) (by simp)
                clear hA
                have HX := Lib.hid hX
                have HT := Lib.hid hT
                have HN := Lib.hid hni
                have HDN := Lib.hid hdn
                clear hX hT hni hdn
                have Hf41 := Lib.hid h41
                rw [h41] at e41
                clear h41
                have Hf42 := Lib.hid h42
                rw [h42] at e42
                clear h42
                go_simp
                obtain ⟨x1, x2, x3, x4, x5, x6, x7⟩ := HX.out
                exact hK _ _ ⟨Nat.le_refl _, fun _ _ _ => rfl⟩ (fun d hd => by injection hd with hd; subst hd; exact (rfl)) ⟨x1, by simpa using x2, by simpa [nextF] using x3, by simpa [nextF] using x4, x5, by simpa using x6, by simpa [nextF] using x7⟩
              · simp only [List.getElem?_toArray, List.getElem?_cons_zero, List.getElem?_cons_succ, Option.some.injEq] at ho
                subst ho
                have h43 : f 43 = .pointer (some ⟨b1, f1 + k, none⟩) := hT 3 43 (by decide) rfl (hdn { on := 3, ground := .data } (by simp) rfl)
                generalize hA : fr _ _ _ f = A at hK ⊢
                have e43 : A.tmps[43]?.getD undef = f 43 := by rw [← hA]; exact fr_in _ _ _ _ 43 (by decide) (by simp)
                clear hA
                have HX := Lib.hid hX
                have HT := Lib.hid hT
                have HN := Lib.hid hni
                have HDN := Lib.hid hdn
                clear hX hT hni hdn
                have Hf43 := Lib.hid h43
                rw [h43] at e43
                clear h43
                have hcell := ((HX.out.1).cell (p := ⟨b1, f1 + k, none⟩) hl1a).trans q1
                go_simp
                obtain ⟨x1, x2, x3, x4, x5, x6, x7⟩ := HX.out
                exact hK _ _ ⟨Nat.le_refl _, fun _ _ _ => rfl⟩ (fun d hd => by injection hd with hd; subst hd; exact (rfl)) ⟨x1, by simpa using x2, by simpa [nextF] using x3, by simpa [nextF] using x4, x5, by simpa using x6, by simpa [nextF] using x7⟩
              · simp only [List.getElem?_toArray, List.getElem?_cons_zero, List.getElem?_cons_succ, Option.some.injEq] at ho
                subst ho
                have h44 : f 44 = .int .i64 x := hT 4 44 (by decide) rfl (hdn { on := 4, ground := .data } (by simp) rfl)
                generalize hA : fr _ _ _ f = A at hK ⊢
                have e44 : A.tmps[44]?.getD undef = f 44 := by rw [← hA]; exact fr_in _ _ _ _ 44 (by decide) (by simp)
                clear hA
                have HX := Lib.hid hX
                have HT := Lib.hid hT
                have HN := Lib.hid hni
                have HDN := Lib.hid hdn
                clear hX hT hni hdn
                have Hf44 := Lib.hid h44
                rw [h44] at e44
                clear h44
                go_simp
                obtain ⟨x1, x2, x3, x4, x5, x6, x7⟩ := HX.out
                exact hK _ _ ⟨Nat.le_refl _, fun _ _ _ => rfl⟩ (fun d hd => by injection hd with hd; subst hd; exact (rfl)) ⟨x1, by simpa using x2, by simpa [nextF] using x3, by simpa [nextF] using x4, x5, by simpa using x6, by simpa [nextF] using x7⟩
              · simp only [List.getElem?_toArray, List.getElem?_cons_zero, List.getElem?_cons_succ, Option.some.injEq] at ho
                subst ho
                have h45 : f 45 = .int .i64 (bits BinOp.and IntKind.i64 x 1) := hT 5 45 (by decide) rfl (hdn { on := 5, ground := .data } (by simp) rfl)
                generalize hA : fr _ _ _ f = A at hK ⊢
                have e45 : A.tmps[45]?.getD undef = f 45 := by rw [← hA]; exact fr_in _ _ _ _ 45 (by decide) (by simp)
                clear hA
                have HX := Lib.hid hX
                have HT := Lib.hid hT
                have HN := Lib.hid hni
                have HDN := Lib.hid hdn
                clear hX hT hni hdn
                have Hf45 := Lib.hid h45
                rw [h45] at e45
                clear h45
                go_simp
                obtain ⟨x1, x2, x3, x4, x5, x6, x7⟩ := HX.out
                exact hK _ _ ⟨Nat.le_refl _, fun _ _ _ => rfl⟩ (fun d hd => by injection hd with hd; subst hd; exact (rfl)) ⟨x1, by simpa using x2, by simpa [nextF] using x3, by simpa [nextF] using x4, x5, by simpa using x6, by simpa [nextF] using x7⟩
              · simp only [List.getElem?_toArray, List.getElem?_cons_zero, List.getElem?_cons_succ, Option.some.injEq] at ho
                subst ho
                generalize hA : fr _ _ _ f = A at hK ⊢
                have e7 : A.tmps[7]?.getD undef = .slice (some ⟨b2, f2, none⟩) cb.length kb := by rw [← hA]; exact fr_out _ _ _ _ 7 _ (by decide) rfl
                clear hA
                have HX := Lib.hid hX
                have HT := Lib.hid hT
                have HN := Lib.hid hni
                have HDN := Lib.hid hdn
                clear hX hT hni hdn
                go_simp
                obtain ⟨x1, x2, x3, x4, x5, x6, x7⟩ := HX.out
                exact hK _ _ ⟨Nat.le_refl _, fun _ _ _ => rfl⟩ (fun d hd => by injection hd with hd; subst hd; exact (rfl)) ⟨x1, by simpa using x2, by simpa [nextF] using x3, by simpa [nextF] using x4, x5, by simpa using x6, by simpa [nextF] using x7⟩
              · simp only [List.getElem?_toArray, List.getElem?_cons_zero, List.getElem?_cons_succ, Option.some.injEq] at ho
                subst ho
                generalize hA : fr _ _ _ f = A at hK ⊢
                have e12 : A.tmps[12]?.getD undef = .int .i64 (k : Nat) := by rw [← hA]; exact fr_out _ _ _ _ 12 _ (by decide) rfl
                clear hA
                have HX := Lib.hid hX
                have HT := Lib.hid hT
                have HN := Lib.hid hni
                have HDN := Lib.hid hdn
                clear hX hT hni hdn
                go_simp
                obtain ⟨x1, x2, x3, x4, x5, x6, x7⟩ := HX.out
                exact hK _ _ ⟨Nat.le_refl _, fun _ _ _ => rfl⟩ (fun d hd => by injection hd with hd; subst hd; exact (rfl)) ⟨x1, by simpa using x2, by simpa [nextF] using x3, by simpa [nextF] using x4, x5, by simpa using x6, by simpa [nextF] using x7⟩
              · simp only [List.getElem?_toArray, List.getElem?_cons_zero, List.getElem?_cons_succ, Option.some.injEq] at ho
                subst ho
                have h47 : f 47 = .slice (some ⟨b2, f2, none⟩) cb.length kb := hT 7 47 (by decide) rfl (hdn { on := 7, ground := .data } (by simp) rfl)
                have h48 : f 48 = .int .i64 (k : Nat) := hT 8 48 (by decide) rfl (hdn { on := 8, ground := .data } (by simp) rfl)
                generalize hA : fr _ _ _ f = A at hK ⊢
                have e47 : A.tmps[47]?.getD undef = f 47 := by rw [← hA]; exact fr_in _ _ _ _ 47 (by decide) (by simp)
                have e48 : A.tmps[48]?.getD undef = f 48 := by rw [← hA]; exact fr_in _ _ _ _ 48 (by decide) (by simp)
                clear hA
                have HX := Lib.hid hX
                have HT := Lib.hid hT
                have HN := Lib.hid hni
                have HDN := Lib.hid hdn
                clear hX hT hni hdn
                have Hf47 := Lib.hid h47
                rw [h47] at e47
                clear h47
                have Hf48 := Lib.hid h48
                rw [h48] at e48
                clear h48
                go_simp
                obtain ⟨x1, x2, x3, x4, x5, x6, x7⟩ := HX.out
                exact hK _ _ ⟨Nat.le_refl _, fun _ _ _ => rfl⟩ (fun d hd => by injection hd with hd; subst hd; exact (rfl)) ⟨x1, by simpa using x2, by simpa [nextF] using x3, by simpa [nextF] using x4, x5, by simpa using x6, by simpa [nextF] using x7⟩
              · simp only [List.getElem?_toArray, List.getElem?_cons_zero, List.getElem?_cons_succ, Option.some.injEq] at ho
                subst ho
                have h49 : f 49 = .pointer (some ⟨b2, f2 + k, none⟩) := hT 9 49 (by decide) rfl (hdn { on := 9, ground := .data } (by simp) rfl)
                generalize hA : fr _ _ _ f = A at hK ⊢
                have e49 : A.tmps[49]?.getD undef = f 49 := by rw [← hA]; exact fr_in _ _ _ _ 49 (by decide) (by simp)
                clear hA
                have HX := Lib.hid hX
                have HT := Lib.hid hT
                have HN := Lib.hid hni
                have HDN := Lib.hid hdn
                clear hX hT hni hdn
                have Hf49 := Lib.hid h49
                rw [h49] at e49
                clear h49
                have hcell := ((HX.out.1).cell (p := ⟨b2, f2 + k, none⟩) hl2a).trans q2
                go_simp
                obtain ⟨x1, x2, x3, x4, x5, x6, x7⟩ := HX.out
                exact hK _ _ ⟨Nat.le_refl _, fun _ _ _ => rfl⟩ (fun d hd => by injection hd with hd; subst hd; exact (rfl)) ⟨x1, by simpa using x2, by simpa [nextF] using x3, by simpa [nextF] using x4, x5, by simpa using x6, by simpa [nextF] using x7⟩
              · simp only [List.getElem?_toArray, List.getElem?_cons_zero, List.getElem?_cons_succ, Option.some.injEq] at ho
                subst ho
                have h50 : f 50 = .int .i64 y := hT 10 50 (by decide) rfl (hdn { on := 10, ground := .data } (by simp) rfl)
                generalize hA : fr _ _ _ f = A at hK ⊢
                have e50 : A.tmps[50]?.getD undef = f 50 := by rw [← hA]; exact fr_in _ _ _ _ 50 (by decide) (by simp)
                clear hA
                have HX := Lib.hid hX
                have HT := Lib.hid hT
                have HN := Lib.hid hni
                have HDN := Lib.hid hdn
                clear hX hT hni hdn
                have Hf50 := Lib.hid h50
                rw [h50] at e50
                clear h50
                go_simp
                obtain ⟨x1, x2, x3, x4, x5, x6, x7⟩ := HX.out
                exact hK _ _ ⟨Nat.le_refl _, fun _ _ _ => rfl⟩ (fun d hd => by injection hd with hd; subst hd; exact (rfl)) ⟨x1, by simpa using x2, by simpa [nextF] using x3, by simpa [nextF] using x4, x5, by simpa using x6, by simpa [nextF] using x7⟩
              · simp only [List.getElem?_toArray, List.getElem?_cons_zero, List.getElem?_cons_succ, Option.some.injEq] at ho
                subst ho
                have h51 : f 51 = .int .i64 (bits BinOp.and IntKind.i64 y 1) := hT 11 51 (by decide) rfl (hdn { on := 11, ground := .data } (by simp) rfl)
                generalize hA : fr _ _ _ f = A at hK ⊢
                have e51 : A.tmps[51]?.getD undef = f 51 := by rw [← hA]; exact fr_in _ _ _ _ 51 (by decide) (by simp)
                clear hA
                have HX := Lib.hid hX
                have HT := Lib.hid hT
                have HN := Lib.hid hni
                have HDN := Lib.hid hdn
                clear hX hT hni hdn
                have Hf51 := Lib.hid h51
                rw [h51] at e51
                clear h51
                go_simp
                obtain ⟨x1, x2, x3, x4, x5, x6, x7⟩ := HX.out
                exact hK _ _ ⟨Nat.le_refl _, fun _ _ _ => rfl⟩ (fun d hd => by injection hd with hd; subst hd; exact (rfl)) ⟨x1, by simpa using x2, by simpa [nextF] using x3, by simpa [nextF] using x4, x5, by simpa using x6, by simpa [nextF] using x7⟩
              · simp only [List.getElem?_toArray, List.getElem?_cons_zero, List.getElem?_cons_succ, Option.some.injEq] at ho
                subst ho
                generalize hA : fr _ _ _ f = A at hK ⊢
                have e9 : A.tmps[9]?.getD undef = .slice (some ⟨b1, f1, none⟩) ca.length ka := by rw [← hA]; exact fr_out _ _ _ _ 9 _ (by decide) rfl
                clear hA
                have HX := Lib.hid hX
                have HT := Lib.hid hT
                have HN := Lib.hid hni
                have HDN := Lib.hid hdn
                clear hX hT hni hdn
                go_simp
                obtain ⟨x1, x2, x3, x4, x5, x6, x7⟩ := HX.out
                exact hK _ _ ⟨Nat.le_refl _, fun _ _ _ => rfl⟩ (fun d hd => by injection hd with hd; subst hd; exact (rfl)) ⟨x1, by simpa using x2, by simpa [nextF] using x3, by simpa [nextF] using x4, x5, by simpa using x6, by simpa [nextF] using x7⟩
              · simp only [List.getElem?_toArray, List.getElem?_cons_zero, List.getElem?_cons_succ, Option.some.injEq] at ho
                subst ho
                generalize hA : fr _ _ _ f = A at hK ⊢
                have e12 : A.tmps[12]?.getD undef = .int .i64 (k : Nat) := by rw [← hA]; exact fr_out _ _ _ _ 12 _ (by decide) rfl
                clear hA
                have HX := Lib.hid hX
                have HT := Lib.hid hT
                have HN := Lib.hid hni
                have HDN := Lib.hid hdn
                clear hX hT hni hdn
                go_simp
                obtain ⟨x1, x2, x3, x4, x5, x6, x7⟩ := HX.out
                exact hK _ _ ⟨Nat.le_refl _, fun _ _ _ => rfl⟩ (fun d hd => by injection hd with hd; subst hd; exact (rfl)) ⟨x1, by simpa using x2, by simpa [nextF] using x3, by simpa [nextF] using x4, x5, by simpa using x6, by simpa [nextF] using x7⟩
              · simp only [List.getElem?_toArray, List.getElem?_cons_zero, List.getElem?_cons_succ, Option.some.injEq] at ho
                subst ho
                have h53 : f 53 = .slice (some ⟨b1, f1, none⟩) ca.length ka := hT 13 53 (by decide) rfl (hdn { on := 13, ground := .data } (by simp) rfl)
                have h54 : f 54 = .int .i64 (k : Nat) := hT 14 54 (by decide) rfl (hdn { on := 14, ground := .data } (by simp) rfl)
                generalize hA : fr _ _ _ f = A at hK ⊢
                have e53 : A.tmps[53]?.getD undef = f 53 := by rw [← hA]; exact fr_in _ _ _ _ 53 (by decide) (by simp)
                have e54 : A.tmps[54]?.getD undef = f 54 := by rw [← hA]; exact fr_in _ _ _ _ 54 (by decide) (by simp)
                clear hA
                have HX := Lib.hid hX
                have HT := Lib.hid hT
                have HN := Lib.hid hni
                have HDN := Lib.hid hdn
                clear hX hT hni hdn
                have Hf53 := Lib.hid h53
                rw [h53] at e53
                clear h53
                have Hf54 := Lib.hid h54
                rw [h54] at e54
                clear h54
                go_simp
                obtain ⟨x1, x2, x3, x4, x5, x6, x7⟩ := HX.out
                exact hK _ _ ⟨Nat.le_refl _, fun _ _ _ => rfl⟩ (fun d hd => by injection hd with hd; subst hd; exact (rfl)) ⟨x1, by simpa using x2, by simpa [nextF] using x3, by simpa [nextF] using x4, x5, by simpa using x6, by simpa [nextF] using x7⟩
              · simp only [List.getElem?_toArray, List.getElem?_cons_zero, List.getElem?_cons_succ, Option.some.injEq] at ho
                subst ho
                have h55 : f 55 = .pointer (some ⟨b1, f1 + k, none⟩) := hT 15 55 (by decide) rfl (hdn { on := 15, ground := .data } (by simp) rfl)
                generalize hA : fr _ _ _ f = A at hK ⊢
                have e55 : A.tmps[55]?.getD undef = f 55 := by rw [← hA]; exact fr_in _ _ _ _ 55 (by decide) (by simp)
                clear hA
                have HX := Lib.hid hX
                have HT := Lib.hid hT
                have HN := Lib.hid hni
                have HDN := Lib.hid hdn
                clear hX hT hni hdn
                have Hf55 := Lib.hid h55
                rw [h55] at e55
                clear h55
                have hcell := ((HX.out.1).cell (p := ⟨b1, f1 + k, none⟩) hl1a).trans q1
                go_simp
                obtain ⟨x1, x2, x3, x4, x5, x6, x7⟩ := HX.out
                exact hK _ _ ⟨Nat.le_refl _, fun _ _ _ => rfl⟩ (fun d hd => by injection hd with hd; subst hd; exact (rfl)) ⟨x1, by simpa using x2, by simpa [nextF] using x3, by simpa [nextF] using x4, x5, by simpa using x6, by simpa [nextF] using x7⟩
              · simp only [List.getElem?_toArray, List.getElem?_cons_zero, List.getElem?_cons_succ, Option.some.injEq] at ho
                subst ho
                have h56 : f 56 = .int .i64 x := hT 16 56 (by decide) rfl (hdn { on := 16, ground := .data } (by simp) rfl)
                generalize hA : fr _ _ _ f = A at hK ⊢
                have e56 : A.tmps[56]?.getD undef = f 56 := by rw [← hA]; exact fr_in _ _ _ _ 56 (by decide) (by simp)
                clear hA
                have HX := Lib.hid hX
                have HT := Lib.hid hT
                have HN := Lib.hid hni
                have HDN := Lib.hid hdn
                clear hX hT hni hdn
                have Hf56 := Lib.hid h56
                rw [h56] at e56
                clear h56
                go_simp
                obtain ⟨x1, x2, x3, x4, x5, x6, x7⟩ := HX.out
                exact hK _ _ ⟨Nat.le_refl _, fun _ _ _ => rfl⟩ (fun d hd => by injection hd with hd; subst hd; exact (rfl)) ⟨x1, by simpa using x2, by simpa [nextF] using x3, by simpa [nextF] using x4, x5, by simpa using x6, by simpa [nextF] using x7⟩
              · simp only [List.getElem?_toArray, List.getElem?_cons_zero, List.getElem?_cons_succ, Option.some.injEq] at ho
                subst ho
                have h57 : f 57 = .int .i64 (bits BinOp.and IntKind.i64 x 2) := hT 17 57 (by decide) rfl (hdn { on := 17, ground := .data } (by simp) rfl)
                generalize hA : fr _ _ _ f = A at hK ⊢
                have e57 : A.tmps[57]?.getD undef = f 57 := by rw [← hA]; exact fr_in _ _ _ _ 57 (by decide) (by simp)
                clear hA
                have HX := Lib.hid hX
                have HT := Lib.hid hT
                have HN := Lib.hid hni
                have HDN := Lib.hid hdn
                clear hX hT hni hdn
                have Hf57 := Lib.hid h57
                rw [h57] at e57
                clear h57
                go_simp
                obtain ⟨x1, x2, x3, x4, x5, x6, x7⟩ := HX.out
                exact hK _ _ ⟨Nat.le_refl _, fun _ _ _ => rfl⟩ (fun d hd => by injection hd with hd; subst hd; exact (rfl)) ⟨x1, by simpa using x2, by simpa [nextF] using x3, by simpa [nextF] using x4, x5, by simpa using x6, by simpa [nextF] using x7⟩
              · simp only [List.getElem?_toArray, List.getElem?_cons_zero, List.getElem?_cons_succ, Option.some.injEq] at ho
                subst ho
                generalize hA : fr _ _ _ f = A at hK ⊢
                have e7 : A.tmps[7]?.getD undef = .slice (some ⟨b2, f2, none⟩) cb.length kb := by rw [← hA]; exact fr_out _ _ _ _ 7 _ (by decide) rfl
                clear hA
                have HX := Lib.hid hX
                have HT := Lib.hid hT
                have HN := Lib.hid hni
                have HDN := Lib.hid hdn
                clear hX hT hni hdn
                go_simp
                obtain ⟨x1, x2, x3, x4, x5, x6, x7⟩ := HX.out
                exact hK _ _ ⟨Nat.le_refl _, fun _ _ _ => rfl⟩ (fun d hd => by injection hd with hd; subst hd; exact (rfl)) ⟨x1, by simpa using x2, by simpa [nextF] using x3, by simpa [nextF] using x4, x5, by simpa using x6, by simpa [nextF] using x7⟩
              · simp only [List.getElem?_toArray, List.getElem?_cons_zero, List.getElem?_cons_succ, Option.some.injEq] at ho
                subst ho
                generalize hA : fr _ _ _ f = A at hK ⊢
                have e12 : A.tmps[12]?.getD undef = .int .i64 (k : Nat) := by rw [← hA]; exact fr_out _ _ _ _ 12 _ (by decide) rfl
                clear hA
                have HX := Lib.hid hX
                have HT := Lib.hid hT
                have HN := Lib.hid hni
                have HDN := Lib.hid hdn
                clear hX hT hni hdn
                go_simp
                obtain ⟨x1, x2, x3, x4, x5, x6, x7⟩ := HX.out
                exact hK _ _ ⟨Nat.le_refl _, fun _ _ _ => rfl⟩ (fun d hd => by injection hd with hd; subst hd; exact (rfl)) ⟨x1, by simpa using x2, by simpa [nextF] using x3, by simpa [nextF] using x4, x5, by simpa using x6, by simpa [nextF] using x7⟩
              · simp only [List.getElem?_toArray, List.getElem?_cons_zero, List.getElem?_cons_succ, Option.some.injEq] at ho
                subst ho
                have h59 : f 59 = .slice (some ⟨b2, f2, none⟩) cb.length kb := hT 19 59 (by decide) rfl (hdn { on := 19, ground := .data } (by simp) rfl)
                have h60 : f 60 = .int .i64 (k : Nat) := hT 20 60 (by decide) rfl (hdn { on := 20, ground := .data } (by simp) rfl)
                generalize hA : fr _ _ _ f = A at hK ⊢
                have e59 : A.tmps[59]?.getD undef = f 59 := by rw [← hA]; exact fr_in _ _ _ _ 59 (by decide) (by simp)
                have e60 : A.tmps[60]?.getD undef = f 60 := by rw [← hA]; exact fr_in _ _ _ _ 60 (by decide) (by simp)
                clear hA
                have HX := Lib.hid hX
                have HT := Lib.hid hT
                have HN := Lib.hid hni
                have HDN := Lib.hid hdn
                clear hX hT hni hdn
                have Hf59 := Lib.hid h59
                rw [h59] at e59
                clear h59
                have Hf60 := Lib.hid h60
                rw [h60] at e60
                clear h60
                go_simp
                obtain ⟨x1, x2, x3, x4, x5, x6, x7⟩ := HX.out
                exact hK _ _ ⟨Nat.le_refl _, fun _ _ _ => rfl⟩ (fun d hd => by injection hd with hd; subst hd; exact (rfl)) ⟨x1, by simpa using x2, by simpa [nextF] using x3, by simpa [nextF] using x4, x5, by simpa using x6, by simpa [nextF] using x7⟩
              · simp only [List.getElem?_toArray, List.getElem?_cons_zero, List.getElem?_cons_succ, Option.some.injEq] at ho
                subst ho
                have h61 : f 61 = .pointer (some ⟨b2, f2 + k, none⟩) := hT 21 61 (by decide) rfl (hdn { on := 21, ground := .data } (by simp) rfl)
                generalize hA : fr _ _ _ f = A at hK ⊢
                have e61 : A.tmps[61]?.getD undef = f 61 := by rw [← hA]; exact fr_in _ _ _ _ 61 (by decide) (by simp)
                clear hA
                have HX := Lib.hid hX
                have HT := Lib.hid hT
                have HN := Lib.hid hni
                have HDN := Lib.hid hdn
                clear hX hT hni hdn
                have Hf61 := Lib.hid h61
                rw [h61] at e61
                clear h61
                have hcell := ((HX.out.1).cell (p := ⟨b2, f2 + k, none⟩) hl2a).trans q2
                go_simp
                obtain ⟨x1, x2, x3, x4, x5, x6, x7⟩ := HX.out
                exact hK _ _ ⟨Nat.le_refl _, fun _ _ _ => rfl⟩ (fun d hd => by injection hd with hd; subst hd; exact (rfl)) ⟨x1, by simpa using x2, by simpa [nextF] using x3, by simpa [nextF] using x4, x5, by simpa using x6, by simpa [nextF] using x7⟩
              · simp only [List.getElem?_toArray, List.getElem?_cons_zero, List.getElem?_cons_succ, Option.some.injEq] at ho
                subst ho
                have h62 : f 62 = .int .i64 y := hT 22 62 (by decide) rfl (hdn { on := 22, ground := .data } (by simp) rfl)
                generalize hA : fr _ _ _ f = A at hK ⊢
                have e62 : A.tmps[62]?.getD undef = f 62 := by rw [← hA]; exact fr_in _ _ _ _ 62 (by decide) (by simp)
                clear hA
                have HX := Lib.hid hX
                have HT := Lib.hid hT
                have HN := Lib.hid hni
                have HDN := Lib.hid hdn
                clear hX hT hni hdn
                have Hf62 := Lib.hid h62
                rw [h62] at e62
                clear h62
                go_simp
                obtain ⟨x1, x2, x3, x4, x5, x6, x7⟩ := HX.out
                exact hK _ _ ⟨Nat.le_refl _, fun _ _ _ => rfl⟩ (fun d hd => by injection hd with hd; subst hd; exact (rfl)) ⟨x1, by simpa using x2, by simpa [nextF] using x3, by simpa [nextF] using x4, x5, by simpa using x6, by simpa [nextF] using x7⟩
              · simp only [List.getElem?_toArray, List.getElem?_cons_zero, List.getElem?_cons_succ, Option.some.injEq] at ho
                subst ho
                have h63 : f 63 = .int .i64 (bits BinOp.and IntKind.i64 y 2) := hT 23 63 (by decide) rfl (hdn { on := 23, ground := .data } (by simp) rfl)
                generalize hA : fr _ _ _ f = A at hK ⊢
                have e63 : A.tmps[63]?.getD undef = f 63 := by rw [← hA]; exact fr_in _ _ _ _ 63 (by decide) (by simp)
                clear hA
                have HX := Lib.hid hX
                have HT := Lib.hid hT
                have HN := Lib.hid hni
                have HDN := Lib.hid hdn
                clear hX hT hni hdn
                have Hf63 := Lib.hid h63
                rw [h63] at e63
                clear h63
                go_simp
                obtain ⟨x1, x2, x3, x4, x5, x6, x7⟩ := HX.out
                exact hK _ _ ⟨Nat.le_refl _, fun _ _ _ => rfl⟩ (fun d hd => by injection hd with hd; subst hd; exact (rfl)) ⟨x1, by simpa using x2, by simpa [nextF] using x3, by simpa [nextF] using x4, x5, by simpa using x6, by simpa [nextF] using x7⟩
              · simp only [List.getElem?_toArray, List.getElem?_cons_zero, List.getElem?_cons_succ, Option.some.injEq] at ho
                subst ho
                have h46 : f 46 = .bool (bits BinOp.and IntKind.i64 x 1 != 0) := hT 6 46 (by decide) rfl (hdn { on := 6, ground := .data } (by simp) rfl)
                have h52 : f 52 = .bool (bits BinOp.and IntKind.i64 y 1 != 0) := hT 12 52 (by decide) rfl (hdn { on := 12, ground := .data } (by simp) rfl)
                have h58 : f 58 = .bool (bits BinOp.and IntKind.i64 x 2 != 0) := hT 18 58 (by decide) rfl (hdn { on := 18, ground := .data } (by simp) rfl)
                have h64 : f 64 = .bool (bits BinOp.and IntKind.i64 y 2 != 0) := hT 24 64 (by decide) rfl (hdn { on := 24, ground := .data } (by simp) rfl)
                generalize hA : fr _ _ _ f = A at hK ⊢
                have e46 : A.tmps[46]?.getD undef = f 46 := by rw [← hA]; exact fr_in _ _ _ _ 46 (by decide) (by simp)
                have e52 : A.tmps[52]?.getD undef = f 52 := by rw [← hA]; exact fr_in _ _ _ _ 52 (by decide) (by simp)
                have e58 : A.tmps[58]?.getD undef = f 58 := by rw [← hA]; exact fr_in _ _ _ _ 58 (by decide) (by simp)
                have e64 : A.tmps[64]?.getD undef = f 64 := by rw [← hA]; exact fr_in _ _ _ _ 64 (by decide) (by simp)
                clear hA
                have HX := Lib.hid hX
                have HT := Lib.hid hT
                have HN := Lib.hid hni
                have HDN := Lib.hid hdn
                clear hX hT hni hdn
                have Hf46 := Lib.hid h46
                rw [h46] at e46
                clear h46
                have Hf52 := Lib.hid h52
                rw [h52] at e52
                clear h52
                have Hf58 := Lib.hid h58
                rw [h58] at e58
                clear h58
                have Hf64 := Lib.hid h64
                rw [h64] at e64
                clear h64
                go_simp
                obtain ⟨x1, x2, x3, x4, x5, x6, x7⟩ := HX.out
                exact hK _ _ ⟨Nat.le_refl _, fun _ _ _ => rfl⟩ (fun d hd => by injection hd with hd; subst hd; exact (rfl)) ⟨x1, by simpa using x2, by simpa [nextF] using x3, by simpa [nextF] using x4, x5, by simpa using x6, by simpa [nextF] using x7⟩
              · simp only [List.getElem?_toArray, List.getElem?_cons_zero, List.getElem?_cons_succ, Option.some.injEq] at ho
                subst ho
                have h65 : f 65 = .agg #[.bool (bits BinOp.and IntKind.i64 x 1 != 0), .bool (bits BinOp.and IntKind.i64 y 1 != 0), .bool (bits BinOp.and IntKind.i64 x 2 != 0), .bool (bits BinOp.and IntKind.i64 y 2 != 0)] := hT 25 65 (by decide) rfl (hdn { on := 25, ground := .data } (by simp) rfl)
                generalize hA : fr _ _ _ f = A at hK ⊢
                have e65 : A.tmps[65]?.getD undef = f 65 := by rw [← hA]; exact fr_in _ _ _ _ 65 (by decide) (by simp)
                clear hA
                have HX := Lib.hid hX
                have HT := Lib.hid hT
                have HN := Lib.hid hni
                have HDN := Lib.hid hdn
                clear hX hT hni hdn
                have Hf65 := Lib.hid h65
                rw [h65] at e65
                clear h65
                go_simp
                obtain ⟨x1, x2, x3, x4, x5, x6, x7⟩ := HX.out
                have hnb : some w1.heap.size ≠ blockOf A' := fun e => by have := x5 _ e.symm; omega
                refine hK _ _ ⟨by simp, fun k hk _ => Below.heap_alloc _ _ _ hk⟩ (fun d hd => by injection hd with hd; subst hd; exact (⟨w1.heap.size, rfl, hnb, heap_alloc_new w1 _⟩)) ⟨x1.alloc x1.size _, fun h => (x2 (by simpa using h)).keep (Kept.alloc _ _ _), fun h => ?_, by simpa [nextF] using x4, fun g hg => by have := x5 g hg; simp; omega, by simpa using x6, by simpa [nextF] using x7⟩
                obtain ⟨A1, c1, e1, o1⟩ := x3 (by simpa using h)
                exact ⟨A1, c1, by simpa [nextF] using e1, o1.keep (Kept.alloc _ _ _)⟩
              · simp only [List.getElem?_toArray, List.getElem?_cons_zero, List.getElem?_cons_succ, Option.some.injEq] at ho
                subst ho
                have h40 : f 40 = .slice A' Z0.length c' := hT 0 40 (by decide) rfl (hdn { on := 0, ground := .data } (by simp) rfl)
                have h66 : ∃ b : Nat, f 66 = .slice (some ⟨b, 0, none⟩) 1 1 ∧ some b ≠ blockOf A' ∧ w1.heap[b]? = some (.cells #[.bool (bits BinOp.and IntKind.i64 x 1 != 0), .bool (bits BinOp.and IntKind.i64 y 1 != 0), .bool (bits BinOp.and IntKind.i64 x 2 != 0), .bool (bits BinOp.and IntKind.i64 y 2 != 0)] 135 (0, 0)) := hT 26 66 (by decide) rfl (hdn { on := 26, ground := .data } (by simp) rfl)
                have hd0 : dn 0 = true := hdn { on := 0, ground := .data } (by simp) rfl
                generalize hA : fr _ _ _ f = A at hK ⊢
                have e40 : A.tmps[40]?.getD undef = f 40 := by rw [← hA]; exact fr_in _ _ _ _ 40 (by decide) (by simp)
                have e66 : A.tmps[66]?.getD undef = f 66 := by rw [← hA]; exact fr_in _ _ _ _ 66 (by decide) (by simp)
                clear hA
                have HX := Lib.hid hX
                have HT := Lib.hid hT
                have HN := Lib.hid hni
                have HDN := Lib.hid hdn
                clear hX hT hni hdn
                have Hf40 := Lib.hid h40
                rw [h40] at e40
                clear h40
                obtain ⟨gb, h66, gn, gr⟩ := h66
                have Hf66 := Lib.hid h66
                rw [h66] at e66
                clear h66
                obtain ⟨x1, x2, x3, x4, x5, x6, x7⟩ := HX.out
                have ho := x2 HN.out
                obtain ⟨i0, hi0, hz0, hz1, hz2⟩ := info_parts shdInfo
                obtain ⟨A1, c1, w2, hr, h2, h3, h4⟩ := run_append_OV (P := Tryd.prog) w1 (fun g => w6.heap.size ≤ g) 69 69 135 i0 _ 4 4 Tryd.underlying69 hi0 hz0 hz1 hz2 rfl (by decide) A' Z0.length c' (recV shdV Z0) ho (fun _ => True) (some ⟨gb, 0, none⟩) 1 1 (shdV (⟨bits BinOp.and IntKind.i64 x 1 != 0, bits BinOp.and IntKind.i64 y 1 != 0, bits BinOp.and IntKind.i64 x 2 != 0, bits BinOp.and IntKind.i64 y 2 != 0⟩ : Shd)) rfl (SV.block (xs := shdV (⟨bits BinOp.and IntKind.i64 x 1 != 0, bits BinOp.and IntKind.i64 y 1 != 0, bits BinOp.and IntKind.i64 x 2 != 0, bits BinOp.and IntKind.i64 y 2 != 0⟩ : Shd)) gr) (shdV_one _) (by simp only [maxLen]; omega) (by omega)
                refine wp_append (.tmp 40) (.tmp 66) 69 rfl (show A.eval (.tmp 40) = _ by simpa [Act.eval] using e40) (show A.eval (.tmp 66) = _ by simpa [Act.eval] using e66) hr ?_
                refine hK _ _ ⟨h3.size, fun k hk hne => h3.block k hk hne⟩ (fun d hd => by injection hd with hd; subst hd; exact (⟨A1, c1, rfl⟩)) ⟨x1.trans ((Below.refl w6.heap.size w1).grown h3 x1.size (fun g hg => (OV.block ho g hg).1)), fun h => by simp at h, fun _ => ⟨A1, c1, by simp [nextF], ?_⟩, fun h => ?_, fun g hg => Nat.lt_of_lt_of_le (x5 g hg) h3.size, fun _ => by simp [hd0], by simpa [nextF] using x7⟩
                · have := h2.mono (T := fun g => w6.heap.size ≤ g) (fun g _ hg => by have := x1.size; rcases hg with hg | hg <;> omega)
                  unfold OS
                  rw [List.length_append, recV_snoc]
                  exact this
                · have := (x4 (by simpa using h)).2
                  rw [HN.out] at this
                  cases this
              · simp only [List.getElem?_toArray, List.getElem?_cons_zero, List.getElem?_cons_succ, Option.some.injEq] at ho
                subst ho
                have h67 : ∃ (A1 : Option Addr) (c1 : Nat), f 67 = .slice A1 (Z0.length + 1) c1 := hT 27 67 (by decide) rfl (hdn { on := 27, ground := .data } (by simp) rfl)
                have hd11 : dn 27 = true := hdn { on := 27, ground := .data } (by simp) rfl
                generalize hA : fr _ _ _ f = A at hK ⊢
                have e67 : A.tmps[67]?.getD undef = f 67 := by rw [← hA]; exact fr_in _ _ _ _ 67 (by decide) (by simp)
                clear hA
                have HX := Lib.hid hX
                have HT := Lib.hid hT
                have HN := Lib.hid hni
                have HDN := Lib.hid hdn
                clear hX hT hni hdn
                obtain ⟨A1, c1, h67⟩ := h67
                have Hf67 := Lib.hid h67
                rw [h67] at e67
                clear h67
                go_simp
                obtain ⟨x1, x2, x3, x4, x5, x6, x7⟩ := HX.out
                exact hK _ _ ⟨Nat.le_refl _, fun _ _ _ => rfl⟩ (fun d hd => by injection hd with hd; subst hd; exact (⟨A1, c1, rfl⟩)) ⟨x1, by simpa using x2, by simpa [nextF] using x3, fun _ => ⟨by simp [nextF, Hf67.out], by simp [hd11]⟩, x5, by simpa using x6, fun h => by simp at h⟩
            · intro dn f w1 hX hdn hall
              obtain ⟨x1, _, x3, x4, _⟩ := hX
              obtain ⟨A1, c1, e1, o1⟩ := x3 (hdn 27 (by decide))
              have e2 := (x4 (hdn 28 (by decide))).1.trans e1
              have E2 := Lib.hid e2
              clear hdn hall x3 x4 e1 e2
              simp only [fr, upd, List.mapIdx_cons, List.mapIdx_nil]
              simp
              go_wp2_with (fail)
              go_roundg (gk - 1)
              case measure => have := Hk.out; omega
              case rel => exact ⟨k + 1, A1, c1, by have := Hk.out; omega, by go_num, by rw [Hs2.out, E2.out]; simp, by rw [Hs2.out]; exact o1, x1⟩
          · go_wp2_with (fail)
            go_ret2
            rw [List.take_of_length_le (by rw [Hzl.out]; omega)] at hown
            rw [List.take_of_length_le (by rw [Hzl.out]; omega), HE.out]
            exact ⟨A', c', rfl, hown.mono (fun g _ hg => by show w.heap.size ≤ g; have := hb16.size; have hg : w6.heap.size ≤ g := hg; omega), hb16.trans (hbel.mono hb16.size)⟩
end Go.Proofs.YtgpcojmdfmngeaaDoor

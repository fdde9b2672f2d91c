/-
  mk.State at a network that came in.
-/
import Derived.Test.YtgpcojmdfmngeaaDoorGb
namespace Go.Proofs.YtgpcojmdfmngeaaDoor
open Go.RowKit
set_option maxHeartbeats 400000

set_option maxHeartbeats 1000000 in
theorem state_far (w : World) (bd : Nat) (h : Deck w bd) (A1 : Option Addr) (n1 c1 : Nat) (A2 : Option Addr) (c2 : Nat) (ds : List Dev) (S : Nat → Prop) (hS : ∀ b, S b → b ≠ bd) (hv : SV w S A2 (devsV ds)) (hl : ds.length ≤ 400) :
    Calls Tryd.prog 64 #[.pointer (some ⟨bd, 0, none⟩), .agg #[.slice A1 n1 c1, .slice A2 ds.length c2]] w (RetState w bd ds.length (fun x => x = 1 ∨ x = 2)) := by
  have hbdl := h.lt
  go_enter Tryd.func64, Tryd.ntmps64
  go_wp2_with (fail)
  have hb0 : (w.alloc (.cells #[.slice A1 n1 c1, .slice A2 ds.length c2] 26)).heap[w.heap.size]? = some (.cells #[.slice A1 n1 c1, .slice A2 ds.length c2] 26 (0, 0)) := heap_alloc_new w _
  have hd0 := h.below ((Below.refl _ _).alloc (Nat.le_refl _) (.cells #[.slice A1 n1 c1, .slice A2 ds.length c2] 26))
  have hf0 : Fr w.heap.size bd w (w.alloc (.cells #[.slice A1 n1 c1, .slice A2 ds.length c2] 26)) := Fr.of_below ((Below.refl _ _).alloc (Nat.le_refl _) _)
  have hz0 : (w.alloc (.cells #[.slice A1 n1 c1, .slice A2 ds.length c2] 26)).heap.size = w.heap.size + 1 := by simp
  generalize w.alloc (.cells #[.slice A1 n1 c1, .slice A2 ds.length c2] 26) = w0 at *
  obtain ⟨gb, hgb⟩ : ∃ gb, gb = w.heap.size := ⟨_, rfl⟩
  rw [← hgb] at hb0
  rw [← hgb]
  have Hb0 := Lib.hid hb0
  have Hgb := Lib.hid hgb
  have Hz0 := Lib.hid hz0
  clear hb0 hgb hz0
  go_loopg [5, 6] ds.length (fun g v i wr => ∃ (j : Nat) (A' : Option Addr) (c' : Nat) (ys : List Int), j + g = ds.length ∧ i = .int .i64 j ∧ v = .slice A' ys.length c' ∧ ys.length = j ∧ (∀ x ∈ ys, x = 1 ∨ x = 2) ∧ OI wr (fun g => gb + 1 ≤ g) A' c' ys ∧ Deck wr bd ∧ Fr (gb + 1) bd w0 wr)
  case atStart => exact ⟨0, none, 0, [], by omega, rfl, rfl, rfl, by simp, OI.nil _ _, hd0, Fr.refl _ _ _⟩
  case round =>
    obtain ⟨j, A', c', ys, hj, rfl, rfl, hyl, hys, hown, hdk, hfr⟩ := hrel
    have Hj := Lib.hid hj
    have Hyl := Lib.hid hyl
    have Hys := Lib.hid hys
    clear hj hyl hys
    have hgbd : gb ≠ bd := by have := Hgb.out; omega
    have hz : gb + 1 ≤ wr.heap.size := by have := hfr.size; have := Hz0.out; have := Hgb.out; omega
    have hgb : gb < wr.heap.size := by omega
    have hcb : wr.cell? ⟨gb, 1, none⟩ = some (.slice A2 ds.length c2) := by rw [cell_of_row wr gb 1 _ _ _ ((hfr.block gb (by omega) hgbd).trans Hb0.out)]; rfl
    by_cases hlt : j < ds.length
    · obtain ⟨b, off, rfl, hSb, hbl0, hlie⟩ := hv (by
        intro e; have := devsV_len ds; rw [e] at this; simp at this; omega)
      have hbd := hS b hSb
      have hbl : b < wr.heap.size := by have := Hgb.out; omega
      obtain ⟨kd, hkd⟩ : ∃ kd, kd = (ds[j]'hlt).kind := ⟨_, rfl⟩
      have hck : wr.cell? ⟨b, off + j * 5 + 1, none⟩ = some (.int .i64 kd) := by
        have e1 := devsV_at ds j _ (List.getElem?_eq_getElem hlt) 1 (by decide)
        have e2 := hlie (j * 5 + 1) (.int .i64 kd) (by rw [e1, hkd]; rfl)
        rw [← Nat.add_assoc] at e2
        refine (World.cell?_of_block ?_).trans e2
        have := Hgb.out
        rw [hfr.block b (by omega) hbd, hf0.block b (by omega) hbd]
      have Hck := Lib.hid hck
      have hcb' := hcb
      have Hcb := Lib.hid hcb'
      clear hck hkd hcb'
      have hlt' : (j : Int) < ds.length := by omega
      have hl' : (ds.length : Int) ≤ 400 := by omega
      go_upto_region 6 with fail
      go_cut [24] (fun v wx => (∃ b : Bool, v = .bool b) ∧ Fr wr.heap.size bd wr wx ∧ Deck wx bd)
      case first =>
        refine wp_region_ext0 (by kernel_rfl) 10 [15, 16, 17, 18, 19, 20, 21, 22, 23, 24] (fun w' => Fr wr.heap.size bd wr w' ∧ Deck w' bd) (fun w1 w2 => Fr w1.heap.size bd w1 w2) (fun d v _ => StT gb b off ds c2 j kd bd d v) (by kernel_rfl)
          ⟨⟨rfl, rfl, rfl, Nat.le_refl _, fun _ _ _ => rfl⟩, hdk.keep (fun _ _ => rfl) (Nat.le_refl _)⟩ (fun _ _ _ _ _ _ ht => ht) ?_ ?_
        · intro i o d hi ho hd f w1 hC hdep K hK
          clear hown hcb
          have hi' : i = 0 ∨ i = 1 ∨ i = 2 ∨ i = 3 ∨ i = 4 ∨ i = 5 ∨ i = 6 ∨ i = 7 ∨ i = 8 ∨ i = 9 := by omega
          rcases hi' with rfl | rfl | rfl | rfl | rfl | rfl | rfl | rfl | rfl | rfl
          · simp only [List.getElem?_toArray, List.getElem?_cons_zero, Option.some.injEq] at ho
            subst ho
            simp only [Option.some.injEq] at hd
            subst hd
            generalize hA : fr _ _ _ f = A at hK ⊢
            have e3 : A.tmps[3]?.getD undef = .pointer (some ⟨gb, 0, none⟩) := by rw [← hA]; exact fr_out _ _ _ _ 3 _ (by decide) rfl
            clear hA hdep
            go_simp
            exact hK _ _ (Fr.refl _ _ _) hC rfl
          · simp only [List.getElem?_toArray, List.getElem?_cons_zero, List.getElem?_cons_succ, Option.some.injEq] at ho
            subst ho
            simp only [Option.some.injEq] at hd
            subst hd
            have h15 : f 15 = .pointer (some ⟨gb, 1, none⟩) := hdep { on := 0, ground := .data } (by simp) rfl 15 rfl
            generalize hA : fr _ _ _ f = A at hK ⊢
            have e15 : A.tmps[15]?.getD undef = f 15 := by rw [← hA]; exact fr_in _ _ _ _ 15 (by decide) (by simp)
            clear hA hdep
            rw [h15] at e15
            clear h15
            have hcell : w1.cell? ⟨gb, 1, none⟩ = some (.slice (some ⟨b, off, none⟩) ds.length c2) := (World.cell?_of_block (hC.1.block gb hgb hgbd)).trans Hcb.out
            go_simp
            exact hK _ _ (Fr.refl _ _ _) hC rfl
          · simp only [List.getElem?_toArray, List.getElem?_cons_zero, List.getElem?_cons_succ, Option.some.injEq] at ho
            subst ho
            simp only [Option.some.injEq] at hd
            subst hd
            generalize hA : fr _ _ _ f = A at hK ⊢
            have e6 : A.tmps[6]?.getD undef = .int .i64 j := by rw [← hA]; exact fr_out _ _ _ _ 6 _ (by decide) rfl
            clear hA hdep
            go_simp
            exact hK _ _ (Fr.refl _ _ _) hC rfl
          · simp only [List.getElem?_toArray, List.getElem?_cons_zero, List.getElem?_cons_succ, Option.some.injEq] at ho
            subst ho
            simp only [Option.some.injEq] at hd
            subst hd
            have h16 : f 16 = .slice (some ⟨b, off, none⟩) ds.length c2 := hdep { on := 1, ground := .data } (by simp) rfl 16 rfl
            have h17 : f 17 = .int .i64 j := hdep { on := 2, ground := .data } (by simp) rfl 17 rfl
            generalize hA : fr _ _ _ f = A at hK ⊢
            have e16 : A.tmps[16]?.getD undef = f 16 := by rw [← hA]; exact fr_in _ _ _ _ 16 (by decide) (by simp)
            have e17 : A.tmps[17]?.getD undef = f 17 := by rw [← hA]; exact fr_in _ _ _ _ 17 (by decide) (by simp)
            clear hA hdep
            rw [h16] at e16
            clear h16
            rw [h17] at e17
            clear h17
            go_simp
            exact hK _ _ (Fr.refl _ _ _) hC rfl
          · simp only [List.getElem?_toArray, List.getElem?_cons_zero, List.getElem?_cons_succ, Option.some.injEq] at ho
            subst ho
            simp only [Option.some.injEq] at hd
            subst hd
            have h18 : f 18 = .pointer (some ⟨b, off + j * 5, none⟩) := hdep { on := 3, ground := .data } (by simp) rfl 18 rfl
            generalize hA : fr _ _ _ f = A at hK ⊢
            have e18 : A.tmps[18]?.getD undef = f 18 := by rw [← hA]; exact fr_in _ _ _ _ 18 (by decide) (by simp)
            clear hA hdep
            rw [h18] at e18
            clear h18
            go_simp
            exact hK _ _ (Fr.refl _ _ _) hC rfl
          · simp only [List.getElem?_toArray, List.getElem?_cons_zero, List.getElem?_cons_succ, Option.some.injEq] at ho
            subst ho
            simp only [Option.some.injEq] at hd
            subst hd
            have h19 : f 19 = .pointer (some ⟨b, off + j * 5 + 1, none⟩) := hdep { on := 4, ground := .data } (by simp) rfl 19 rfl
            generalize hA : fr _ _ _ f = A at hK ⊢
            have e19 : A.tmps[19]?.getD undef = f 19 := by rw [← hA]; exact fr_in _ _ _ _ 19 (by decide) (by simp)
            clear hA hdep
            rw [h19] at e19
            clear h19
            have hcell : w1.cell? ⟨b, off + j * 5 + 1, none⟩ = some (.int .i64 kd) := (World.cell?_of_block (hC.1.block b hbl hbd)).trans Hck.out
            go_simp
            exact hK _ _ (Fr.refl _ _ _) hC rfl
          · simp only [List.getElem?_toArray, List.getElem?_cons_zero, List.getElem?_cons_succ, Option.some.injEq] at ho
            subst ho
            simp only [Option.some.injEq] at hd
            subst hd
            have h20 : f 20 = .int .i64 kd := hdep { on := 5, ground := .data } (by simp) rfl 20 rfl
            generalize hA : fr _ _ _ f = A at hK ⊢
            have e20 : A.tmps[20]?.getD undef = f 20 := by rw [← hA]; exact fr_in _ _ _ _ 20 (by decide) (by simp)
            clear hA hdep
            rw [h20] at e20
            clear h20
            go_simp
            exact hK _ _ (Fr.refl _ _ _) hC ⟨_, rfl⟩
          · simp only [List.getElem?_toArray, List.getElem?_cons_zero, List.getElem?_cons_succ, Option.some.injEq] at ho
            subst ho
            simp only [Option.some.injEq] at hd
            subst hd
            generalize hA : fr _ _ _ f = A at hK ⊢
            have e0 : A.tmps[0]?.getD undef = .pointer (some ⟨bd, 0, none⟩) := by rw [← hA]; exact fr_out _ _ _ _ 0 _ (by decide) rfl
            clear hA hdep
            go_simp
            exact hK _ _ (Fr.refl _ _ _) hC rfl
          · simp only [List.getElem?_toArray, List.getElem?_cons_zero, List.getElem?_cons_succ, Option.some.injEq] at ho
            subst ho
            simp only [Option.some.injEq] at hd
            subst hd
            have h22 : f 22 = .pointer (some ⟨bd, 0, none⟩) := hdep { on := 7, ground := .data } (by simp) rfl 22 rfl
            generalize hA : fr _ _ _ f = A at hK ⊢
            have e22 : A.tmps[22]?.getD undef = f 22 := by rw [← hA]; exact fr_in _ _ _ _ 22 (by decide) (by simp)
            clear hA hdep
            rw [h22] at e22
            clear h22
            go_simp
            refine (one_any _ _ hC.2 _ (by decide)).mono ?_
            rintro e w2 ⟨b2, rfl, hd2, hg2, hz2⟩
            exact hK _ _ (Fr.of_grown hg2 (Nat.le_refl _)) ⟨hC.1.trans (Fr.of_grown hg2 hC.1.size), hd2⟩ ⟨_, rfl⟩
          · simp only [List.getElem?_toArray, List.getElem?_cons_zero, List.getElem?_cons_succ, Option.some.injEq] at ho
            subst ho
            simp only [Option.some.injEq] at hd
            subst hd
            have q21 : ∃ b : Bool, f 21 = .bool b := hdep { on := 6, ground := .data } (by simp) rfl 21 rfl
            have q23 : ∃ b : Bool, f 23 = .bool b := hdep { on := 8, ground := .data } (by simp) rfl 23 rfl
            generalize hA : fr _ _ _ f = A at hK ⊢
            have e21 : A.tmps[21]?.getD undef = f 21 := by rw [← hA]; exact fr_in _ _ _ _ 21 (by decide) (by simp)
            have e23 : A.tmps[23]?.getD undef = f 23 := by rw [← hA]; exact fr_in _ _ _ _ 23 (by decide) (by simp)
            clear hA hdep
            obtain ⟨v21, h21⟩ := q21
            rw [h21] at e21
            clear h21
            obtain ⟨v23, h23⟩ := q23
            rw [h23] at e23
            clear h23
            go_simp
            exact hK _ _ (Fr.refl _ _ _) hC ⟨_, rfl⟩
        · intro f w1 hC hall
          have q24 : ∃ b : Bool, f 24 = .bool b := hall 9 24 (by decide) rfl
          have H24 := Lib.hid q24
          clear hall q24
          simp only [fr, upd, List.mapIdx_cons, List.mapIdx_nil]
          simp
          go_wp2_with fail
          go_meet
          case rel => exact ⟨H24.out, hC.1, hC.2⟩
      case rest =>
        obtain ⟨⟨bb, rfl⟩, hfx, hdx⟩ := hcut
        obtain ⟨wx, rfl⟩ : ∃ wx : World, wx = wc := ⟨_, rfl⟩
        have hown' : OI wx (fun g => gb + 1 ≤ g) A' c' ys := OV.keep1 hown (fun k hk => by
          have := OV.block hown k hk
          exact hfx.block k this.2 (by have := this.1; have := Hgb.out; omega))
        have hfr' : Fr (gb + 1) bd w0 wx := hfr.trans ⟨hfx.os, hfx.tape, hfx.output, hfx.size, fun k hk hn => hfx.block k (by omega) hn⟩
        have hzx : gb + 1 ≤ wx.heap.size := by have := hfx.size; omega
        clear hown hfx hdk hfr hcb Hcb Hck
        cases bb
        all_goals
          go_wp2_with (at_builtin; go_must (refine wpList_push (B := gb + 1) rfl (.tmp 25) (.tmp 27) rfl rfl rfl rfl (hown'.keep (Kept.alloc _ _ _)) (new_cell _ _ _) (by have := Hyl.out; omega) (by simp; omega) ?_); intro A3 c3 w3 ho3 hb3 hg3 _)
          go_roundg (gk - 1)
          case measure => have := Hj.out; omega
          case rel =>
            have := Hj.out
            have := Hyl.out
            have := Hgb.out
            refine ⟨j + 1, A3, c3, _, by omega, by go_num, by simp, by simp; omega, fun x hx => ?_, ho3, (hdx.below ((Below.refl _ _).alloc (Nat.le_refl _) _)).belowB hb3 (by omega), hfr'.trans ((Fr.of_below ((Below.refl _ _).alloc hzx _)).trans (Fr.of_below hb3))⟩
            rcases List.mem_append.1 hx with hx | hx
            · exact Hys.out x hx
            · simp at hx; subst hx; decide
    · go_wp2_with (fail)
      go_ret
      have := Hgb.out
      have := Hyl.out
      have hj' := Hj.out
      refine ⟨A', c', ys, rfl, by omega, Hys.out, hown.mono (fun g _ hg => by omega), hdk, hf0.trans ⟨hfr.os, hfr.tape, hfr.output, hfr.size, fun k hk hn => hfr.block k (by omega) hn⟩⟩
end Go.Proofs.YtgpcojmdfmngeaaDoor

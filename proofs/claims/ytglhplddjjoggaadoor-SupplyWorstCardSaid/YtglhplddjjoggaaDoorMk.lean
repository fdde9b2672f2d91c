/-
  Walks of the functions that make states and masks of a network.
-/
import Derived.Test.YtglhplddjjoggaaDoorNet2
namespace Go.Proofs.YtglhplddjjoggaaDoor
open Go.RowKit
set_option maxHeartbeats 400000

/-- What the slots hold. -/
def StT (gb b off : Nat) (ds : List Dev) (c2 j : Nat) (kd : Int) (bd : Nat) (d : Nat) (v : Value) : Prop :=
  match d with
  | 15 => v = .pointer (some ⟨gb, 1, none⟩)
  | 16 => v = .slice (some ⟨b, off, none⟩) ds.length c2
  | 17 => v = .int .i64 j
  | 18 => v = .pointer (some ⟨b, off + j * 5, none⟩)
  | 19 => v = .pointer (some ⟨b, off + j * 5 + 1, none⟩)
  | 20 => v = .int .i64 kd
  | 21 => ∃ b : Bool, v = .bool b
  | 22 => v = .pointer (some ⟨bd, 0, none⟩)
  | 23 => ∃ b : Bool, v = .bool b
  | 24 => ∃ b : Bool, v = .bool b
  | _ => True

/-- What making a state gives: places that are open or closed, one a device. -/
def RetState (w : World) (bd n : Nat) (p : Int → Prop) (e : Ending) (w' : World) : Prop :=
  ∃ A c xs, e = .returned (.slice A xs.length c) ∧ xs.length = n ∧ (∀ x ∈ xs, p x) ∧ OI w' (fun g => w.heap.size ≤ g) A c xs ∧ Deck w' bd ∧ Fr w.heap.size bd w w'

set_option maxHeartbeats 1000000 in
theorem state_any (w : World) (bd : Nat) (h : Deck w bd) (A1 : Option Addr) (n1 c1 : Nat) (A2 : Option Addr) (c2 : Nat) (ds : List Dev) (S : Nat → Prop) (hS : ∀ b, S b → b ≠ bd) (hv : SV w S A2 (devsV ds)) (hl : ds.length ≤ 60) :
    Calls Tryd.prog 70 #[.pointer (some ⟨bd, 0, none⟩), .agg #[.slice A1 n1 c1, .slice A2 ds.length c2]] w (RetState w bd ds.length (fun x => x = 1 ∨ x = 2)) := by
  have hbdl := h.lt
  go_enter Tryd.func70, Tryd.ntmps70
  go_wp2_with (fail)
  have hb0 : (w.alloc (.cells #[.slice A1 n1 c1, .slice A2 ds.length c2] 26)).heap[w.heap.size]? = some (.cells #[.slice A1 n1 c1, .slice A2 ds.length c2] 26 (0, 0)) := heap_alloc_new w _
  have hd0 := h.below ((Below.refl _ _).alloc (Nat.le_refl _) (.cells #[.slice A1 n1 c1, .slice A2 ds.length c2] 26))
  have hf0 : Fr w.heap.size bd w (w.alloc (.cells #[.slice A1 n1 c1, .slice A2 ds.length c2] 26)) := Fr.of_below ((Below.refl _ _).alloc (Nat.le_refl _) _)
  have hz0 : (w.alloc (.cells #[.slice A1 n1 c1, .slice A2 ds.length c2] 26)).heap.size = w.heap.size + 1 := by simp
  generalize w.alloc (.cells #[.slice A1 n1 c1, .slice A2 ds.length c2] 26) = w0 at *
  obtain ⟨gb, hgb⟩ : ∃ gb, gb = w.heap.size := ⟨_, rfl⟩
  rw [← hgb] at hb0
  rw [← hgb]
  have Hb0 := Lib.hid hb0
  have Hgb := Lib.hid hgb
  have Hz0 := Lib.hid hz0
  clear hb0 hgb hz0
  go_loopg [5, 6] ds.length (fun g v i wr => ∃ (j : Nat) (A' : Option Addr) (c' : Nat) (ys : List Int), j + g = ds.length ∧ i = .int .i64 j ∧ v = .slice A' ys.length c' ∧ ys.length = j ∧ (∀ x ∈ ys, x = 1 ∨ x = 2) ∧ OI wr (fun g => gb + 1 ≤ g) A' c' ys ∧ Deck wr bd ∧ Fr (gb + 1) bd w0 wr)
  case atStart => exact ⟨0, none, 0, [], by omega, rfl, rfl, rfl, by simp, OI.nil _ _, hd0, Fr.refl _ _ _⟩
  case round =>
    obtain ⟨j, A', c', ys, hj, rfl, rfl, hyl, hys, hown, hdk, hfr⟩ := hrel
    have Hj := Lib.hid hj
    have Hyl := Lib.hid hyl
    have Hys := Lib.hid hys
    clear hj hyl hys
    have hgbd : gb ≠ bd := by have := Hgb.out; omega
    have hz : gb + 1 ≤ wr.heap.size := by have := hfr.size; have := Hz0.out; have := Hgb.out; omega
    have hgb : gb < wr.heap.size := by omega
    have hcb : wr.cell? ⟨gb, 1, none⟩ = some (.slice A2 ds.length c2) := by rw [cell_of_row wr gb 1 _ _ _ ((hfr.block gb (by omega) hgbd).trans Hb0.out)]; rfl
    by_cases hlt : j < ds.length
    · obtain ⟨b, off, rfl, hSb, hbl0, hlie⟩ := hv (by
        intro e; have := devsV_len ds; rw [e] at this; simp at this; omega)
      have hbd := hS b hSb
      have hbl : b < wr.heap.size := by have := Hgb.out; omega
      obtain ⟨kd, hkd⟩ : ∃ kd, kd = (ds[j]'hlt).kind := ⟨_, rfl⟩
      have hck : wr.cell? ⟨b, off + j * 5 + 1, none⟩ = some (.int .i64 kd) := by
        have e1 := devsV_at ds j _ (List.getElem?_eq_getElem hlt) 1 (by decide)
        have e2 := hlie (j * 5 + 1) (.int .i64 kd) (by rw [e1, hkd]; rfl)
        rw [← Nat.add_assoc] at e2
        refine (World.cell?_of_block ?_).trans e2
        have := Hgb.out
        rw [hfr.block b (by omega) hbd, hf0.block b (by omega) hbd]
      have Hck := Lib.hid hck
      have hcb' := hcb
      have Hcb := Lib.hid hcb'
      clear hck hkd hcb'
      have hlt' : (j : Int) < ds.length := by omega
      have hl' : (ds.length : Int) ≤ 60 := by omega
      go_upto_region 6 with fail
      go_cut [24] (fun v wx => (∃ b : Bool, v = .bool b) ∧ Fr wr.heap.size bd wr wx ∧ Deck wx bd)
      case first =>
        refine wp_region_ext0 (by kernel_rfl) 10 [15, 16, 17, 18, 19, 20, 21, 22, 23, 24] (fun w' => Fr wr.heap.size bd wr w' ∧ Deck w' bd) (fun w1 w2 => Fr w1.heap.size bd w1 w2) (fun d v _ => StT gb b off ds c2 j kd bd d v) (by kernel_rfl)
          ⟨⟨rfl, rfl, rfl, Nat.le_refl _, fun _ _ _ => rfl⟩, hdk.keep (fun _ _ => rfl) (Nat.le_refl _)⟩ (fun _ _ _ _ _ _ ht => ht) ?_ ?_
        · intro i o d hi ho hd f w1 hC hdep K hK
          clear hown hcb
          have hi' : i = 0 ∨ i = 1 ∨ i = 2 ∨ i = 3 ∨ i = 4 ∨ i = 5 ∨ i = 6 ∨ i = 7 ∨ i = 8 ∨ i = 9 := by omega
          rcases hi' with rfl | rfl | rfl | rfl | rfl | rfl | rfl | rfl | rfl | rfl
          · simp only [List.getElem?_toArray, List.getElem?_cons_zero, Option.some.injEq] at ho
            subst ho
            simp only [Option.some.injEq] at hd
            subst hd
            generalize hA : fr _ _ _ f = A at hK ⊢
            have e3 : A.tmps[3]?.getD undef = .pointer (some ⟨gb, 0, none⟩) := by rw [← hA]; exact fr_out _ _ _ _ 3 _ (by decide) rfl
            clear hA hdep
            go_simp
            exact hK _ _ (Fr.refl _ _ _) hC rfl
          · simp only [List.getElem?_toArray, List.getElem?_cons_zero, List.getElem?_cons_succ, Option.some.injEq] at ho
            subst ho
            simp only [Option.some.injEq] at hd
            subst hd
            have h15 : f 15 = .pointer (some ⟨gb, 1, none⟩) := hdep { on := 0, ground := .data } (by simp) rfl 15 rfl
            generalize hA : fr _ _ _ f = A at hK ⊢
            have e15 : A.tmps[15]?.getD undef = f 15 := by rw [← hA]; exact fr_in _ _ _ _ 15 (by decide) (by simp)
            clear hA hdep
            rw [h15] at e15
            clear h15
            have hcell : w1.cell? ⟨gb, 1, none⟩ = some (.slice (some ⟨b, off, none⟩) ds.length c2) := (World.cell?_of_block (hC.1.block gb hgb hgbd)).trans Hcb.out
            go_simp
            exact hK _ _ (Fr.refl _ _ _) hC rfl
          · simp only [List.getElem?_toArray, List.getElem?_cons_zero, List.getElem?_cons_succ, Option.some.injEq] at ho
            subst ho
            simp only [Option.some.injEq] at hd
            subst hd
            generalize hA : fr _ _ _ f = A at hK ⊢
            have e6 : A.tmps[6]?.getD undef = .int .i64 j := by rw [← hA]; exact fr_out _ _ _ _ 6 _ (by decide) rfl
            clear hA hdep
            go_simp
            exact hK _ _ (Fr.refl _ _ _) hC rfl
          · simp only [List.getElem?_toArray, List.getElem?_cons_zero, List.getElem?_cons_succ, Option.some.injEq] at ho
            subst ho
            simp only [Option.some.injEq] at hd
            subst hd
            have h16 : f 16 = .slice (some ⟨b, off, none⟩) ds.length c2 := hdep { on := 1, ground := .data } (by simp) rfl 16 rfl
            have h17 : f 17 = .int .i64 j := hdep { on := 2, ground := .data } (by simp) rfl 17 rfl
            generalize hA : fr _ _ _ f = A at hK ⊢
            have e16 : A.tmps[16]?.getD undef = f 16 := by rw [← hA]; exact fr_in _ _ _ _ 16 (by decide) (by simp)
            have e17 : A.tmps[17]?.getD undef = f 17 := by rw [← hA]; exact fr_in _ _ _ _ 17 (by decide) (by simp)
            clear hA hdep
            rw [h16] at e16
            clear h16
            rw [h17] at e17
            clear h17
            go_simp
            exact hK _ _ (Fr.refl _ _ _) hC rfl
          · simp only [List.getElem?_toArray, List.getElem?_cons_zero, List.getElem?_cons_succ, Option.some.injEq] at ho
            subst ho
            simp only [Option.some.injEq] at hd
            subst hd
            have h18 : f 18 = .pointer (some ⟨b, off + j * 5, none⟩) := hdep { on := 3, ground := .data } (by simp) rfl 18 rfl
            generalize hA : fr _ _ _ f = A at hK ⊢
            have e18 : A.tmps[18]?.getD undef = f 18 := by rw [← hA]; exact fr_in _ _ _ _ 18 (by decide) (by simp)
            clear hA hdep
            rw [h18] at e18
            clear h18
            go_simp
            exact hK _ _ (Fr.refl _ _ _) hC rfl
          · simp only [List.getElem?_toArray, List.getElem?_cons_zero, List.getElem?_cons_succ, Option.some.injEq] at ho
            subst ho
            simp only [Option.some.injEq] at hd
            subst hd
            have h19 : f 19 = .pointer (some ⟨b, off + j * 5 + 1, none⟩) := hdep { on := 4, ground := .data } (by simp) rfl 19 rfl
            generalize hA : fr _ _ _ f = A at hK ⊢
            have e19 : A.tmps[19]?.getD undef = f 19 := by rw [← hA]; exact fr_in _ _ _ _ 19 (by decide) (by simp)
            clear hA hdep
            rw [h19] at e19
            clear h19
            have hcell : w1.cell? ⟨b, off + j * 5 + 1, none⟩ = some (.int .i64 kd) := (World.cell?_of_block (hC.1.block b hbl hbd)).trans Hck.out
            go_simp
            exact hK _ _ (Fr.refl _ _ _) hC rfl
          · simp only [List.getElem?_toArray, List.getElem?_cons_zero, List.getElem?_cons_succ, Option.some.injEq] at ho
            subst ho
            simp only [Option.some.injEq] at hd
            subst hd
            have h20 : f 20 = .int .i64 kd := hdep { on := 5, ground := .data } (by simp) rfl 20 rfl
            generalize hA : fr _ _ _ f = A at hK ⊢
            have e20 : A.tmps[20]?.getD undef = f 20 := by rw [← hA]; exact fr_in _ _ _ _ 20 (by decide) (by simp)
            clear hA hdep
            rw [h20] at e20
            clear h20
            go_simp
            exact hK _ _ (Fr.refl _ _ _) hC ⟨_, rfl⟩
          · simp only [List.getElem?_toArray, List.getElem?_cons_zero, List.getElem?_cons_succ, Option.some.injEq] at ho
            subst ho
            simp only [Option.some.injEq] at hd
            subst hd
            generalize hA : fr _ _ _ f = A at hK ⊢
            have e0 : A.tmps[0]?.getD undef = .pointer (some ⟨bd, 0, none⟩) := by rw [← hA]; exact fr_out _ _ _ _ 0 _ (by decide) rfl
            clear hA hdep
            go_simp
            exact hK _ _ (Fr.refl _ _ _) hC rfl
          · simp only [List.getElem?_toArray, List.getElem?_cons_zero, List.getElem?_cons_succ, Option.some.injEq] at ho
            subst ho
            simp only [Option.some.injEq] at hd
            subst hd
            have h22 : f 22 = .pointer (some ⟨bd, 0, none⟩) := hdep { on := 7, ground := .data } (by simp) rfl 22 rfl
            generalize hA : fr _ _ _ f = A at hK ⊢
            have e22 : A.tmps[22]?.getD undef = f 22 := by rw [← hA]; exact fr_in _ _ _ _ 22 (by decide) (by simp)
            clear hA hdep
            rw [h22] at e22
            clear h22
            go_simp
            refine (one_any _ _ hC.2 _ (by decide)).mono ?_
            rintro e w2 ⟨b2, rfl, hd2, hg2, hz2⟩
            exact hK _ _ (Fr.of_grown hg2 (Nat.le_refl _)) ⟨hC.1.trans (Fr.of_grown hg2 hC.1.size), hd2⟩ ⟨_, rfl⟩
          · simp only [List.getElem?_toArray, List.getElem?_cons_zero, List.getElem?_cons_succ, Option.some.injEq] at ho
            subst ho
            simp only [Option.some.injEq] at hd
            subst hd
            have q21 : ∃ b : Bool, f 21 = .bool b := hdep { on := 6, ground := .data } (by simp) rfl 21 rfl
            have q23 : ∃ b : Bool, f 23 = .bool b := hdep { on := 8, ground := .data } (by simp) rfl 23 rfl
            generalize hA : fr _ _ _ f = A at hK ⊢
            have e21 : A.tmps[21]?.getD undef = f 21 := by rw [← hA]; exact fr_in _ _ _ _ 21 (by decide) (by simp)
            have e23 : A.tmps[23]?.getD undef = f 23 := by rw [← hA]; exact fr_in _ _ _ _ 23 (by decide) (by simp)
            clear hA hdep
            obtain ⟨v21, h21⟩ := q21
            rw [h21] at e21
            clear h21
            obtain ⟨v23, h23⟩ := q23
            rw [h23] at e23
            clear h23
            go_simp
            exact hK _ _ (Fr.refl _ _ _) hC ⟨_, rfl⟩
        · intro f w1 hC hall
          have q24 : ∃ b : Bool, f 24 = .bool b := hall 9 24 (by decide) rfl
          have H24 := Lib.hid q24
          clear hall q24
          simp only [fr, upd, List.mapIdx_cons, List.mapIdx_nil]
          simp
          go_wp2_with fail
          go_meet
          case rel => exact ⟨H24.out, hC.1, hC.2⟩
      case rest =>
        obtain ⟨⟨bb, rfl⟩, hfx, hdx⟩ := hcut
        obtain ⟨wx, rfl⟩ : ∃ wx : World, wx = wc := ⟨_, rfl⟩
        have hown' : OI wx (fun g => gb + 1 ≤ g) A' c' ys := OV.keep1 hown (fun k hk => by
          have := OV.block hown k hk
          exact hfx.block k this.2 (by have := this.1; have := Hgb.out; omega))
        have hfr' : Fr (gb + 1) bd w0 wx := hfr.trans ⟨hfx.os, hfx.tape, hfx.output, hfx.size, fun k hk hn => hfx.block k (by omega) hn⟩
        have hzx : gb + 1 ≤ wx.heap.size := by have := hfx.size; omega
        clear hown hfx hdk hfr hcb Hcb Hck
        cases bb
        all_goals
          go_wp2_with (at_builtin; go_must (refine wpList_push (B := gb + 1) rfl (.tmp 25) (.tmp 27) rfl rfl rfl rfl (hown'.keep (Kept.alloc _ _ _)) (new_cell _ _ _) (by have := Hyl.out; omega) (by simp; omega) ?_); intro A3 c3 w3 ho3 hb3 hg3 _)
          go_roundg (gk - 1)
          case measure => have := Hj.out; omega
          case rel =>
            have := Hj.out
            have := Hyl.out
            have := Hgb.out
            refine ⟨j + 1, A3, c3, _, by omega, by go_num, by simp, by simp; omega, fun x hx => ?_, ho3, (hdx.below ((Below.refl _ _).alloc (Nat.le_refl _) _)).belowB hb3 (by omega), hfr'.trans ((Fr.of_below ((Below.refl _ _).alloc hzx _)).trans (Fr.of_below hb3))⟩
            rcases List.mem_append.1 hx with hx | hx
            · exact Hys.out x hx
            · simp at hx; subst hx; decide
    · go_wp2_with (fail)
      go_ret
      have := Hgb.out
      have := Hyl.out
      have hj' := Hj.out
      refine ⟨A', c', ys, rfl, by omega, Hys.out, hown.mono (fun g _ hg => by omega), hdk, hf0.trans ⟨hfr.os, hfr.tape, hfr.output, hfr.size, fun k hk hn => hfr.block k (by omega) hn⟩⟩

theorem masks_any (w : World) (bd : Nat) (h : Deck w bd) (A1 : Option Addr) (n1 c1 : Nat) (A2 : Option Addr) (c2 : Nat) (ds : List Dev) (S : Nat → Prop) (hS : ∀ b, S b → b ≠ bd) (hv : SV w S A2 (devsV ds)) (hl : ds.length ≤ 60) (most : Nat) (hm : most ≤ 1000) :
    Calls Tryd.prog 44 #[.pointer (some ⟨bd, 0, none⟩), .agg #[.slice A1 n1 c1, .slice A2 ds.length c2], .int .i64 most] w (RetState w bd ds.length (fun x => 1 ≤ x ∧ x ≤ 3)) := by
  have hbdl := h.lt
  go_enter Tryd.func44, Tryd.ntmps44
  go_wp2_with (fail)
  have hb0 : Below w.heap.size w (w.alloc (.cells #[.slice A1 n1 c1, .slice A2 ds.length c2] 26)) := (Below.refl _ _).alloc (Nat.le_refl _) _
  have hz0 : (w.alloc (.cells #[.slice A1 n1 c1, .slice A2 ds.length c2] 26)).heap.size = w.heap.size + 1 := by simp
  generalize w.alloc (.cells #[.slice A1 n1 c1, .slice A2 ds.length c2] 26) = w0 at *
  refine (state_any w0 bd (h.below hb0) A1 n1 c1 A2 c2 ds S hS (hv.keep (Kept.of_below hb0)) hl).mono ?_
  rintro e w1 ⟨A, c, xs0, rfl, hxl, hxs, hown, hd1, hf1⟩
  have Hxl := Lib.hid hxl
  have hn : xs0.length ≤ 60 := by omega
  obtain ⟨n, hnn⟩ : ∃ n, n = xs0.length := ⟨_, rfl⟩
  rw [← hnn]
  rw [← hnn] at hn
  have Hnn := Lib.hid hnn
  clear hxl hnn
  have hf0 : Fr w.heap.size bd w w1 := (Fr.of_below hb0).trans ⟨hf1.os, hf1.tape, hf1.output, hf1.size, fun k hk hne => hf1.block k (by omega) hne⟩
  go_wp2_with (fail)
  go_loopg [8] most (fun g i wr => ∃ (j : Nat) (xs : List Int), j + g = most ∧ i = .int .i64 j ∧ xs.length = n ∧ (∀ x ∈ xs, 1 ≤ x ∧ x ≤ 3) ∧ OI wr (fun g => w.heap.size ≤ g) A c xs ∧ Deck wr bd ∧ Fr w.heap.size bd w1 wr)
  case atStart => exact ⟨0, xs0, by omega, rfl, Hnn.out.symm, fun x hx => by rcases hxs x hx with rfl | rfl <;> decide, hown.mono (fun g _ hg => by omega), hd1, Fr.refl _ _ _⟩
  case round =>
    obtain ⟨j, xs, hj, rfl, hxl, hx3, hox, hdx, hfx⟩ := hrel
    have Hj := Lib.hid hj
    have Hl := Lib.hid hxl
    have Hx3 := Lib.hid hx3
    clear hj hxl hx3
    by_cases hgo : j < most ∧ 0 < n
    · obtain ⟨hjm, hn0⟩ := hgo
      go_wp2_with (fail)
      refine (one_any _ _ hdx _ (by decide)).mono ?_
      rintro e w2 ⟨bb, rfl, hd2, hg2, hz2⟩
      have ho2 : OI w2 (fun g => w.heap.size ≤ g) A c xs := OV.keep1 hox (fun k hk => by
        have := OV.block hox k hk
        exact hg2.block k this.2 (by intro e; injection e with e; have := this.1; omega))
      have hf2 : Fr w.heap.size bd w1 w2 := hfx.trans (Fr.of_grown hg2 (by have := hf0.size; have := hfx.size; omega))
      cases bb
      · go_wp2_with (fail)
        go_roundg (gk - 1)
        case measure => have := Hj.out; omega
        case rel =>
          have := Hj.out
          exact ⟨j + 1, xs, by omega, by go_num, Hl.out, Hx3.out, ho2, hd2, hf2⟩
      · go_wp2_with (fail)
        refine (next_any _ _ hd2 _ (by omega)).mono ?_
        rintro e w3 ⟨r, rfl, hr, _, hd3, hg3, hz3⟩
        have hr2 : (r : Int) < n := hr (by omega)
        have hr3 : r < xs.length := by have := Hl.out; omega
        have ho3 : OI w3 (fun g => w.heap.size ≤ g) A c xs := OV.keep1 ho2 (fun k hk => by
          have := OV.block ho2 k hk
          exact hg3.block k this.2 (by intro e; injection e with e; have := this.1; omega))
        have hf3 : Fr w.heap.size bd w1 w3 := hf2.trans (Fr.of_grown hg3 (by have := hf0.size; have := hf2.size; omega))
        obtain ⟨g, off, rfl, hgs, hgl, hc, hfz⟩ := ho3.at_ hr3
        have ho4 := ho3.set r 3
        have hr4 : r < n := by omega
        clear hr
        go_wp2_with (fail)
        go_roundg (gk - 1)
        case measure => have := Hj.out; omega
        case rel =>
          have := Hj.out
          refine ⟨j + 1, _, by omega, by go_num, by simpa using Hl.out, fun x hx => ?_, ho4, hd3.keep (fun k hk => Below.heap_setCell _ _ _ _ (by show k ≠ g; omega)) (by simp [World.setCell]), hf3.trans ⟨rfl, rfl, rfl, by simp [World.setCell], fun k hk _ => Below.heap_setCell _ _ _ _ (by show k ≠ g; omega)⟩⟩
          rcases List.mem_or_eq_of_mem_set hx with hx | rfl
          · exact Hx3.out x hx
          · decide
    · have hfin : ¬ (j : Int) < most ∨ n = 0 := by omega
      rcases hfin with hfin | hfin
      · go_wp2_with (fail)
        go_ret
        exact ⟨A, c, xs, by rw [Hl.out]; rfl, by rw [Hl.out, Hnn.out, Hxl.out], Hx3.out, hox, hdx, hf0.trans hfx⟩
      · subst hfin
        by_cases hjm : j < most
        all_goals
          go_wp2_with (fail)
          go_ret
          exact ⟨A, c, xs, by rw [Hl.out]; rfl, by rw [Hl.out, Hnn.out, Hxl.out], Hx3.out, hox, hdx, hf0.trans hfx⟩
end Go.Proofs.YtglhplddjjoggaaDoor

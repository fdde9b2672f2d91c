/-
  The walk of supply.Worst (masks without error).
-/
import Derived.Test.YtgpcojmdfmngeaaDoorGe
import Derived.Test.YtgpcojmdfmngeaaDoorPMsk
import Derived.Test.YtgpcojmdfmngeaaDoorL06a
namespace Go.Proofs.YtgpcojmdfmngeaaDoor
open Go.RowKit
set_option maxHeartbeats 400000
set_option maxRecDepth 100000

theorem goes_isW : Goes 125 := fun args w => by kernel_rfl
theorem mmaskW_any (w : World) (h : TabC w) (ht : Tab w) (S : Nat → Prop) (A1 A2 : Option Addr) (c1 c2 : Nat) (ns : List Node) (ds : List Dev) (hn : NetIn w S A1 A2 ns ds) (hl1 : ns.length ≤ 65536) (hl2 : ds.length ≤ 65536)
    (U : Option Addr) (cu : Nat) (st : List Int) (hs : SI w S U st) (hsl : st.length ≤ 65536) :
    Calls Tryd.prog 45 #[.agg #[.slice A1 ns.length c1, .slice A2 ds.length c2], .slice U st.length cu] w fun e w' => e = .returned (.int .i64 (maskC isMask ns ds st)) ∧ Below w.heap.size w w' := by
  have hb := (Below.refl w.heap.size w).alloc (Nat.le_refl _) (.cells #[.slice A1 ns.length c1, .slice A2 ds.length c2] 26)
  have HC := Lib.hid (mcheck_any 125 goes_isW isMask is_any _ (h.below hb) (ht.below hb) S A1 A2 c1 c2 ns ds (hn.below hb) hl1 hl2 U cu st (hs.keep (Kept.of_below hb)) hsl)
  go_enter Tryd.func45, Tryd.ntmps45
  go_wp2_with (fail)
  refine (HC.out).mono ?_
  rintro e w1 ⟨rfl, hb1⟩
  go_wp2_with (fail)
  go_ret
  exact ⟨rfl, hb.trans (hb1.mono hb.size)⟩

/-- the least of the numbers of supplied customers -/
def leastF (f : List Int → Int) (a : Int) (ss : List (List Int)) : Int := ss.foldl (fun a s => if f s < a then f s else a) a
theorem leastF_snoc (f : List Int → Int) (a : Int) (ss : List (List Int)) (s : List Int) : leastF f a (ss ++ [s]) = if f s < leastF f a ss then f s else leastF f a ss := by unfold leastF; rw [List.foldl_append]; rfl
def kF (ns : List Node) (ds : List Dev) (s : List Int) : Int := custF ns (supL ns ds s)
def worstL (ns : List Node) (ds : List Dev) (ss : List (List Int)) : Int := leastF (kF ns ds) (kF ns ds (ss[0]?.getD [])) (ss.drop 1)

set_option maxHeartbeats 4000000 in
theorem Worst_ok (w : World) (h : TabC w) (ht : Tab w) (S : Nat → Prop) (A1 A2 : Option Addr) (c1 c2 : Nat) (ns : List Node) (ds : List Dev) (hn : NetIn w S A1 A2 ns ds) (hc : checkL ns ds = 0)
    (U : Option Addr) (cu : Nat) (ms : List Int) (hs : SI w S U ms) (hml : ms.length = ds.length) (hm3 : ∀ x ∈ ms, 1 ≤ x ∧ x ≤ 3) (h8 : num3 ms ≤ 8) :
    Calls Tryd.prog 101 #[.agg #[.slice A1 ns.length c1, .slice A2 ds.length c2], .slice U ms.length cu] w (RetPair w (worstL ns ds (allL ms), 0)) := by
  have hb := (Below.refl w.heap.size w).alloc (Nat.le_refl _) (.cells #[.slice A1 ns.length c1, .slice A2 ds.length c2] 26)
  have HD := Lib.hid (checkL_zero hc)
  have Hcu := Lib.hid (checkL_cust hc)
  have hfew := HD.out.few
  have hdev := HD.out.dev
  have HC := mmaskW_any _ (h.below hb) (ht.below hb) S A1 A2 c1 c2 ns ds (hn.below hb) (by omega) (by omega) U cu ms (hs.keep (Kept.of_below hb)) (by omega)
  have hmk : maskC isMask ns ds ms = 0 := by
    unfold maskC
    rw [if_neg (by simpa using hc), if_neg (by simp [hml]), if_pos (masks_all hm3)]
  rw [hmk] at HC
  have HC := Lib.hid HC
  have HB := Lib.hid (fun (w' : World) (hb' : Below w.heap.size w w') => all_cap w' (ht.below hb') _ U cu ms (hs.keep (Kept.of_below hb')) (by omega) (masks_all hm3) (by rw [unk_len]; omega))
  have Hget := Lib.hid (allL_get ms)
  have Hst := Lib.hid (fun (k : Nat) (hk : k < (allL ms).length) => show (allL ms)[k].length = ds.length from by rw [Hget.out k hk, stF_len]; exact hml)
  have hal := allL_len ms
  have hN1 : 1 ≤ 2 ^ num3 ms := Nat.one_le_two_pow
  have hu6 : 2 ^ num3 ms ≤ 256 := Nat.le_trans (Nat.pow_le_pow_right (by omega) h8) (by decide)
  have hmsl : ms.length ≤ 65536 := by omega
  clear hmk Hget hc h8 hml
  obtain ⟨N, hN⟩ : ∃ N, N = 2 ^ num3 ms := ⟨_, rfl⟩
  rw [← hN] at hal hu6 hN1
  have Hal := Lib.hid hal
  clear hN hal
  go_enter Tryd.func101, Tryd.ntmps101
  go_wp2_with (fail)
  refine (HC.out).mono ?_
  rintro e w1 ⟨rfl, hb1⟩
  have hbA := hb.trans (hb1.mono hb.size)
  have Hbox := Lib.hid (box_at hb1)
  have n0 : w1.cell? ⟨w.heap.size, 0, none⟩ = some (.slice A1 ns.length c1) := by rw [cell_of_row w1 _ 0 _ _ _ Hbox.out]; rfl
  have n1 : w1.cell? ⟨w.heap.size, 1, none⟩ = some (.slice A2 ds.length c2) := by rw [cell_of_row w1 _ 1 _ _ _ Hbox.out]; rfl
  have hn1 := (hn.below hbA).mono (T := fun _ => True) (fun _ _ _ => trivial)
  clear Hbox hb1 hb HC hn
  go_wp2_with (fail)
  refine (HB.out w1 hbA).mono ?_
  rintro e w5 ⟨Aa, ca, rfl, sR, hb5, hcN⟩
  have n0 := (hb5.cell (p := ⟨w.heap.size, 0, none⟩) (World.block_lt_of_cell? _ _ n0)).trans n0
  have n1 := (hb5.cell (p := ⟨w.heap.size, 1, none⟩) (World.block_lt_of_cell? _ _ n1)).trans n1
  have hn5 := hn1.below hb5
  have hb05 := hbA.trans (hb5.mono hbA.size)
  clear hb5 hn1 hbA HB
  have Hw := Lib.hid (show worstL ns ds (allL ms) = leastF (kF ns ds) (kF ns ds ((allL ms)[0]?.getD [])) ((allL ms).drop 1) from rfl)
  generalize worstL ns ds (allL ms) = wl at *
  generalize allL ms = all at *
  have h0a : 0 < all.length := by rw [Hal.out]; omega
  obtain ⟨s0, hs0⟩ : ∃ s0, s0 = all[0] := ⟨_, rfl⟩
  have Hs0 := Lib.hid hs0
  have Hs0l := Lib.hid (show s0.length = ds.length by rw [hs0]; exact Hst.out 0 h0a)
  rw [List.getElem?_eq_getElem h0a, ← hs0] at Hw
  clear hs0
  rw [Hal.out] at hcN ⊢
  have HcN := Lib.hid hcN
  clear hcN
  go_upto_region 7 with (fail)
  go_cut [9] (fun v9 wx => v9 = .int .i64 (custF ns (supL ns ds s0)) ∧ Below w5.heap.size w5 wx)
  case first =>
    refine wp_region_ext1 (by kernel_rfl) 8 [26, 27, 28, 29, 30, 31, 32, 9] (fun w' => Below w5.heap.size w5 w') (fun a b => Below a.heap.size a b) (fun d vv w' => if d = 26 then vv = .agg #[.slice A1 ns.length c1, .slice A2 ds.length c2] else if d = 27 then vv = .agg #[.slice A1 ns.length c1, .slice A2 ds.length c2] else if d = 28 then vv = .slice Aa N ca else if d = 32 then vv = .int .i64 (custF ns (supL ns ds s0)) else if d = 9 then vv = .int .i64 (custF ns (supL ns ds s0)) else if d = 29 then ∃ b off, Aa = some ⟨b, off, none⟩ ∧ vv = .pointer (some ⟨b, off, none⟩) else if d = 30 then ∃ A' c', vv = .slice A' s0.length c' ∧ SI w' (fun _ => True) A' s0 else if d = 31 then ∃ A' c', vv = .slice A' (supL ns ds s0).length c' ∧ SI w' (fun _ => True) A' (supL ns ds s0) else False) (by kernel_rfl) ((Below.refl _ _).drew) (fun d v w1 w2 _ hE hT => by
        by_cases h30 : d = 30
        · subst h30; obtain ⟨A', c', a1, a2⟩ := hT; exact ⟨A', c', a1, a2.keep (Kept.of_below hE)⟩
        by_cases h31 : d = 31
        · subst h31; obtain ⟨A', c', a1, a2⟩ := hT; exact ⟨A', c', a1, a2.keep (Kept.of_below hE)⟩
        simp only [if_neg h30, if_neg h31] at hT ⊢
        exact hT) ?_ ?_
    · intro i o d hi ho hd f w1 hC hdep K hK
      have hi' : i = 0 ∨ i = 1 ∨ i = 2 ∨ i = 3 ∨ i = 4 ∨ i = 5 ∨ i = 6 ∨ i = 7 := by omega
      rcases hi' with rfl | rfl | rfl | rfl | rfl | rfl | rfl | rfl
      · simp only [List.getElem?_toArray, List.getElem?_cons_zero, Option.some.injEq] at ho
        subst ho
        simp only [Option.some.injEq] at hd
        subst hd
        generalize hA : fr _ _ _ f = A at hK ⊢
        have e2 : A.tmps[2]?.getD undef = .pointer (some ⟨w.heap.size, 0, none⟩) := by rw [← hA]; exact fr_out _ _ _ _ 2 _ (by decide) rfl
        clear hA hdep
        have hcell0 := (hC.cell (p := ⟨w.heap.size, 0, none⟩) (World.block_lt_of_cell? _ _ n0)).trans n0
        have hcell1 := (hC.cell (p := ⟨w.heap.size, 1, none⟩) (World.block_lt_of_cell? _ _ n1)).trans n1
        go_simp
        exact hK _ _ (Below.refl _ _) hC rfl
      · simp only [List.getElem?_toArray, List.getElem?_cons_zero, List.getElem?_cons_succ, Option.some.injEq] at ho
        subst ho
        simp only [Option.some.injEq] at hd
        subst hd
        generalize hA : fr _ _ _ f = A at hK ⊢
        have e2 : A.tmps[2]?.getD undef = .pointer (some ⟨w.heap.size, 0, none⟩) := by rw [← hA]; exact fr_out _ _ _ _ 2 _ (by decide) rfl
        clear hA hdep
        have hcell0 := (hC.cell (p := ⟨w.heap.size, 0, none⟩) (World.block_lt_of_cell? _ _ n0)).trans n0
        have hcell1 := (hC.cell (p := ⟨w.heap.size, 1, none⟩) (World.block_lt_of_cell? _ _ n1)).trans n1
        go_simp
        exact hK _ _ (Below.refl _ _) hC rfl
      · simp only [List.getElem?_toArray, List.getElem?_cons_zero, List.getElem?_cons_succ, Option.some.injEq] at ho
        subst ho
        simp only [Option.some.injEq] at hd
        subst hd
        generalize hA : fr _ _ _ f = A at hK ⊢
        have e7 : A.tmps[7]?.getD undef = .slice Aa N ca := by rw [← hA]; exact fr_out _ _ _ _ 7 _ (by decide) rfl
        clear hA hdep
        go_simp
        exact hK _ _ (Below.refl _ _) hC rfl
      · simp only [List.getElem?_toArray, List.getElem?_cons_zero, List.getElem?_cons_succ, Option.some.injEq] at ho
        subst ho
        simp only [Option.some.injEq] at hd
        subst hd
        have h28 : f 28 = .slice Aa N ca := hdep { on := 2, ground := .data } (by simp) rfl 28 rfl
        generalize hA : fr _ _ _ f = A at hK ⊢
        have e28 : A.tmps[28]?.getD undef = f 28 := by rw [← hA]; exact fr_in _ _ _ _ 28 (by decide) (by simp)
        clear hA hdep
        rw [h28] at e28
        clear h28
        obtain ⟨b0, off0, A', c', ha, hc, _⟩ := (sR.keep (Kept.of_below hC)).at_ (k := 0) (by rw [Hal.out]; omega)
        subst ha
        clear hc
        have hn0 : 0 < N := by omega
        go_simp
        exact hK _ _ (Below.refl _ _) hC ⟨b0, off0, rfl, rfl⟩
      · simp only [List.getElem?_toArray, List.getElem?_cons_zero, List.getElem?_cons_succ, Option.some.injEq] at ho
        subst ho
        simp only [Option.some.injEq] at hd
        subst hd
        have h29 : ∃ b off, Aa = some ⟨b, off, none⟩ ∧ f 29 = .pointer (some ⟨b, off, none⟩) := hdep { on := 3, ground := .data } (by simp) rfl 29 rfl
        generalize hA : fr _ _ _ f = A at hK ⊢
        have e29 : A.tmps[29]?.getD undef = f 29 := by rw [← hA]; exact fr_in _ _ _ _ 29 (by decide) (by simp)
        clear hA hdep
        obtain ⟨b0, off0, ha0, h29⟩ := h29
        rw [h29] at e29
        have Hf29 := Lib.hid h29
        clear h29
        obtain ⟨b1, off1, A4, c4, ha, hc, _, s4⟩ := (sR.keep (Kept.of_below hC)).at_ (k := 0) (by rw [Hal.out]; omega)
        rw [ha0] at ha
        injection ha with ha
        injection ha with ha ha'
        subst ha ha'
        rw [← Hs0.out] at s4 hc
        rw [Nat.add_zero] at hc
        clear ha0
        go_simp
        exact hK _ _ (Below.refl _ _) hC ⟨A4, c4, rfl, s4.mono (fun _ _ _ => trivial)⟩
      · simp only [List.getElem?_toArray, List.getElem?_cons_zero, List.getElem?_cons_succ, Option.some.injEq] at ho
        subst ho
        simp only [Option.some.injEq] at hd
        subst hd
        have h27 : f 27 = .agg #[.slice A1 ns.length c1, .slice A2 ds.length c2] := hdep { on := 1, ground := .data } (by simp) rfl 27 rfl
        have h30 : ∃ A' c', f 30 = .slice A' s0.length c' ∧ SI w1 (fun _ => True) A' s0 := hdep { on := 4, ground := .data } (by simp) rfl 30 rfl
        generalize hA : fr _ _ _ f = A at hK ⊢
        have e27 : A.tmps[27]?.getD undef = f 27 := by rw [← hA]; exact fr_in _ _ _ _ 27 (by decide) (by simp)
        have e30 : A.tmps[30]?.getD undef = f 30 := by rw [← hA]; exact fr_in _ _ _ _ 30 (by decide) (by simp)
        clear hA hdep
        rw [h27] at e27
        clear h27
        obtain ⟨Ak, ck, h30, l1⟩ := h30
        rw [h30] at e30
        have Hf30 := Lib.hid h30
        clear h30
        go_simp
        refine (supplied_any w1 (fun _ => True) A1 A2 c1 c2 ns ds (hn5.below hC) HD.out Ak ck s0 l1 Hs0l.out).mono ?_
        rintro e' w2 ⟨A5, c5, rfl, ho5, hb2⟩
        exact hK _ _ hb2 (hC.trans (hb2.mono hC.size)) ⟨A5, c5, rfl, (OI.si ho5).mono (fun _ _ _ => trivial)⟩
      · simp only [List.getElem?_toArray, List.getElem?_cons_zero, List.getElem?_cons_succ, Option.some.injEq] at ho
        subst ho
        simp only [Option.some.injEq] at hd
        subst hd
        have h26 : f 26 = .agg #[.slice A1 ns.length c1, .slice A2 ds.length c2] := hdep { on := 0, ground := .data } (by simp) rfl 26 rfl
        have h31 : ∃ A' c', f 31 = .slice A' (supL ns ds s0).length c' ∧ SI w1 (fun _ => True) A' (supL ns ds s0) := hdep { on := 5, ground := .data } (by simp) rfl 31 rfl
        generalize hA : fr _ _ _ f = A at hK ⊢
        have e26 : A.tmps[26]?.getD undef = f 26 := by rw [← hA]; exact fr_in _ _ _ _ 26 (by decide) (by simp)
        have e31 : A.tmps[31]?.getD undef = f 31 := by rw [← hA]; exact fr_in _ _ _ _ 31 (by decide) (by simp)
        clear hA hdep
        rw [h26] at e26
        clear h26
        obtain ⟨Ak, ck, h31, l1⟩ := h31
        rw [h31] at e31
        have Hf31 := Lib.hid h31
        clear h31
        go_simp
        refine (customers_any w1 _ _ A1 A2 c1 c2 ns ds (hn5.below hC) Hcu.out Ak ck (supL ns ds s0) l1 (by have := supL_len ns ds s0; omega) (supL_in ns ds s0)).mono ?_
        rintro e' w2 ⟨rfl, hb2⟩
        exact hK _ _ hb2 (hC.trans (hb2.mono hC.size)) rfl
      · simp only [List.getElem?_toArray, List.getElem?_cons_zero, List.getElem?_cons_succ, Option.some.injEq] at ho
        subst ho
        simp only [Option.some.injEq] at hd
        subst hd
        have h32 : f 32 = .int .i64 (custF ns (supL ns ds s0)) := hdep { on := 6, ground := .data } (by simp) rfl 32 rfl
        generalize hA : fr _ _ _ f = A at hK ⊢
        have e32 : A.tmps[32]?.getD undef = f 32 := by rw [← hA]; exact fr_in _ _ _ _ 32 (by decide) (by simp)
        clear hA hdep
        rw [h32] at e32
        clear h32
        go_simp
        exact hK _ _ (Below.refl _ _) hC rfl
    · intro f w1 hC hall
      have q0 : f 9 = .int .i64 (custF ns (supL ns ds s0)) := hall 7 9 (by decide) rfl
      have H0 := Lib.hid q0
      clear hall q0
      simp only [fr, upd, List.mapIdx_cons, List.mapIdx_nil]
      simp
      go_wp2_with fail
      go_meet
      case rel => exact ⟨H0.out, hC⟩
  case rest =>
    obtain ⟨w6, rfl⟩ : ∃ W0, W0 = wc := ⟨_, rfl⟩
    obtain ⟨rfl, hb6⟩ := hcut
    have n0 := (hb6.cell (p := ⟨w.heap.size, 0, none⟩) (World.block_lt_of_cell? _ _ n0)).trans n0
    have n1 := (hb6.cell (p := ⟨w.heap.size, 1, none⟩) (World.block_lt_of_cell? _ _ n1)).trans n1
    have hn6 := hn5.below hb6
    have sR := sR.keep (Kept.of_below hb6)
    have hb06 := hb05.trans (hb6.mono hb05.size)
    obtain ⟨b0, o0, A0, c0, rfl, hc0, hcap0, -⟩ := sR.at_ h0a
    clear hn5 hb6 hb05 hc0 hcap0
    have H0 := Lib.hid (show custF ns (supL ns ds s0) = kF ns ds s0 from rfl)
    rw [H0.out]
    clear H0
    have hwl : wl = leastF (kF ns ds) (kF ns ds s0) (all.drop 1) := Hw.out
    have Hwl := Lib.hid hwl
    clear hwl Hw
    by_cases hN2 : N = 1
    · have hd1 : all.drop 1 = [] := List.drop_of_length_le (by rw [Hal.out]; omega)
      have Hwl := Lib.hid (show wl = kF ns ds s0 by rw [Hwl.out, hd1]; rfl)
      clear hd1
      subst hN2
      generalize kF ns ds s0 = k0 at *
      go_wp2_with (fail)
      all_goals
        go_loopg [9, 36] 0 (fun _ v i wr => v = .int .i64 k0 ∧ i = .int .i64 0 ∧ wr = w6)
        case atStart => exact ⟨rfl, rfl, rfl⟩
        case round =>
          obtain ⟨rfl, rfl, rfl⟩ := hrel
          go_wp2_with (fail)
          go_ret2
          rw [Hwl.out]
          exact ⟨rfl, hb06⟩
    · have hca : ¬ ca = 1 := by have := HcN.out; omega
      have hd : ∀ j, j < N - 1 → ∃ hj : j + 1 < all.length, leastF (kF ns ds) (kF ns ds s0) ((all.drop 1).take (j + 1)) = if kF ns ds all[j + 1] < leastF (kF ns ds) (kF ns ds s0) ((all.drop 1).take j) then kF ns ds all[j + 1] else leastF (kF ns ds) (kF ns ds s0) ((all.drop 1).take j) := fun j hj => by
        have hj1 : j + 1 < all.length := by rw [Hal.out]; omega
        refine ⟨hj1, ?_⟩
        have hjd : j < (all.drop 1).length := by rw [List.length_drop]; omega
        rw [List.take_succ_eq_append_getElem hjd, leastF_snoc]
        simp
      have Hd := Lib.hid hd
      clear hd
      go_wp2_with (fail)
      go_loopg [9, 36] (N - 1) (fun g v i wr => ∃ j : Nat, j + g = N - 1 ∧ i = .int .i64 j ∧ v = .int .i64 (leastF (kF ns ds) (kF ns ds s0) ((all.drop 1).take j)) ∧ Below w6.heap.size w6 wr)
      case atStart => exact ⟨0, by omega, rfl, rfl, Below.refl _ _⟩
      case round =>
        obtain ⟨j, hj, rfl, rfl, hB⟩ := hrel
        have Hj := Lib.hid hj
        clear hj
        obtain ⟨wi, rfl⟩ : ∃ x, x = wr := ⟨_, rfl⟩
        by_cases hlt : j < N - 1
        · obtain ⟨hj1, hst⟩ := Hd.out j hlt
          obtain ⟨b1, o1, Ar, cr, e1, hc, _, sRj⟩ := (sR.keep (Kept.of_below hB)).at_ hj1
          injection e1 with e1
          injection e1 with e1 e2
          subst e1 e2
          have sRj := sRj.mono (T := fun _ => True) (fun _ _ _ => trivial)
          have hsjl := Lib.hid (Hst.out (j + 1) hj1)
          generalize leastF (kF ns ds) (kF ns ds s0) ((all.drop 1).take j) = best at *
          have HS := Lib.hid hst
          clear hst
          generalize all[j + 1] = sj at *
          have n0 := (hB.cell (p := ⟨w.heap.size, 0, none⟩) (World.block_lt_of_cell? _ _ n0)).trans n0
          have n1 := (hB.cell (p := ⟨w.heap.size, 1, none⟩) (World.block_lt_of_cell? _ _ n1)).trans n1
          have hn5 := hn6.below hB
          rw [show o0 + (j + 1) = o0 + 1 + j by omega] at hc
          go_upto_region 11 with (fail)
          refine wp_region_extX (by kernel_rfl) 8 [40, 41, 42, 43, 44, 45, 46, 9] (fun w' => Below wi.heap.size wi w') (fun a b => Below a.heap.size a b) (fun d vv w' => if d = 40 then vv = .int .i64 best else if d = 41 then vv = .agg #[.slice A1 ns.length c1, .slice A2 ds.length c2] else if d = 42 then vv = .agg #[.slice A1 ns.length c1, .slice A2 ds.length c2] else if d = 43 then vv = .slice Ar sj.length cr else if d = 45 then vv = .int .i64 (custF ns (supL ns ds sj)) else if d = 46 then vv = .int .i64 (if custF ns (supL ns ds sj) < best then custF ns (supL ns ds sj) else best) else if d = 9 then vv = .int .i64 (if custF ns (supL ns ds sj) < best then custF ns (supL ns ds sj) else best) else if d = 44 then ∃ A' c', vv = .slice A' (supL ns ds sj).length c' ∧ SI w' (fun _ => True) A' (supL ns ds sj) else False) (fun dn f _ => (dn 7 = false → f 9 = .int .i64 best) ∧ (dn 7 = true → dn 0 = true)) (by kernel_rfl) ((Below.refl _ _).drew) (⟨fun _ => rfl, fun h => by cases h⟩) (fun d v w1 w2 _ hE hT => by
              by_cases h44 : d = 44
              · subst h44; obtain ⟨A', c', a1, a2⟩ := hT; exact ⟨A', c', a1, a2.keep (Kept.of_below hE)⟩
              simp only [if_neg h44] at hT ⊢
              exact hT) ?_ ?_
          · intro i o d hi ho hd dn f w1 hC hX hT hni hdn K hK
            have hi' : i = 0 ∨ i = 1 ∨ i = 2 ∨ i = 3 ∨ i = 4 ∨ i = 5 ∨ i = 6 ∨ i = 7 := by omega
            rcases hi' with rfl | rfl | rfl | rfl | rfl | rfl | rfl | rfl
            · simp only [List.getElem?_toArray, List.getElem?_cons_zero, Option.some.injEq] at ho
              subst ho
              simp only [Option.some.injEq] at hd
              subst hd
              have h9 : f 9 = .int .i64 best := hX.1 (by cases h7 : dn 7 with | false => rfl | true => exact absurd (hX.2 h7) (by rw [hni]; decide))
              generalize hA : fr _ _ _ f = A at hK ⊢
              have e9 : A.tmps[9]?.getD undef = f 9 := by rw [← hA]; exact fr_in _ _ _ _ 9 (by decide) (by simp)
              clear hA
              rw [h9] at e9
              clear h9
              have HX := Lib.hid hX
              have HT := Lib.hid hT
              have HN := Lib.hid hni
              have HDN := Lib.hid hdn
              clear hX hT hni hdn
              go_simp
              exact hK _ _ (Below.refl _ _) hC rfl ⟨fun h => by simpa using HX.out.1 (by simpa using h), fun _ => by simp⟩
            · simp only [List.getElem?_toArray, List.getElem?_cons_zero, List.getElem?_cons_succ, Option.some.injEq] at ho
              subst ho
              simp only [Option.some.injEq] at hd
              subst hd
              generalize hA : fr _ _ _ f = A at hK ⊢
              have e2 : A.tmps[2]?.getD undef = .pointer (some ⟨w.heap.size, 0, none⟩) := by rw [← hA]; exact fr_out _ _ _ _ 2 _ (by decide) rfl
              clear hA
              have HX := Lib.hid hX
              have HT := Lib.hid hT
              have HN := Lib.hid hni
              have HDN := Lib.hid hdn
              clear hX hT hni hdn
              have hcell0 := (hC.cell (p := ⟨w.heap.size, 0, none⟩) (World.block_lt_of_cell? _ _ n0)).trans n0
              have hcell1 := (hC.cell (p := ⟨w.heap.size, 1, none⟩) (World.block_lt_of_cell? _ _ n1)).trans n1
              go_simp
              exact hK _ _ (Below.refl _ _) hC rfl ⟨fun h => by simpa using HX.out.1 (by simpa using h), fun h => by simpa using HX.out.2 (by simpa using h)⟩
            · simp only [List.getElem?_toArray, List.getElem?_cons_zero, List.getElem?_cons_succ, Option.some.injEq] at ho
              subst ho
              simp only [Option.some.injEq] at hd
              subst hd
              generalize hA : fr _ _ _ f = A at hK ⊢
              have e2 : A.tmps[2]?.getD undef = .pointer (some ⟨w.heap.size, 0, none⟩) := by rw [← hA]; exact fr_out _ _ _ _ 2 _ (by decide) rfl
              clear hA
              have HX := Lib.hid hX
              have HT := Lib.hid hT
              have HN := Lib.hid hni
              have HDN := Lib.hid hdn
              clear hX hT hni hdn
              have hcell0 := (hC.cell (p := ⟨w.heap.size, 0, none⟩) (World.block_lt_of_cell? _ _ n0)).trans n0
              have hcell1 := (hC.cell (p := ⟨w.heap.size, 1, none⟩) (World.block_lt_of_cell? _ _ n1)).trans n1
              go_simp
              exact hK _ _ (Below.refl _ _) hC rfl ⟨fun h => by simpa using HX.out.1 (by simpa using h), fun h => by simpa using HX.out.2 (by simpa using h)⟩
            · simp only [List.getElem?_toArray, List.getElem?_cons_zero, List.getElem?_cons_succ, Option.some.injEq] at ho
              subst ho
              simp only [Option.some.injEq] at hd
              subst hd
              generalize hA : fr _ _ _ f = A at hK ⊢
              have e11 : A.tmps[11]?.getD undef = .slice Ar sj.length cr := by rw [← hA]; exact fr_out _ _ _ _ 11 _ (by decide) rfl
              clear hA
              have HX := Lib.hid hX
              have HT := Lib.hid hT
              have HN := Lib.hid hni
              have HDN := Lib.hid hdn
              clear hX hT hni hdn
              go_simp
              exact hK _ _ (Below.refl _ _) hC rfl ⟨fun h => by simpa using HX.out.1 (by simpa using h), fun h => by simpa using HX.out.2 (by simpa using h)⟩
            · simp only [List.getElem?_toArray, List.getElem?_cons_zero, List.getElem?_cons_succ, Option.some.injEq] at ho
              subst ho
              simp only [Option.some.injEq] at hd
              subst hd
              have h42 : f 42 = .agg #[.slice A1 ns.length c1, .slice A2 ds.length c2] := hT 2 42 (by decide) rfl (hdn { on := 2, ground := .data } (by simp) rfl)
              have h43 : f 43 = .slice Ar sj.length cr := hT 3 43 (by decide) rfl (hdn { on := 3, ground := .data } (by simp) rfl)
              generalize hA : fr _ _ _ f = A at hK ⊢
              have e42 : A.tmps[42]?.getD undef = f 42 := by rw [← hA]; exact fr_in _ _ _ _ 42 (by decide) (by simp)
              have e43 : A.tmps[43]?.getD undef = f 43 := by rw [← hA]; exact fr_in _ _ _ _ 43 (by decide) (by simp)
              clear hA
              have HX := Lib.hid hX
              have HT := Lib.hid hT
              have HN := Lib.hid hni
              have HDN := Lib.hid hdn
              clear hX hT hni hdn
              have Hf42 := Lib.hid h42
              rw [h42] at e42
              clear h42
              have Hf43 := Lib.hid h43
              rw [h43] at e43
              clear h43
              go_simp
              refine (supplied_any w1 (fun _ => True) A1 A2 c1 c2 ns ds (hn5.below hC) HD.out Ar cr sj (sRj.keep (Kept.of_below hC)) hsjl.out).mono ?_
              rintro e' w2 ⟨A5, c5, rfl, ho5, hb2⟩
              exact hK _ _ hb2 (hC.trans (hb2.mono hC.size)) ⟨A5, c5, rfl, (OI.si ho5).mono (fun _ _ _ => trivial)⟩ ⟨fun h => by simpa using HX.out.1 (by simpa using h), fun h => by simpa using HX.out.2 (by simpa using h)⟩
            · simp only [List.getElem?_toArray, List.getElem?_cons_zero, List.getElem?_cons_succ, Option.some.injEq] at ho
              subst ho
              simp only [Option.some.injEq] at hd
              subst hd
              have h41 : f 41 = .agg #[.slice A1 ns.length c1, .slice A2 ds.length c2] := hT 1 41 (by decide) rfl (hdn { on := 1, ground := .data } (by simp) rfl)
              have h44 : ∃ A' c', f 44 = .slice A' (supL ns ds sj).length c' ∧ SI w1 (fun _ => True) A' (supL ns ds sj) := hT 4 44 (by decide) rfl (hdn { on := 4, ground := .data } (by simp) rfl)
              generalize hA : fr _ _ _ f = A at hK ⊢
              have e41 : A.tmps[41]?.getD undef = f 41 := by rw [← hA]; exact fr_in _ _ _ _ 41 (by decide) (by simp)
              have e44 : A.tmps[44]?.getD undef = f 44 := by rw [← hA]; exact fr_in _ _ _ _ 44 (by decide) (by simp)
              clear hA
              have HX := Lib.hid hX
              have HT := Lib.hid hT
              have HN := Lib.hid hni
              have HDN := Lib.hid hdn
              clear hX hT hni hdn
              have Hf41 := Lib.hid h41
              rw [h41] at e41
              clear h41
              obtain ⟨Ak, ck, h44, l1⟩ := h44
              rw [h44] at e44
              have Hf44 := Lib.hid h44
              clear h44
              go_simp
              refine (customers_any w1 _ _ A1 A2 c1 c2 ns ds (hn5.below hC) Hcu.out Ak ck (supL ns ds sj) l1 (by have := supL_len ns ds sj; omega) (supL_in ns ds sj)).mono ?_
              rintro e' w2 ⟨rfl, hb2⟩
              exact hK _ _ hb2 (hC.trans (hb2.mono hC.size)) rfl ⟨fun h => by simpa using HX.out.1 (by simpa using h), fun h => by simpa using HX.out.2 (by simpa using h)⟩
            · simp only [List.getElem?_toArray, List.getElem?_cons_zero, List.getElem?_cons_succ, Option.some.injEq] at ho
              subst ho
              simp only [Option.some.injEq] at hd
              subst hd
              have h40 : f 40 = .int .i64 best := hT 0 40 (by decide) rfl (hdn { on := 0, ground := .data } (by simp) rfl)
              have h45 : f 45 = .int .i64 (custF ns (supL ns ds sj)) := hT 5 45 (by decide) rfl (hdn { on := 5, ground := .data } (by simp) rfl)
              generalize hA : fr _ _ _ f = A at hK ⊢
              have e40 : A.tmps[40]?.getD undef = f 40 := by rw [← hA]; exact fr_in _ _ _ _ 40 (by decide) (by simp)
              have e45 : A.tmps[45]?.getD undef = f 45 := by rw [← hA]; exact fr_in _ _ _ _ 45 (by decide) (by simp)
              clear hA
              have HX := Lib.hid hX
              have HT := Lib.hid hT
              have HN := Lib.hid hni
              have HDN := Lib.hid hdn
              clear hX hT hni hdn
              have Hf40 := Lib.hid h40
              rw [h40] at e40
              clear h40
              have Hf45 := Lib.hid h45
              rw [h45] at e45
              clear h45
              go_simp
              exact hK _ _ (Below.refl _ _) hC rfl ⟨fun h => by simpa using HX.out.1 (by simpa using h), fun h => by simpa using HX.out.2 (by simpa using h)⟩
            · simp only [List.getElem?_toArray, List.getElem?_cons_zero, List.getElem?_cons_succ, Option.some.injEq] at ho
              subst ho
              simp only [Option.some.injEq] at hd
              subst hd
              have h46 : f 46 = .int .i64 (if custF ns (supL ns ds sj) < best then custF ns (supL ns ds sj) else best) := hT 6 46 (by decide) rfl (hdn { on := 6, ground := .data } (by simp) rfl)
              have hd0 : dn 0 = true := hdn { on := 0, ground := .phase } (by simp) rfl
              generalize hA : fr _ _ _ f = A at hK ⊢
              have e46 : A.tmps[46]?.getD undef = f 46 := by rw [← hA]; exact fr_in _ _ _ _ 46 (by decide) (by simp)
              clear hA
              have HX := Lib.hid hX
              have HT := Lib.hid hT
              have HN := Lib.hid hni
              have HDN := Lib.hid hdn
              clear hX hT hni hdn
              have Hf46 := Lib.hid h46
              rw [h46] at e46
              clear h46
              go_simp
              exact hK _ _ (Below.refl _ _) hC rfl ⟨fun h => by simp at h, fun _ => by simp [hd0]⟩
          · intro dn f w1 hC hX hdn hall
            have q0 : f 9 = .int .i64 (if custF ns (supL ns ds sj) < best then custF ns (supL ns ds sj) else best) := hall 7 9 (by decide) rfl
            have H0 := Lib.hid q0
            clear hall q0 hX hdn
            simp only [fr, upd, List.mapIdx_cons, List.mapIdx_nil]
            simp
            go_wp2_with fail
            go_roundg (gk - 1)
            case measure => have := Hj.out; omega
            case rel => exact ⟨j + 1, by have := Hj.out; omega, by go_num, by rw [H0.out, HS.out]; rfl, hB.trans (hC.mono hB.size)⟩
        · have hend : wl = leastF (kF ns ds) (kF ns ds s0) ((all.drop 1).take j) := by rw [Hwl.out, List.take_of_length_le (by rw [List.length_drop, Hal.out]; omega)]
          rw [← hend]
          clear hend
          go_wp2_with (fail)
          go_ret2
          exact ⟨rfl, hb06.trans (hB.mono hb06.size)⟩
end Go.Proofs.YtgpcojmdfmngeaaDoor

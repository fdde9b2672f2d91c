/-
  The law MaskStates, walked.
-/
import Derived.Test.YtpeifmkodoignaaDoorLow
import Derived.Test.YtpeifmkodoignaaDoorL06a
import Derived.Test.YtpeifmkodoignaaDoorL07s
import Derived.Test.YtpeifmkodoignaaDoorExt4
namespace Go.Proofs.YtpeifmkodoignaaDoor
open Go.RowKit
set_option maxHeartbeats 400000
set_option maxRecDepth 100000

/-- What the law keeps: the shared state, the masks, all states. -/
structure LM (w wr : World) (gn : Nat) (A1 : Option Addr) (c1 : Nat) (ns : List Node) (A2 : Option Addr) (c2 : Nat) (ds : List Dev) (Am Aa : Option Addr) (ms : List Int) (al : List (List Int)) : Prop where
  L : LS w wr (gn + 1) gn A1 c1 ns A2 c2 ds
  m : SI wr (fun g => gn < g) Am ms
  a : SR wr (fun g => gn < g) Aa al
section
variable {w wr w' : World} {gn : Nat} {A1 A2 Am Aa : Option Addr} {c1 c2 : Nat} {ns : List Node} {ds : List Dev} {ms : List Int} {al : List (List Int)}
theorem LM.below (h : LM w wr gn A1 c1 ns A2 c2 ds Am Aa ms al) (hb : Below wr.heap.size wr w') : LM w w' gn A1 c1 ns A2 c2 ds Am Aa ms al :=
  ⟨h.L.below hb, h.m.keep (Kept.of_below hb), h.a.keep (Kept.of_below hb)⟩
end
theorem SI.tru {w : World} {S : Nat → Prop} {A : Option Addr} {xs : List Int} (h : SI w S A xs) : SI w (fun _ => True) A xs := h.mono (fun _ _ _ => trivial)
theorem cnt_ok {ms : List Int} (h : ∀ x ∈ ms, 1 ≤ x ∧ x ≤ 3) (h8 : num3 ms ≤ 8) : cnt ms = (((2 ^ num3 ms : Nat) : Int), 0) := by
  unfold cnt; rw [masks_all h, if_pos rfl, unk_len, if_neg (by omega)]; simp
theorem Ints_same (w : World) (S T : Nat → Prop) (A B : Option Addr) (c d : Nat) (xs : List Int) (hs : SI w S A xs) (ht : SI w T B xs) (hl : xs.length ≤ 65536) :
    Calls Tryd.prog 41 #[.slice A xs.length c, .slice B xs.length d] w fun e w' => e = .returned (.bool true) ∧ Below w.heap.size w w' := by
  have := ints_b w S T A B c d xs xs hs ht hl hl
  simpa using this

set_option maxHeartbeats 4000000 in
theorem maskStates_row (w : World) (h : TabC w) (ht : Tab w) (A : Option Addr) (c : Nat) (xs : List Int) (hs : SI w (fun _ => True) A xs) :
    Calls Tryd.prog 11 #[.slice A xs.length c] w (RetT w) := by
  by_cases hf : xs.length ≤ 400
  · have hfd : decide ((xs.length : Int) ≤ 400) = true := decide_eq_true (by omega)
    go_enter Tryd.func11, Tryd.ntmps11
    go_wp2_with (fail)
    refine (few_any w A xs.length c).mono ?_
    rw [hfd]
    rintro e w' ⟨rfl, rfl⟩
    go_wp2_with (fail)
    refine (new_any w _ A c xs hs hf).mono ?_
    rintro e w1 ⟨rfl, hd1, hb1, hz1⟩
    have Hz1 := Lib.hid hz1
    clear hz1
    go_wp2_with (fail)
    refine (network_any w1 w.heap.size hd1 6 9 (by decide) (by decide) (by decide) (by decide)).mono ?_
    rintro e w2 ⟨A1, c1, A2, c2, ns, ds, rfl, ho1, ho2, hd2, hg2, hgood⟩
    have L := LS.start hd1 hb1 Hz1.out ho1 ho2 hd2 hg2 hgood
    have hc0 := good_check hgood (by decide) (by decide)
    have Hc0 := Lib.hid hc0
    have hnl : ns.length ≤ 6 := hgood.most
    have hdl : ds.length ≤ 9 := hgood.few
    obtain ⟨W, hW⟩ : ∃ W, W = w2.alloc (.cells #[.slice A1 ns.length c1, .slice A2 ds.length c2] 30) := ⟨_, rfl⟩
    rw [← hW] at L
    have HW := Lib.hid hW
    have n0 := L.n0
    have n1 := L.n1
    rw [hW] at n0 n1
    clear hd1 hb1 Hz1 ho1 ho2 hd2 hg2 hc0 hW
    go_wp2_with (fail)
    rw [← HW.out]
    refine (masks_few W w.heap.size L.deck A1 ns.length c1 A2 c2 ds _ (fun b hb => by have := hb.1; omega) L.net.devs (by omega) 6 (by decide)).mono ?_
    rintro e w3 ⟨Am, cm, ms, rfl, hml, hm3, hm6, ho3, hd3, hf3⟩
    have L3 := L.state hf3 hd3
    have hWs := hf3.size
    have hM := L.top
    have Hml := Lib.hid hml
    have Hm3 := Lib.hid hm3
    have sM : SI w3 (fun g => w2.heap.size < g) Am ms := (OI.si ho3).mono (fun g hl hg => by have : W.heap.size ≤ g := hg; show w2.heap.size < g; omega)
    clear n0 n1 L hf3 hd3 hml hm3 HW ho3
    obtain ⟨gn, hgn⟩ : ∃ x, x = w2.heap.size := ⟨_, rfl⟩
    rw [← hgn] at L3 sM hM ⊢
    have hM3 : gn + 1 ≤ w3.heap.size := by omega
    clear hgn hM hWs W w2 w1
    have hmn : ms.length ≤ 9 := by have := Hml.out; omega
    have HA := Lib.hid (all_any w3 (ht.below L3.bel) _ Am cm ms sM (by omega) (masks_all Hm3.out) (by rw [unk_len]; omega))
    go_wp2_with (fail)
    refine HA.out.mono ?_
    rintro e wa ⟨Aa, ca, rfl, sA, hba⟩
    have K : LM w wa gn A1 c1 ns A2 c2 ds Am Aa ms (allL ms) := ⟨L3.below hba, sM.keep (Kept.of_below hba), sA.mono (fun g _ hg => by have hg : w3.heap.size ≤ g := hg; show gn < g; omega)⟩
    clear L3 HA sM sA hba hM3
    have HB := count_any wa (ht.below K.L.bel) _ Am cm ms K.m (by omega)
    rw [cnt_ok Hm3.out (by omega)] at HB
    have HB := Lib.hid HB
    go_wp2_with (fail)
    refine HB.out.mono ?_
    rintro e wb ⟨rfl, hbb⟩
    have K := K.below hbb
    have Hfirst := Lib.hid (allL_first ms)
    have Hlast := Lib.hid (allL_last ms (by omega))
    have Hnext := Lib.hid (allL_next ms (by omega))
    have Hget := Lib.hid (allL_get ms)
    have hal := allL_len ms
    have hu6 : 2 ^ num3 ms ≤ 64 := Nat.le_trans (Nat.pow_le_pow_right (by omega) hm6) (by decide)
    have hN1 : 1 ≤ 2 ^ num3 ms := Nat.one_le_two_pow
    clear HB hbb
    obtain ⟨N, hN⟩ : ∃ N, N = 2 ^ num3 ms := ⟨_, rfl⟩
    have HN := Lib.hid hN
    rw [← hN] at hal hu6 hN1 ⊢
    rw [hal]
    have Hal := Lib.hid hal
    clear hN hal
    have Hlow := Lib.hid (fun (p : Int) => show (lowL p ms).length = ms.length from stF_len _ _ _)
    go_upto_region 8 with (fail)
    go_cut [70] (fun v70 wx => v70 = .bool false ∧ LM w wx gn A1 c1 ns A2 c2 ds Am Aa ms (allL ms))
    case first =>
      refine wp_region_extG (by kernel_rfl) 36 [35, 36, 37, 38, 39, 40, 41, 42, 43, 44, 45, 46, 47, 48, 49, 50, 51, 52, 53, 54, 55, 56, 57, 58, 59, 60, 61, 62, 63, 64, 65, 66, 67, 68, 69, 70] [(37, false), (41, false), (47, false), (51, false), (60, false)] [] (fun w' => LM w w' gn A1 c1 ns A2 c2 ds Am Aa ms (allL ms)) (fun a b => Below a.heap.size a b) (fun d vv w' => if d = 35 then vv = .int .i64 0 else if d = 36 then vv = .bool false else if d = 37 then vv = .bool false else if d = 38 then vv = .int .i64 0 else if d = 39 then vv = .bool false else if d = 40 then vv = .bool false else if d = 41 then vv = .bool false else if d = 42 then vv = .slice Aa N ca else if d = 43 then vv = .int .i64 ((N : Nat) : Int) else if d = 44 then vv = .int .i64 ((N : Nat) : Int) else if d = 45 then vv = .bool false else if d = 46 then vv = .bool false else if d = 47 then vv = .bool false else if d = 48 then vv = .int .i64 ((N : Nat) : Int) else if d = 49 then vv = .bool false else if d = 50 then vv = .bool false else if d = 51 then vv = .bool false else if d = 52 then vv = .slice Aa N ca else if d = 55 then vv = .slice Am ms.length cm else if d = 57 then vv = .bool true else if d = 58 then vv = .bool false else if d = 59 then vv = .bool false else if d = 60 then vv = .bool false else if d = 61 then vv = .slice Aa N ca else if d = 62 then vv = .int .i64 ((N : Nat) : Int) else if d = 63 then vv = .int .i64 ((N - 1 : Nat) : Int) else if d = 66 then vv = .slice Am ms.length cm else if d = 68 then vv = .bool true else if d = 69 then vv = .bool false else if d = 70 then vv = .bool false else if d = 53 then ∃ b off, Aa = some ⟨b, off, none⟩ ∧ vv = .pointer (some ⟨b, off, none⟩) else if d = 54 then ∃ A' c', vv = .slice A' (lowL 1 ms).length c' ∧ SI w' (fun g => gn < g) A' (lowL 1 ms) else if d = 56 then ∃ A' c', vv = .slice A' (lowL 1 ms).length c' ∧ SI w' (fun g => gn < g) A' (lowL 1 ms) else if d = 64 then ∃ b off, Aa = some ⟨b, off, none⟩ ∧ vv = .pointer (some ⟨b, off + (N - 1), none⟩) else if d = 65 then ∃ A' c', vv = .slice A' (lowL 2 ms).length c' ∧ SI w' (fun g => gn < g) A' (lowL 2 ms) else if d = 67 then ∃ A' c', vv = .slice A' (lowL 2 ms).length c' ∧ SI w' (fun g => gn < g) A' (lowL 2 ms) else False) (by kernel_rfl) (by kernel_rfl) (by simp) (K.below ((Below.refl _ _).drew)) (fun w => Below.refl _ _) (by simp) (by simp) (fun d v w1 w2 _ hE hT => by
        have key : ∀ p, (∃ A' c', v = .slice A' (lowL p ms).length c' ∧ SI w1 (fun g => gn < g) A' (lowL p ms)) → ∃ A' c', v = .slice A' (lowL p ms).length c' ∧ SI w2 (fun g => gn < g) A' (lowL p ms) := fun p ⟨A', c', e1, e2⟩ => ⟨A', c', e1, e2.keep (Kept.of_below hE)⟩
        by_cases h54 : d = 54
        · subst h54; exact key 1 hT
        · by_cases h56 : d = 56
          · subst h56; exact key 1 hT
          · by_cases h65 : d = 65
            · subst h65; exact key 2 hT
            · by_cases h67 : d = 67
              · subst h67; exact key 2 hT
              · simp only [if_neg h54, if_neg h56, if_neg h65, if_neg h67] at hT ⊢
                exact hT) ?_ ?_
      · intro i o d hi hwt ho hd f w1 hC hdep K hK
        have hi' : i = 0 ∨ i = 1 ∨ i = 2 ∨ i = 3 ∨ i = 4 ∨ i = 5 ∨ i = 6 ∨ i = 7 ∨ i = 8 ∨ i = 9 ∨ i = 10 ∨ i = 11 ∨ i = 12 ∨ i = 13 ∨ i = 14 ∨ i = 15 ∨ i = 16 ∨ i = 17 ∨ i = 18 ∨ i = 19 ∨ i = 20 ∨ i = 21 ∨ i = 22 ∨ i = 23 ∨ i = 24 ∨ i = 25 ∨ i = 26 ∨ i = 27 ∨ i = 28 ∨ i = 29 ∨ i = 30 ∨ i = 31 ∨ i = 32 ∨ i = 33 ∨ i = 34 ∨ i = 35 := by omega
        rcases hi' with rfl | rfl | rfl | rfl | rfl | rfl | rfl | rfl | rfl | rfl | rfl | rfl | rfl | rfl | rfl | rfl | rfl | rfl | rfl | rfl | rfl | rfl | rfl | rfl | rfl | rfl | rfl | rfl | rfl | rfl | rfl | rfl | rfl | rfl | rfl | rfl
        · simp only [List.getElem?_toArray, List.getElem?_cons_zero, Option.some.injEq] at ho
          clear hwt
          subst ho
          simp only [Option.some.injEq] at hd
          subst hd
          generalize hA : fr _ _ _ f = A at hK ⊢
          have e7 : A.tmps[7]?.getD undef = .int .i64 0 := by rw [← hA]; exact fr_out _ _ _ _ 7 _ (by decide) rfl
          clear hA hdep
          go_simp
          exact hK _ _ (Below.refl _ _) hC rfl
        · simp only [List.getElem?_toArray, List.getElem?_cons_zero, List.getElem?_cons_succ, Option.some.injEq] at ho
          clear hwt
          subst ho
          simp only [Option.some.injEq] at hd
          subst hd
          have h35 : f 35 = .int .i64 0 := hdep { on := 0, ground := .data } (by simp) rfl 35 rfl
          generalize hA : fr _ _ _ f = A at hK ⊢
          have e35 : A.tmps[35]?.getD undef = f 35 := by rw [← hA]; exact fr_in _ _ _ _ 35 (by decide) (by simp)
          clear hA hdep
          rw [h35] at e35
          clear h35
          go_simp
          exact hK _ _ (Below.refl _ _) hC rfl
        · simp only [List.getElem?_toArray, List.getElem?_cons_zero, List.getElem?_cons_succ, Option.some.injEq] at ho
          clear hwt
          subst ho
          simp only [Option.some.injEq] at hd
          subst hd
          have h36 : f 36 = .bool false := hdep { on := 1, ground := .data } (by simp) rfl 36 rfl
          generalize hA : fr _ _ _ f = A at hK ⊢
          have e36 : A.tmps[36]?.getD undef = f 36 := by rw [← hA]; exact fr_in _ _ _ _ 36 (by decide) (by simp)
          clear hA hdep
          rw [h36] at e36
          clear h36
          go_simp
          exact hK _ _ (Below.refl _ _) hC rfl
        · simp only [List.getElem?_toArray, List.getElem?_cons_zero, List.getElem?_cons_succ, Option.some.injEq] at ho
          clear hwt
          subst ho
          simp only [Option.some.injEq] at hd
          subst hd
          generalize hA : fr _ _ _ f = A at hK ⊢
          have e9 : A.tmps[9]?.getD undef = .int .i64 0 := by rw [← hA]; exact fr_out _ _ _ _ 9 _ (by decide) rfl
          clear hA hdep
          go_simp
          exact hK _ _ (Below.refl _ _) hC rfl
        · simp only [List.getElem?_toArray, List.getElem?_cons_zero, List.getElem?_cons_succ, Option.some.injEq] at ho
          clear hwt
          subst ho
          simp only [Option.some.injEq] at hd
          subst hd
          have h38 : f 38 = .int .i64 0 := hdep { on := 3, ground := .data } (by simp) rfl 38 rfl
          generalize hA : fr _ _ _ f = A at hK ⊢
          have e38 : A.tmps[38]?.getD undef = f 38 := by rw [← hA]; exact fr_in _ _ _ _ 38 (by decide) (by simp)
          clear hA hdep
          rw [h38] at e38
          clear h38
          go_simp
          exact hK _ _ (Below.refl _ _) hC rfl
        · simp only [List.getElem?_toArray, List.getElem?_cons_zero, List.getElem?_cons_succ, Option.some.injEq] at ho
          clear hwt
          subst ho
          simp only [Option.some.injEq] at hd
          subst hd
          have h37 : f 37 = .bool false := hdep { on := 2, ground := .data } (by simp) rfl 37 rfl
          have h39 : f 39 = .bool false := hdep { on := 4, ground := .data } (by simp) rfl 39 rfl
          generalize hA : fr _ _ _ f = A at hK ⊢
          have e37 : A.tmps[37]?.getD undef = f 37 := by rw [← hA]; exact fr_in _ _ _ _ 37 (by decide) (by simp)
          have e39 : A.tmps[39]?.getD undef = f 39 := by rw [← hA]; exact fr_in _ _ _ _ 39 (by decide) (by simp)
          clear hA hdep
          rw [h37] at e37
          clear h37
          rw [h39] at e39
          clear h39
          go_simp
          exact hK _ _ (Below.refl _ _) hC rfl
        · simp only [List.getElem?_toArray, List.getElem?_cons_zero, List.getElem?_cons_succ, Option.some.injEq] at ho
          clear hwt
          subst ho
          simp only [Option.some.injEq] at hd
          subst hd
          have h40 : f 40 = .bool false := hdep { on := 5, ground := .data } (by simp) rfl 40 rfl
          generalize hA : fr _ _ _ f = A at hK ⊢
          have e40 : A.tmps[40]?.getD undef = f 40 := by rw [← hA]; exact fr_in _ _ _ _ 40 (by decide) (by simp)
          clear hA hdep
          rw [h40] at e40
          clear h40
          go_simp
          exact hK _ _ (Below.refl _ _) hC rfl
        · simp only [List.getElem?_toArray, List.getElem?_cons_zero, List.getElem?_cons_succ, Option.some.injEq] at ho
          clear hwt
          subst ho
          simp only [Option.some.injEq] at hd
          subst hd
          generalize hA : fr _ _ _ f = A at hK ⊢
          have e6 : A.tmps[6]?.getD undef = .slice Aa N ca := by rw [← hA]; exact fr_out _ _ _ _ 6 _ (by decide) rfl
          clear hA hdep
          go_simp
          exact hK _ _ (Below.refl _ _) hC rfl
        · simp only [List.getElem?_toArray, List.getElem?_cons_zero, List.getElem?_cons_succ, Option.some.injEq] at ho
          clear hwt
          subst ho
          simp only [Option.some.injEq] at hd
          subst hd
          have h42 : f 42 = .slice Aa N ca := hdep { on := 7, ground := .data } (by simp) rfl 42 rfl
          generalize hA : fr _ _ _ f = A at hK ⊢
          have e42 : A.tmps[42]?.getD undef = f 42 := by rw [← hA]; exact fr_in _ _ _ _ 42 (by decide) (by simp)
          clear hA hdep
          rw [h42] at e42
          clear h42
          go_simp
          exact hK _ _ (Below.refl _ _) hC rfl
        · simp only [List.getElem?_toArray, List.getElem?_cons_zero, List.getElem?_cons_succ, Option.some.injEq] at ho
          clear hwt
          subst ho
          simp only [Option.some.injEq] at hd
          subst hd
          generalize hA : fr _ _ _ f = A at hK ⊢
          have e8 : A.tmps[8]?.getD undef = .int .i64 ((N : Nat) : Int) := by rw [← hA]; exact fr_out _ _ _ _ 8 _ (by decide) rfl
          clear hA hdep
          go_simp
          exact hK _ _ (Below.refl _ _) hC rfl
        · simp only [List.getElem?_toArray, List.getElem?_cons_zero, List.getElem?_cons_succ, Option.some.injEq] at ho
          clear hwt
          subst ho
          simp only [Option.some.injEq] at hd
          subst hd
          have h43 : f 43 = .int .i64 ((N : Nat) : Int) := hdep { on := 8, ground := .data } (by simp) rfl 43 rfl
          have h44 : f 44 = .int .i64 ((N : Nat) : Int) := hdep { on := 9, ground := .data } (by simp) rfl 44 rfl
          generalize hA : fr _ _ _ f = A at hK ⊢
          have e43 : A.tmps[43]?.getD undef = f 43 := by rw [← hA]; exact fr_in _ _ _ _ 43 (by decide) (by simp)
          have e44 : A.tmps[44]?.getD undef = f 44 := by rw [← hA]; exact fr_in _ _ _ _ 44 (by decide) (by simp)
          clear hA hdep
          rw [h43] at e43
          clear h43
          rw [h44] at e44
          clear h44
          go_simp
          exact hK _ _ (Below.refl _ _) hC rfl
        · simp only [List.getElem?_toArray, List.getElem?_cons_zero, List.getElem?_cons_succ, Option.some.injEq] at ho
          clear hwt
          subst ho
          simp only [Option.some.injEq] at hd
          subst hd
          have h41 : f 41 = .bool false := hdep { on := 6, ground := .data } (by simp) rfl 41 rfl
          have h45 : f 45 = .bool false := hdep { on := 10, ground := .data } (by simp) rfl 45 rfl
          generalize hA : fr _ _ _ f = A at hK ⊢
          have e41 : A.tmps[41]?.getD undef = f 41 := by rw [← hA]; exact fr_in _ _ _ _ 41 (by decide) (by simp)
          have e45 : A.tmps[45]?.getD undef = f 45 := by rw [← hA]; exact fr_in _ _ _ _ 45 (by decide) (by simp)
          clear hA hdep
          rw [h41] at e41
          clear h41
          rw [h45] at e45
          clear h45
          go_simp
          exact hK _ _ (Below.refl _ _) hC rfl
        · simp only [List.getElem?_toArray, List.getElem?_cons_zero, List.getElem?_cons_succ, Option.some.injEq] at ho
          clear hwt
          subst ho
          simp only [Option.some.injEq] at hd
          subst hd
          have h46 : f 46 = .bool false := hdep { on := 11, ground := .data } (by simp) rfl 46 rfl
          generalize hA : fr _ _ _ f = A at hK ⊢
          have e46 : A.tmps[46]?.getD undef = f 46 := by rw [← hA]; exact fr_in _ _ _ _ 46 (by decide) (by simp)
          clear hA hdep
          rw [h46] at e46
          clear h46
          go_simp
          exact hK _ _ (Below.refl _ _) hC rfl
        · simp only [List.getElem?_toArray, List.getElem?_cons_zero, List.getElem?_cons_succ, Option.some.injEq] at ho
          clear hwt
          subst ho
          simp only [Option.some.injEq] at hd
          subst hd
          generalize hA : fr _ _ _ f = A at hK ⊢
          have e8 : A.tmps[8]?.getD undef = .int .i64 ((N : Nat) : Int) := by rw [← hA]; exact fr_out _ _ _ _ 8 _ (by decide) rfl
          clear hA hdep
          go_simp
          exact hK _ _ (Below.refl _ _) hC rfl
        · simp only [List.getElem?_toArray, List.getElem?_cons_zero, List.getElem?_cons_succ, Option.some.injEq] at ho
          clear hwt
          subst ho
          simp only [Option.some.injEq] at hd
          subst hd
          have h48 : f 48 = .int .i64 ((N : Nat) : Int) := hdep { on := 13, ground := .data } (by simp) rfl 48 rfl
          generalize hA : fr _ _ _ f = A at hK ⊢
          have e48 : A.tmps[48]?.getD undef = f 48 := by rw [← hA]; exact fr_in _ _ _ _ 48 (by decide) (by simp)
          clear hA hdep
          rw [h48] at e48
          clear h48
          have hn1 : decide ((N : Int) < 1) = false := by simp; omega
          go_simp
          exact hK _ _ (Below.refl _ _) hC rfl
        · simp only [List.getElem?_toArray, List.getElem?_cons_zero, List.getElem?_cons_succ, Option.some.injEq] at ho
          clear hwt
          subst ho
          simp only [Option.some.injEq] at hd
          subst hd
          have h47 : f 47 = .bool false := hdep { on := 12, ground := .data } (by simp) rfl 47 rfl
          have h49 : f 49 = .bool false := hdep { on := 14, ground := .data } (by simp) rfl 49 rfl
          generalize hA : fr _ _ _ f = A at hK ⊢
          have e47 : A.tmps[47]?.getD undef = f 47 := by rw [← hA]; exact fr_in _ _ _ _ 47 (by decide) (by simp)
          have e49 : A.tmps[49]?.getD undef = f 49 := by rw [← hA]; exact fr_in _ _ _ _ 49 (by decide) (by simp)
          clear hA hdep
          rw [h47] at e47
          clear h47
          rw [h49] at e49
          clear h49
          go_simp
          exact hK _ _ (Below.refl _ _) hC rfl
        · simp only [List.getElem?_toArray, List.getElem?_cons_zero, List.getElem?_cons_succ, Option.some.injEq] at ho
          clear hwt
          subst ho
          simp only [Option.some.injEq] at hd
          subst hd
          have h50 : f 50 = .bool false := hdep { on := 15, ground := .data } (by simp) rfl 50 rfl
          generalize hA : fr _ _ _ f = A at hK ⊢
          have e50 : A.tmps[50]?.getD undef = f 50 := by rw [← hA]; exact fr_in _ _ _ _ 50 (by decide) (by simp)
          clear hA hdep
          rw [h50] at e50
          clear h50
          go_simp
          exact hK _ _ (Below.refl _ _) hC rfl
        · simp only [List.getElem?_toArray, List.getElem?_cons_zero, List.getElem?_cons_succ, Option.some.injEq] at ho
          clear hwt
          subst ho
          simp only [Option.some.injEq] at hd
          subst hd
          generalize hA : fr _ _ _ f = A at hK ⊢
          have e6 : A.tmps[6]?.getD undef = .slice Aa N ca := by rw [← hA]; exact fr_out _ _ _ _ 6 _ (by decide) rfl
          clear hA hdep
          go_simp
          exact hK _ _ (Below.refl _ _) hC rfl
        · simp only [List.getElem?_toArray, List.getElem?_cons_zero, List.getElem?_cons_succ, Option.some.injEq] at ho
          clear hwt
          subst ho
          simp only [Option.some.injEq] at hd
          subst hd
          have h52 : f 52 = .slice Aa N ca := hdep { on := 17, ground := .data } (by simp) rfl 52 rfl
          generalize hA : fr _ _ _ f = A at hK ⊢
          have e52 : A.tmps[52]?.getD undef = f 52 := by rw [← hA]; exact fr_in _ _ _ _ 52 (by decide) (by simp)
          clear hA hdep
          rw [h52] at e52
          clear h52
          obtain ⟨b0, off0, A', c', ha, hc, _⟩ := hC.a.at_ (k := 0) (by rw [Hal.out]; omega)
          subst ha
          clear hc
          have hn0 : 0 < N := by omega
          have hn9 : N - 1 < N := by omega
          go_simp
          exact hK _ _ (Below.refl _ _) hC ⟨b0, off0, rfl, rfl⟩
        · simp only [List.getElem?_toArray, List.getElem?_cons_zero, List.getElem?_cons_succ, Option.some.injEq] at ho
          clear hwt
          subst ho
          simp only [Option.some.injEq] at hd
          subst hd
          have h53 : ∃ b off, Aa = some ⟨b, off, none⟩ ∧ f 53 = .pointer (some ⟨b, off, none⟩) := hdep { on := 18, ground := .data } (by simp) rfl 53 rfl
          generalize hA : fr _ _ _ f = A at hK ⊢
          have e53 : A.tmps[53]?.getD undef = f 53 := by rw [← hA]; exact fr_in _ _ _ _ 53 (by decide) (by simp)
          clear hA hdep
          obtain ⟨b0, off0, ha0, h53⟩ := h53
          rw [h53] at e53
          have Hf53 := Lib.hid h53
          clear h53
          obtain ⟨b1, off1, A4, c4, ha, hc, _, s4⟩ := hC.a.at_ (k := 0) (by rw [Hal.out]; omega)
          rw [ha0] at ha
          injection ha with ha
          injection ha with ha ha'
          subst ha ha'
          rw [Hfirst.out (by rw [Hal.out]; omega), Nat.add_zero] at hc; rw [Hfirst.out (by rw [Hal.out]; omega)] at s4
          clear ha0
          go_simp
          exact hK _ _ (Below.refl _ _) hC ⟨A4, c4, rfl, s4⟩
        · simp only [List.getElem?_toArray, List.getElem?_cons_zero, List.getElem?_cons_succ, Option.some.injEq] at ho
          clear hwt
          subst ho
          simp only [Option.some.injEq] at hd
          subst hd
          generalize hA : fr _ _ _ f = A at hK ⊢
          have e5 : A.tmps[5]?.getD undef = .slice Am ms.length cm := by rw [← hA]; exact fr_out _ _ _ _ 5 _ (by decide) rfl
          clear hA hdep
          go_simp
          exact hK _ _ (Below.refl _ _) hC rfl
        · simp only [List.getElem?_toArray, List.getElem?_cons_zero, List.getElem?_cons_succ, Option.some.injEq] at ho
          clear hwt
          subst ho
          simp only [Option.some.injEq] at hd
          subst hd
          have h55 : f 55 = .slice Am ms.length cm := hdep { on := 20, ground := .data } (by simp) rfl 55 rfl
          generalize hA : fr _ _ _ f = A at hK ⊢
          have e55 : A.tmps[55]?.getD undef = f 55 := by rw [← hA]; exact fr_in _ _ _ _ 55 (by decide) (by simp)
          clear hA hdep
          rw [h55] at e55
          clear h55
          go_simp
          refine (lowest_any w1 _ Am cm ms hC.m (by omega)).mono ?_
          rintro e' w2 ⟨A5, c5, rfl, ho5, hb2⟩
          exact hK _ _ hb2 (hC.below hb2) ⟨A5, c5, rfl, (OI.si ho5).mono (fun g _ hg => by have := hC.L.gnm; have := hC.L.top; have hg : w1.heap.size ≤ g := hg; show gn < g; omega)⟩
        · simp only [List.getElem?_toArray, List.getElem?_cons_zero, List.getElem?_cons_succ, Option.some.injEq] at ho
          clear hwt
          subst ho
          simp only [Option.some.injEq] at hd
          subst hd
          have h54 : ∃ A' c', f 54 = .slice A' (lowL 1 ms).length c' ∧ SI w1 (fun g => gn < g) A' (lowL 1 ms) := hdep { on := 19, ground := .data } (by simp) rfl 54 rfl
          have h56 : ∃ A' c', f 56 = .slice A' (lowL 1 ms).length c' ∧ SI w1 (fun g => gn < g) A' (lowL 1 ms) := hdep { on := 21, ground := .data } (by simp) rfl 56 rfl
          generalize hA : fr _ _ _ f = A at hK ⊢
          have e54 : A.tmps[54]?.getD undef = f 54 := by rw [← hA]; exact fr_in _ _ _ _ 54 (by decide) (by simp)
          have e56 : A.tmps[56]?.getD undef = f 56 := by rw [← hA]; exact fr_in _ _ _ _ 56 (by decide) (by simp)
          clear hA hdep
          obtain ⟨A4, c4, h54, s54⟩ := h54
          rw [h54] at e54
          have Hf54 := Lib.hid h54
          clear h54
          obtain ⟨A6, c6, h56, s56⟩ := h56
          rw [h56] at e56
          have Hf56 := Lib.hid h56
          clear h56
          go_simp
          refine (Ints_same w1 _ _ A4 A6 c4 c6 (lowL 1 ms) s54 s56 (by rw [Hlow.out]; omega)).mono ?_
          rintro e' w2 ⟨rfl, hb2⟩
          exact hK _ _ hb2 (hC.below hb2) rfl
        · simp only [List.getElem?_toArray, List.getElem?_cons_zero, List.getElem?_cons_succ, Option.some.injEq] at ho
          clear hwt
          subst ho
          simp only [Option.some.injEq] at hd
          subst hd
          have h57 : f 57 = .bool true := hdep { on := 22, ground := .data } (by simp) rfl 57 rfl
          generalize hA : fr _ _ _ f = A at hK ⊢
          have e57 : A.tmps[57]?.getD undef = f 57 := by rw [← hA]; exact fr_in _ _ _ _ 57 (by decide) (by simp)
          clear hA hdep
          rw [h57] at e57
          clear h57
          go_simp
          exact hK _ _ (Below.refl _ _) hC rfl
        · simp only [List.getElem?_toArray, List.getElem?_cons_zero, List.getElem?_cons_succ, Option.some.injEq] at ho
          clear hwt
          subst ho
          simp only [Option.some.injEq] at hd
          subst hd
          have h51 : f 51 = .bool false := hdep { on := 16, ground := .data } (by simp) rfl 51 rfl
          have h58 : f 58 = .bool false := hdep { on := 23, ground := .data } (by simp) rfl 58 rfl
          generalize hA : fr _ _ _ f = A at hK ⊢
          have e51 : A.tmps[51]?.getD undef = f 51 := by rw [← hA]; exact fr_in _ _ _ _ 51 (by decide) (by simp)
          have e58 : A.tmps[58]?.getD undef = f 58 := by rw [← hA]; exact fr_in _ _ _ _ 58 (by decide) (by simp)
          clear hA hdep
          rw [h51] at e51
          clear h51
          rw [h58] at e58
          clear h58
          go_simp
          exact hK _ _ (Below.refl _ _) hC rfl
        · simp only [List.getElem?_toArray, List.getElem?_cons_zero, List.getElem?_cons_succ, Option.some.injEq] at ho
          clear hwt
          subst ho
          simp only [Option.some.injEq] at hd
          subst hd
          have h59 : f 59 = .bool false := hdep { on := 24, ground := .data } (by simp) rfl 59 rfl
          generalize hA : fr _ _ _ f = A at hK ⊢
          have e59 : A.tmps[59]?.getD undef = f 59 := by rw [← hA]; exact fr_in _ _ _ _ 59 (by decide) (by simp)
          clear hA hdep
          rw [h59] at e59
          clear h59
          go_simp
          exact hK _ _ (Below.refl _ _) hC rfl
        · simp only [List.getElem?_toArray, List.getElem?_cons_zero, List.getElem?_cons_succ, Option.some.injEq] at ho
          clear hwt
          subst ho
          simp only [Option.some.injEq] at hd
          subst hd
          generalize hA : fr _ _ _ f = A at hK ⊢
          have e6 : A.tmps[6]?.getD undef = .slice Aa N ca := by rw [← hA]; exact fr_out _ _ _ _ 6 _ (by decide) rfl
          clear hA hdep
          go_simp
          exact hK _ _ (Below.refl _ _) hC rfl
        · simp only [List.getElem?_toArray, List.getElem?_cons_zero, List.getElem?_cons_succ, Option.some.injEq] at ho
          clear hwt
          subst ho
          simp only [Option.some.injEq] at hd
          subst hd
          generalize hA : fr _ _ _ f = A at hK ⊢
          have e8 : A.tmps[8]?.getD undef = .int .i64 ((N : Nat) : Int) := by rw [← hA]; exact fr_out _ _ _ _ 8 _ (by decide) rfl
          clear hA hdep
          go_simp
          exact hK _ _ (Below.refl _ _) hC rfl
        · simp only [List.getElem?_toArray, List.getElem?_cons_zero, List.getElem?_cons_succ, Option.some.injEq] at ho
          clear hwt
          subst ho
          simp only [Option.some.injEq] at hd
          subst hd
          have h62 : f 62 = .int .i64 ((N : Nat) : Int) := hdep { on := 27, ground := .data } (by simp) rfl 62 rfl
          generalize hA : fr _ _ _ f = A at hK ⊢
          have e62 : A.tmps[62]?.getD undef = f 62 := by rw [← hA]; exact fr_in _ _ _ _ 62 (by decide) (by simp)
          clear hA hdep
          rw [h62] at e62
          clear h62
          have hn1 : (N : Int) - 1 = ((N - 1 : Nat) : Int) := by omega
          have hw : IntKind.i64.wrap ((N - 1 : Nat) : Int) = ((N - 1 : Nat) : Int) := IntWalk.i64_in _ (by omega)
          go_simp
          exact hK _ _ (Below.refl _ _) hC rfl
        · simp only [List.getElem?_toArray, List.getElem?_cons_zero, List.getElem?_cons_succ, Option.some.injEq] at ho
          clear hwt
          subst ho
          simp only [Option.some.injEq] at hd
          subst hd
          have h61 : f 61 = .slice Aa N ca := hdep { on := 26, ground := .data } (by simp) rfl 61 rfl
          have h63 : f 63 = .int .i64 ((N - 1 : Nat) : Int) := hdep { on := 28, ground := .data } (by simp) rfl 63 rfl
          generalize hA : fr _ _ _ f = A at hK ⊢
          have e61 : A.tmps[61]?.getD undef = f 61 := by rw [← hA]; exact fr_in _ _ _ _ 61 (by decide) (by simp)
          have e63 : A.tmps[63]?.getD undef = f 63 := by rw [← hA]; exact fr_in _ _ _ _ 63 (by decide) (by simp)
          clear hA hdep
          rw [h61] at e61
          clear h61
          rw [h63] at e63
          clear h63
          obtain ⟨b0, off0, A', c', ha, hc, _⟩ := hC.a.at_ (k := N - 1) (by rw [Hal.out]; omega)
          subst ha
          clear hc
          have hn0 : 0 < N := by omega
          have hn9 : N - 1 < N := by omega
          go_simp
          exact hK _ _ (Below.refl _ _) hC ⟨b0, off0, rfl, rfl⟩
        · simp only [List.getElem?_toArray, List.getElem?_cons_zero, List.getElem?_cons_succ, Option.some.injEq] at ho
          clear hwt
          subst ho
          simp only [Option.some.injEq] at hd
          subst hd
          have h64 : ∃ b off, Aa = some ⟨b, off, none⟩ ∧ f 64 = .pointer (some ⟨b, off + (N - 1), none⟩) := hdep { on := 29, ground := .data } (by simp) rfl 64 rfl
          generalize hA : fr _ _ _ f = A at hK ⊢
          have e64 : A.tmps[64]?.getD undef = f 64 := by rw [← hA]; exact fr_in _ _ _ _ 64 (by decide) (by simp)
          clear hA hdep
          obtain ⟨b0, off0, ha0, h64⟩ := h64
          rw [h64] at e64
          have Hf64 := Lib.hid h64
          clear h64
          obtain ⟨b1, off1, A4, c4, ha, hc, _, s4⟩ := hC.a.at_ (k := N - 1) (by rw [Hal.out]; omega)
          rw [ha0] at ha
          injection ha with ha
          injection ha with ha ha'
          subst ha ha'
          rw [show (allL ms)[N - 1]'(by rw [Hal.out]; omega) = lowL 2 ms from by rw [← Hlast.out (by rw [Hal.out]; omega)]; congr 1; rw [Hal.out]] at hc s4
          clear ha0
          go_simp
          exact hK _ _ (Below.refl _ _) hC ⟨A4, c4, rfl, s4⟩
        · simp only [List.getElem?_toArray, List.getElem?_cons_zero, List.getElem?_cons_succ, Option.some.injEq] at ho
          clear hwt
          subst ho
          simp only [Option.some.injEq] at hd
          subst hd
          generalize hA : fr _ _ _ f = A at hK ⊢
          have e5 : A.tmps[5]?.getD undef = .slice Am ms.length cm := by rw [← hA]; exact fr_out _ _ _ _ 5 _ (by decide) rfl
          clear hA hdep
          go_simp
          exact hK _ _ (Below.refl _ _) hC rfl
        · simp only [List.getElem?_toArray, List.getElem?_cons_zero, List.getElem?_cons_succ, Option.some.injEq] at ho
          clear hwt
          subst ho
          simp only [Option.some.injEq] at hd
          subst hd
          have h66 : f 66 = .slice Am ms.length cm := hdep { on := 31, ground := .data } (by simp) rfl 66 rfl
          generalize hA : fr _ _ _ f = A at hK ⊢
          have e66 : A.tmps[66]?.getD undef = f 66 := by rw [← hA]; exact fr_in _ _ _ _ 66 (by decide) (by simp)
          clear hA hdep
          rw [h66] at e66
          clear h66
          go_simp
          refine (highest_any w1 _ Am cm ms hC.m (by omega)).mono ?_
          rintro e' w2 ⟨A5, c5, rfl, ho5, hb2⟩
          exact hK _ _ hb2 (hC.below hb2) ⟨A5, c5, rfl, (OI.si ho5).mono (fun g _ hg => by have := hC.L.gnm; have := hC.L.top; have hg : w1.heap.size ≤ g := hg; show gn < g; omega)⟩
        · simp only [List.getElem?_toArray, List.getElem?_cons_zero, List.getElem?_cons_succ, Option.some.injEq] at ho
          clear hwt
          subst ho
          simp only [Option.some.injEq] at hd
          subst hd
          have h65 : ∃ A' c', f 65 = .slice A' (lowL 2 ms).length c' ∧ SI w1 (fun g => gn < g) A' (lowL 2 ms) := hdep { on := 30, ground := .data } (by simp) rfl 65 rfl
          have h67 : ∃ A' c', f 67 = .slice A' (lowL 2 ms).length c' ∧ SI w1 (fun g => gn < g) A' (lowL 2 ms) := hdep { on := 32, ground := .data } (by simp) rfl 67 rfl
          generalize hA : fr _ _ _ f = A at hK ⊢
          have e65 : A.tmps[65]?.getD undef = f 65 := by rw [← hA]; exact fr_in _ _ _ _ 65 (by decide) (by simp)
          have e67 : A.tmps[67]?.getD undef = f 67 := by rw [← hA]; exact fr_in _ _ _ _ 67 (by decide) (by simp)
          clear hA hdep
          obtain ⟨A4, c4, h65, s54⟩ := h65
          rw [h65] at e65
          have Hf65 := Lib.hid h65
          clear h65
          obtain ⟨A6, c6, h67, s56⟩ := h67
          rw [h67] at e67
          have Hf67 := Lib.hid h67
          clear h67
          go_simp
          refine (Ints_same w1 _ _ A4 A6 c4 c6 (lowL 2 ms) s54 s56 (by rw [Hlow.out]; omega)).mono ?_
          rintro e' w2 ⟨rfl, hb2⟩
          exact hK _ _ hb2 (hC.below hb2) rfl
        · simp only [List.getElem?_toArray, List.getElem?_cons_zero, List.getElem?_cons_succ, Option.some.injEq] at ho
          clear hwt
          subst ho
          simp only [Option.some.injEq] at hd
          subst hd
          have h68 : f 68 = .bool true := hdep { on := 33, ground := .data } (by simp) rfl 68 rfl
          generalize hA : fr _ _ _ f = A at hK ⊢
          have e68 : A.tmps[68]?.getD undef = f 68 := by rw [← hA]; exact fr_in _ _ _ _ 68 (by decide) (by simp)
          clear hA hdep
          rw [h68] at e68
          clear h68
          go_simp
          exact hK _ _ (Below.refl _ _) hC rfl
        · simp only [List.getElem?_toArray, List.getElem?_cons_zero, List.getElem?_cons_succ, Option.some.injEq] at ho
          clear hwt
          subst ho
          simp only [Option.some.injEq] at hd
          subst hd
          have h60 : f 60 = .bool false := hdep { on := 25, ground := .data } (by simp) rfl 60 rfl
          have h69 : f 69 = .bool false := hdep { on := 34, ground := .data } (by simp) rfl 69 rfl
          generalize hA : fr _ _ _ f = A at hK ⊢
          have e60 : A.tmps[60]?.getD undef = f 60 := by rw [← hA]; exact fr_in _ _ _ _ 60 (by decide) (by simp)
          have e69 : A.tmps[69]?.getD undef = f 69 := by rw [← hA]; exact fr_in _ _ _ _ 69 (by decide) (by simp)
          clear hA hdep
          rw [h60] at e60
          clear h60
          rw [h69] at e69
          clear h69
          go_simp
          exact hK _ _ (Below.refl _ _) hC rfl
      · intro f w1 hC hall
        have q70 : f 70 = .bool false := hall 35 70 (by decide) rfl
        have H70 := Lib.hid q70
        clear hall q70
        simp only [fr, upd, List.mapIdx_cons, List.mapIdx_nil]
        simp
        go_wp2_with fail
        go_meet
        case rel => exact ⟨H70.out, hC⟩
    case rest =>
      clear K
      obtain ⟨rfl, K⟩ := hcut
      go_wp2_with (fail)
      go_loopg [73] N (fun g i wr => ∃ k : Nat, k + g = N ∧ i = .int .i64 k ∧ LM w wr gn A1 c1 ns A2 c2 ds Am Aa ms (allL ms))
      case atStart => exact ⟨0, by omega, rfl, K⟩
      case round =>
        clear K
        obtain ⟨k, hk, rfl, K⟩ := hrel
        have Hk := Lib.hid hk
        clear hk
        by_cases hlt : k < N
        · have hka : k < (allL ms).length := by rw [Hal.out]; exact hlt
          obtain ⟨ba, oa, Ar, cr, rfl, hc, _, sR⟩ := K.a.at_ hka
          have eg := Hget.out k hka
          have hrl : (allL ms)[k].length = ms.length := by rw [eg]; exact stF_len _ _ _
          have hr2 : ∀ x ∈ (allL ms)[k], x = 1 ∨ x = 2 := by rw [eg]; exact stF_mem (fun i => bit_two _ _) ms 0 Hm3.out
          have hag : agr (allL ms)[k] ms = true := by rw [eg]; exact stF_agr (fun i => bit_two _ _) ms Hm3.out
          have hmk : maskC isPos ns ds (allL ms)[k] = 0 := mask_ok Hc0.out (by rw [hrl, Hml.out]) hr2
          have Hnx := Lib.hid (fun h1 => Hnext.out k hka h1)
          have HP := Lib.hid (fun (h1 : 1 ≤ k) => show k - 1 < (allL ms).length by omega)
          have HG := agrees_any wr (ht.below K.L.bel) _ _ Ar Am cr cm (allL ms)[k] ms sR K.m (by rw [hrl]; omega) (by omega)
          have HS := mstate_any wr (h.below K.L.bel) (ht.below K.L.bel) (fun _ => True) A1 A2 c1 c2 ns ds (K.L.net.mono (fun _ _ _ => trivial)) (by omega) (by omega) Ar cr (allL ms)[k] sR.tru (by rw [hrl]; omega)
          rw [hag, hrl] at HG
          rw [hmk, hrl] at HS
          rw [hrl] at hc
          have HG := Lib.hid HG
          have HS := Lib.hid HS
          have Hrl := Lib.hid hrl
          have n0 := K.L.n0
          have n1 := K.L.n1
          clear hag hmk hr2 eg hrl
          obtain ⟨row, hrow⟩ : ∃ r, r = (allL ms)[k] := ⟨_, rfl⟩
          rw [← hrow] at sR Hrl
          have Hrow := Lib.hid hrow
          clear hrow
          go_wp2_with (fail)
          refine HG.out.mono ?_
          rintro e w' ⟨rfl, rfl⟩
          go_wp2_with (fail)
          refine HS.out.mono ?_
          rintro e w5 ⟨rfl, hb5⟩
          have K5 := K.below hb5
          have sR5 := sR.keep (Kept.of_below hb5)
          clear HG HS n0 n1 hc K sR hb5
          by_cases hk0 : k = 0
          · subst hk0
            go_wp2_with (fail)
            go_roundg (gk - 1)
            case measure => have := Hk.out; omega
            case rel => exact ⟨1, by have := Hk.out; omega, rfl, K5⟩
          · obtain ⟨k', rfl⟩ : ∃ k', k = k' + 1 := ⟨k - 1, by omega⟩
            obtain ⟨jd, hjd, hje, hj1, hj2⟩ := Hnx.out (by omega)
            rw [← Hrow.out] at hje hj2
            have hpa : k' < (allL ms).length := by omega
            obtain ⟨b9, o9, Ap, cp, e9, hcp, _, sP⟩ := K5.a.at_ hpa
            injection e9 with e9
            injection e9 with e9 e9'
            subst e9 e9'
            have hpl : (allL ms)[k'].length = ms.length := by rw [Hget.out k' hpa]; exact stF_len _ _ _
            have ep : (allL ms)[k' + 1 - 1]'(HP.out (by omega)) = (allL ms)[k'] := by congr 1
            rw [ep] at hj1
            have hje : ∀ j', j' < jd → PO.at_ (allL ms)[k'] j' = PO.at_ row j' := fun j' hj' => by rw [← hje j' hj', ep]
            rw [hpl] at hcp
            obtain ⟨prow, hprow⟩ : ∃ r, r = (allL ms)[k'] := ⟨_, rfl⟩
            rw [← hprow] at sP hj1 hje hpl
            have Hpl := Lib.hid hpl
            have Hje := Lib.hid hje
            have Hj1 := Lib.hid hj1
            have Hj2 := Lib.hid hj2
            have Hk2 := Lib.hid (show (k' + 1) + gk = N from Hk.out)
            clear hprow ep hpl hje hj1 hj2 hk0 Hnx HP Hrow
            go_wp2_with (fail)
            obtain ⟨go, rfl⟩ : ∃ x : Nat, x = gk := ⟨_, rfl⟩
            go_loopg [12, 92] ms.length (fun g l i wr => wr.heap = w5.heap ∧ Below w5.heap.size w5 wr ∧ ∃ j : Nat, j + g = ms.length ∧ i = .int .i64 j ∧ l = .bool false ∧ j ≤ jd)
            case atStart => exact ⟨rfl, Below.refl _ _, 0, by omega, rfl, rfl, Nat.zero_le _⟩
            case round =>
              obtain ⟨hh, hbw, j, hj, rfl, rfl, hjl⟩ := hrel
              have Hj := Lib.hid hj
              clear hj
              have hlj : j < ms.length := by omega
              have hlr : j < row.length := by rw [Hrl.out]; exact hlj
              have hlp : j < prow.length := by rw [Hpl.out]; exact hlj
              obtain ⟨g1, o1, rfl, _, _, a1⟩ := (sR5.keep (Kept.of_below hbw)).at_ hlr
              obtain ⟨g2, o2, rfl, _, _, a2⟩ := (sP.keep (Kept.of_below hbw)).at_ hlp
              rw [← at_get hlr] at a1
              rw [← at_get hlp] at a2
              have hcq : wr.cell? ⟨ba, oa + k', none⟩ = some (.slice (some ⟨g2, o2, none⟩) ms.length cp) := (hbw.cell (p := ⟨ba, oa + k', none⟩) (World.block_lt_of_cell? _ _ hcp)).trans hcp
              by_cases hjj : j = jd
              · subst hjj
                rw [Hj2.out] at a1
                rw [Hj1.out] at a2
                go_wp2_with (fail)
                go_quiet (fail)
                go_wp2_with (fail)
                go_quiet (fail)
                go_wp2_with (fail)
                go_roundg (go - 1)
                case measure => have := Hk2.out; omega
                case rel => exact ⟨k' + 1 + 1, by have := Hk2.out; omega, by go_num, K5.below (hbw.trans (below_drewN _ _ _))⟩
              · have e := Hje.out j (by omega)
                rw [e] at a2
                go_wp2_with (fail)
                go_quiet (fail)
                go_wp2_with (fail)
                go_roundg (gk - 1)
                case measure => have := Hj.out; omega
                case rel => exact ⟨hh, hbw.trans (below_drewN _ _ _), j + 1, by have := Hj.out; omega, by go_num, rfl, by omega⟩
        · have HU := unknown_any wr _ Am cm ms K.m (by omega)
          have HU := Lib.hid HU
          have hpw := wrap_pow (num3 ms) (by omega)
          have HAW := Lib.hid (fun (w' : World) (hb : Below w.heap.size w w') => awake06 w' (ht.below hb))
          go_wp2_with (fail)
          refine HU.out.mono ?_
          rintro e w5 ⟨A5, c5, rfl, _, hb5⟩
          have K5 := K.below hb5
          rw [unk_len]
          rw [HN.out]
          obtain ⟨u, hu⟩ : ∃ u, u = num3 ms := ⟨_, rfl⟩
          rw [← hu] at hpw hm6 ⊢
          clear hu
          go_wp2_with (fail)
          refine (HAW.out _ K5.L.bel).mono ?_
          rintro e w8 ⟨rfl, hb8⟩
          go_wp2_with (fail)
          go_ret
          exact ⟨rfl, K5.L.bel.trans (hb8.mono K5.L.bel.size)⟩
  · have hfd : decide ((xs.length : Int) ≤ 400) = false := decide_eq_false (by omega)
    go_enter Tryd.func11, Tryd.ntmps11
    go_wp2_with (fail)
    refine (few_any w A xs.length c).mono ?_
    rw [hfd]
    rintro e w' ⟨rfl, rfl⟩
    go_wp2_with (fail)
    refine (awake06 w ht).mono ?_
    rintro e w8 ⟨rfl, hb8⟩
    go_wp2_with (fail)
    go_ret
    exact ⟨rfl, hb8⟩
end Go.Proofs.YtpeifmkodoignaaDoor

/-
  The law MaskMeets, walked.
-/
import Derived.Test.YtjncgpchmhkcbaaDoorP06
namespace Go.Proofs.YtjncgpchmhkcbaaDoor
open Go.RowKit
set_option maxHeartbeats 400000
set_option maxRecDepth 100000

theorem MM.sub {w0 w : World} {bd gn : Nat} {cs : Array Value} {A2 : Option Addr} {ds : List Dev} {L L' : List (Option Addr × List Int)} (h : MM w0 w bd gn cs A2 ds L) (hs : ∀ p, p ∈ L' → p ∈ L) : MM w0 w bd gn cs A2 ds L' :=
  ⟨h.tab, h.deck, fun p hp => h.ls p (hs p hp), h.net, h.gne, h.tne, h.devs, h.fr⟩

def MMT (bd n : Nat) (net : Value) (d : Nat) (v : Value) (w : World) : Prop :=
  match d with
  | 23 => v = .pointer (some ⟨bd, 0, none⟩)
  | 24 => v = net
  | 25 => ∃ (A : Option Addr) (c : Nat) (xs : List Int), v = .slice A n c ∧ xs.length = n ∧ xs.all isMask = true ∧ SI w (fun g => g ≠ bd) A xs
  | 26 => v = .pointer (some ⟨bd, 0, none⟩)
  | 27 => v = net
  | 28 => ∃ (A : Option Addr) (c : Nat) (xs : List Int), v = .slice A n c ∧ xs.length = n ∧ xs.all isMask = true ∧ SI w (fun g => g ≠ bd) A xs
  | 5 => ∃ (A : Option Addr) (c : Nat) (xs : List Int), v = .slice A n c ∧ xs.length = n ∧ xs.all isMask = true ∧ SI w (fun g => g ≠ bd) A xs
  | 6 => ∃ (A : Option Addr) (c : Nat) (xs : List Int), v = .slice A n c ∧ xs.length = n ∧ xs.all isMask = true ∧ SI w (fun g => g ≠ bd) A xs
  | _ => True
theorem MMT.stable {bd n : Nat} {net : Value} (d : Nat) (v : Value) (w w' : World) (h : Fr w.heap.size bd w w') (ht : MMT bd n net d v w) : MMT bd n net d v w' := by
  unfold MMT at *
  split at ht <;> first
    | exact ht
    | (obtain ⟨A, c, xs, h1, h2, h3, h4⟩ := ht; exact ⟨A, c, xs, h1, h2, h3, h4.keep (kept_fr h)⟩)

set_option maxHeartbeats 4000000 in
theorem maskMeets_any (w : World) (h : Tab w) (S : Nat → Prop) (A : Option Addr) (c : Nat) (l : List Int) (hs : SI w S A l) :
    Calls Tryd.prog 4 #[.slice A l.length c] w (RetTrue w) := by
  by_cases hbig : 400 < l.length
  · have hb : decide ((l.length : Int) ≤ 400) = false := by simp; omega
    go_enter Tryd.func4, Tryd.ntmps4
    go_wp2_with (first | (go_at_call 14; refine (few_any _ _ _ _).mono ?_; rintro e w1 ⟨rfl, rfl⟩) | (go_at_call 10; (with_reducible refine (awake06 _ h).mono ?_); rintro e w1 ⟨rfl, hb1⟩))
    go_ret
    exact ⟨rfl, hb1⟩
  · have hb : decide ((l.length : Int) ≤ 400) = true := by simp; omega
    go_enter Tryd.func4, Tryd.ntmps4
    go_upto_region 5 with (first | (go_at_call 14; refine (few_any _ _ _ _).mono ?_; rintro e w1 ⟨rfl, rfl⟩) | (go_at_call 15; refine (new_any _ S A c l hs (by omega)).mono ?_; rintro e w1 ⟨rfl, hd1, hb1, hz1⟩) | (go_at_call 16; refine (network_any w1 _ hd1 5 7 (by decide) (by decide) (by decide) (by decide)).mono ?_; rintro e w2 ⟨A1, c1, A2, c2, ns, ds, rfl, ho1, ho2, hd2, hg2, good⟩))
    have hz1' : w.heap.size < w1.heap.size := by omega
    have hb2 : Below w2.heap.size w2 (w2.alloc (.cells #[.slice A1 ns.length c1, .slice A2 ds.length c2] 39)) := (Below.refl _ _).alloc (Nat.le_refl _) _
    have hnet : (w2.alloc (.cells #[.slice A1 ns.length c1, .slice A2 ds.length c2] 39)).heap[w2.heap.size]? = some (.cells #[.slice A1 ns.length c1, .slice A2 ds.length c2] 39 (0, 0)) := heap_alloc_new w2 _
    have hmm : MM w (w2.alloc (.cells #[.slice A1 ns.length c1, .slice A2 ds.length c2] 39)) w.heap.size w2.heap.size #[.slice A1 ns.length c1, .slice A2 ds.length c2] A2 ds [] := by
      have hf : Fr w.heap.size w.heap.size w w2 := (Fr.of_below hb1).trans (Fr.of_grown hg2 (by omega))
      have hf' := hf.trans (Fr.of_below (hb2.mono hf.size))
      exact ⟨h.keep (hf'.block _ h.lt (Nat.ne_of_lt h.lt)), hd2.below hb2, fun p hp => by simp at hp, hnet, by have := hg2.size; omega, Nat.ne_of_lt h.lt, (ho2.sv.mono (T := fun g => g ≠ w.heap.size) (fun g _ hg => by omega)).keep (Kept.of_below hb2), hf'⟩
    have hds : ds.length ≤ 60 := by have := good.few; omega
    clear hnet hb2 hd2 hg2 ho1 ho2 good hd1 hb1 hz1 hz1' hs hb hbig
    generalize w2.alloc (.cells #[.slice A1 ns.length c1, .slice A2 ds.length c2] 39) = w3 at *
    generalize w2.heap.size = gn at *
    obtain ⟨bd, hbd⟩ : ∃ bd, bd = w.heap.size := ⟨_, rfl⟩
    rw [← hbd] at hmm
    rw [← hbd]
    have Hbd := Lib.hid hbd
    clear hbd w1 w2
    go_cut [5, 6] (fun v5 v6 wx => ∃ A c xs B d ys, v5 = .slice A ds.length c ∧ v6 = .slice B ds.length d ∧ xs.length = ds.length ∧ ys.length = ds.length ∧ xs.all isMask = true ∧ ys.all isMask = true ∧ MM w wx bd gn #[.slice A1 ns.length c1, .slice A2 ds.length c2] A2 ds [(A, xs), (B, ys)])
    case first =>
      refine wp_region_ext0 (by kernel_rfl) 8 [23, 24, 25, 26, 27, 28, 5, 6] (fun w' => MM w w' bd gn #[.slice A1 ns.length c1, .slice A2 ds.length c2] A2 ds []) (fun w1 w2 => Fr w1.heap.size bd w1 w2) (fun d v w' => MMT bd ds.length (.agg #[.slice A1 ns.length c1, .slice A2 ds.length c2]) d v w') (by kernel_rfl)
        (hmm.below ((Below.refl _ _).drew)) (fun d v w1 w2 _ h ht => MMT.stable d v w1 w2 h ht) ?_ ?_
      · intro i o d hi ho hd f w1 hC hdep K hK
        clear hmm
        have hi' : i = 0 ∨ i = 1 ∨ i = 2 ∨ i = 3 ∨ i = 4 ∨ i = 5 ∨ i = 6 ∨ i = 7 := by omega
        rcases hi' with rfl | rfl | rfl | rfl | rfl | rfl | rfl | rfl
        · simp only [List.getElem?_toArray, List.getElem?_cons_zero, List.getElem?_cons_succ, Option.some.injEq] at ho
          subst ho
          simp only [Option.some.injEq] at hd
          subst hd
          generalize hA : fr _ _ _ f = A at hK ⊢
          have e3 : A.tmps[3]?.getD undef = .pointer (some ⟨bd, 0, none⟩) := by rw [← hA]; exact fr_out _ _ _ _ 3 _ (by decide) rfl
          clear hA hdep
          go_simp
          exact hK _ _ (Fr.refl _ _ _) hC rfl
        · simp only [List.getElem?_toArray, List.getElem?_cons_zero, List.getElem?_cons_succ, Option.some.injEq] at ho
          subst ho
          simp only [Option.some.injEq] at hd
          subst hd
          generalize hA : fr _ _ _ f = A at hK ⊢
          have e4 : A.tmps[4]?.getD undef = .pointer (some ⟨gn, 0, none⟩) := by rw [← hA]; exact fr_out _ _ _ _ 4 _ (by decide) rfl
          clear hA hdep
          have hcell0 : w1.cell? ⟨gn, 0, none⟩ = some (.slice A1 ns.length c1) := by rw [cell_of_row w1 gn 0 _ _ _ hC.net]; rfl
          have hcell1 : w1.cell? ⟨gn, 1, none⟩ = some (.slice A2 ds.length c2) := by rw [cell_of_row w1 gn 1 _ _ _ hC.net]; rfl
          go_simp
          exact hK _ _ (Fr.refl _ _ _) hC rfl
        · simp only [List.getElem?_toArray, List.getElem?_cons_zero, List.getElem?_cons_succ, Option.some.injEq] at ho
          subst ho
          simp only [Option.some.injEq] at hd
          subst hd
          have h23 : f 23 = .pointer (some ⟨bd, 0, none⟩) := hdep { on := 0, ground := .data } (by simp) rfl 23 rfl
          have h24 : f 24 = .agg #[.slice A1 ns.length c1, .slice A2 ds.length c2] := hdep { on := 1, ground := .data } (by simp) rfl 24 rfl
          generalize hA : fr _ _ _ f = A at hK ⊢
          have e23 : A.tmps[23]?.getD undef = f 23 := by rw [← hA]; exact fr_in _ _ _ _ 23 (by decide) (by simp)
          have e24 : A.tmps[24]?.getD undef = f 24 := by rw [← hA]; exact fr_in _ _ _ _ 24 (by decide) (by simp)
          clear hA hdep
          rw [h23] at e23
          clear h23
          rw [h24] at e24
          clear h24
          go_simp
          refine (masks_any _ _ hC.deck A1 ns.length c1 A2 c2 ds (fun g => g ≠ bd) (fun _ h => h) hC.devs hds 5 (by decide)).mono ?_
          rintro e w2 ⟨A, c, xs, rfl, hxl, hx3, hox, hd2, hf2⟩
          have hbdl := hC.deck.lt
          refine hK _ _ hf2 (hC.next hf2 hd2) ⟨A, c, xs, by rw [hxl], hxl, List.all_eq_true.2 (fun x hx => by simpa [isMask] using hx3 x hx), hox.si.mono (fun g _ hg => by omega)⟩
        · simp only [List.getElem?_toArray, List.getElem?_cons_zero, List.getElem?_cons_succ, Option.some.injEq] at ho
          subst ho
          simp only [Option.some.injEq] at hd
          subst hd
          generalize hA : fr _ _ _ f = A at hK ⊢
          have e3 : A.tmps[3]?.getD undef = .pointer (some ⟨bd, 0, none⟩) := by rw [← hA]; exact fr_out _ _ _ _ 3 _ (by decide) rfl
          clear hA hdep
          go_simp
          exact hK _ _ (Fr.refl _ _ _) hC rfl
        · simp only [List.getElem?_toArray, List.getElem?_cons_zero, List.getElem?_cons_succ, Option.some.injEq] at ho
          subst ho
          simp only [Option.some.injEq] at hd
          subst hd
          generalize hA : fr _ _ _ f = A at hK ⊢
          have e4 : A.tmps[4]?.getD undef = .pointer (some ⟨gn, 0, none⟩) := by rw [← hA]; exact fr_out _ _ _ _ 4 _ (by decide) rfl
          clear hA hdep
          have hcell0 : w1.cell? ⟨gn, 0, none⟩ = some (.slice A1 ns.length c1) := by rw [cell_of_row w1 gn 0 _ _ _ hC.net]; rfl
          have hcell1 : w1.cell? ⟨gn, 1, none⟩ = some (.slice A2 ds.length c2) := by rw [cell_of_row w1 gn 1 _ _ _ hC.net]; rfl
          go_simp
          exact hK _ _ (Fr.refl _ _ _) hC rfl
        · simp only [List.getElem?_toArray, List.getElem?_cons_zero, List.getElem?_cons_succ, Option.some.injEq] at ho
          subst ho
          simp only [Option.some.injEq] at hd
          subst hd
          have h26 : f 26 = .pointer (some ⟨bd, 0, none⟩) := hdep { on := 3, ground := .data } (by simp) rfl 26 rfl
          have h27 : f 27 = .agg #[.slice A1 ns.length c1, .slice A2 ds.length c2] := hdep { on := 4, ground := .data } (by simp) rfl 27 rfl
          generalize hA : fr _ _ _ f = A at hK ⊢
          have e26 : A.tmps[26]?.getD undef = f 26 := by rw [← hA]; exact fr_in _ _ _ _ 26 (by decide) (by simp)
          have e27 : A.tmps[27]?.getD undef = f 27 := by rw [← hA]; exact fr_in _ _ _ _ 27 (by decide) (by simp)
          clear hA hdep
          rw [h26] at e26
          clear h26
          rw [h27] at e27
          clear h27
          go_simp
          refine (masks_any _ _ hC.deck A1 ns.length c1 A2 c2 ds (fun g => g ≠ bd) (fun _ h => h) hC.devs hds 5 (by decide)).mono ?_
          rintro e w2 ⟨A, c, xs, rfl, hxl, hx3, hox, hd2, hf2⟩
          have hbdl := hC.deck.lt
          refine hK _ _ hf2 (hC.next hf2 hd2) ⟨A, c, xs, by rw [hxl], hxl, List.all_eq_true.2 (fun x hx => by simpa [isMask] using hx3 x hx), hox.si.mono (fun g _ hg => by omega)⟩
        · simp only [List.getElem?_toArray, List.getElem?_cons_zero, List.getElem?_cons_succ, Option.some.injEq] at ho
          subst ho
          simp only [Option.some.injEq] at hd
          subst hd
          have q : MMT bd ds.length (.agg #[.slice A1 ns.length c1, .slice A2 ds.length c2]) 25 (f 25) w1 := hdep { on := 2, ground := .data } (by simp) rfl 25 rfl
          generalize hA : fr _ _ _ f = A at hK ⊢
          have e : A.tmps[25]?.getD undef = f 25 := by rw [← hA]; exact fr_in _ _ _ _ 25 (by decide) (by simp)
          have Hq := Lib.hid q
          clear hA hdep q
          go_simp
          exact hK _ _ (Fr.refl _ _ _) hC Hq.out
        · simp only [List.getElem?_toArray, List.getElem?_cons_zero, List.getElem?_cons_succ, Option.some.injEq] at ho
          subst ho
          simp only [Option.some.injEq] at hd
          subst hd
          have q : MMT bd ds.length (.agg #[.slice A1 ns.length c1, .slice A2 ds.length c2]) 28 (f 28) w1 := hdep { on := 5, ground := .data } (by simp) rfl 28 rfl
          generalize hA : fr _ _ _ f = A at hK ⊢
          have e : A.tmps[28]?.getD undef = f 28 := by rw [← hA]; exact fr_in _ _ _ _ 28 (by decide) (by simp)
          have Hq := Lib.hid q
          clear hA hdep q
          go_simp
          exact hK _ _ (Fr.refl _ _ _) hC Hq.out
      · intro f w1 hC hall
        have q5 : MMT bd ds.length (.agg #[.slice A1 ns.length c1, .slice A2 ds.length c2]) 5 (f 5) w1 := hall 6 5 (by decide) rfl
        have q6 : MMT bd ds.length (.agg #[.slice A1 ns.length c1, .slice A2 ds.length c2]) 6 (f 6) w1 := hall 7 6 (by decide) rfl
        have H5 := Lib.hid q5
        have H6 := Lib.hid q6
        clear hall q5 q6
        simp only [fr, upd, List.mapIdx_cons, List.mapIdx_nil]
        simp
        go_wp2_with fail
        go_meet
        case rel =>
          obtain ⟨A, c, xs, e1, e2, e3, e4⟩ := H5.out
          obtain ⟨B, d, ys, f1, f2, f3, f4⟩ := H6.out
          refine ⟨A, c, xs, B, d, ys, e1, f1, e2, f2, e3, f3, hC.tab, hC.deck, fun p hp => ?_, hC.net, hC.gne, hC.tne, hC.devs, hC.fr⟩
          simp at hp
          rcases hp with rfl | rfl
          · exact e4
          · exact f4
    case rest =>
      obtain ⟨Aa, ca, xs, Ab, cb, ys, rfl, rfl, hxl, hyl, hx3, hy3, hmx⟩ := hcut
      obtain ⟨wx, rfl⟩ : ∃ wx : World, wx = wc := ⟨_, rfl⟩
      clear hmm
      generalize hn : ds.length = n at *
      have Hx := Lib.hid hxl
      have Hy := Lib.hid hyl
      have Hx3 := Lib.hid hx3
      have Hy3 := Lib.hid hy3
      clear hxl hyl hx3 hy3
      have hn6 : n ≤ 65536 := by omega
      have sel : ∀ (p : Option Addr × List Int) (L : List (Option Addr × List Int)) (W : World), MM w W bd gn #[.slice A1 ns.length c1, .slice A2 n c2] A2 ds L → p ∈ L → SI W (fun g => g ≠ bd) p.1 p.2 := fun p L W h hp => h.ls p hp
      have Sel := Lib.hid sel
      clear sel
      have Hmx := Lib.hid hmx
      clear hmx
      go_wp2_with (fail)
      refine (meet_n wx Hmx.out.tab _ _ Aa Ab ca cb n n xs ys Hx.out Hy.out (Hmx.out.ls (Aa, xs) (by simp)) (Hmx.out.ls (Ab, ys) (by simp)) hn6 rfl Hx3.out Hy3.out).mono ?_
      rintro e w4 ⟨Am, cm, rfl, ho4, hb4⟩
      have Hm4 := Lib.hid (Hmx.out.add hb4 ho4)
      clear Hmx ho4 hb4
      go_wp2_with (fail)
      refine (meet_n w4 Hm4.out.tab _ _ Ab Aa cb ca n n ys xs Hy.out Hx.out (Hm4.out.ls (Ab, ys) (by simp)) (Hm4.out.ls (Aa, xs) (by simp)) hn6 rfl Hy3.out Hx3.out).mono ?_
      rintro e w5 ⟨Ao, co, rfl, ho5, hb5⟩
      rw [mt_comm, mok_comm]
      rw [mt_comm] at ho5
      have Hm5 := Lib.hid (Hm4.out.add hb5 ho5)
      clear Hm4 ho5 hb5
      go_wp2_with (fail)
      refine (join_n w5 Hm5.out.tab _ _ Aa Ab ca cb n n xs ys Hx.out Hy.out (Hm5.out.ls (Aa, xs) (by simp)) (Hm5.out.ls (Ab, ys) (by simp)) hn6 rfl Hx3.out Hy3.out).mono ?_
      rintro e w6 ⟨Aj, cj, rfl, ho6, hb6⟩
      have Hm6 := Lib.hid (Hm5.out.add hb6 ho6)
      clear Hm5 ho6 hb6
      have Hmt := Lib.hid (mt_len (Hx.out.trans Hy.out.symm))
      have Hmm := Lib.hid (mt_masks Hx3.out Hy3.out)
      have Hfi := Lib.hid (finer_is (Hx.out.trans Hy.out.symm) Hx3.out Hy3.out)
      have Hj3 := Lib.hid (jt_masks Hx3.out Hy3.out)
      have Hjl := Lib.hid (show (List.zipWith orM xs ys).length = n by simp [Hx.out, Hy.out])
      have Hf1 := Lib.hid (finer_jl xs ys)
      have Hf2 := Lib.hid (finer_jr xs ys)
      have Hf3 := Lib.hid (show mok xs ys = true → finer (mt xs ys) xs = true from fun hk => by unfold mt; rw [if_pos hk]; exact finer_ml xs ys)
      have Hf4 := Lib.hid (show mok xs ys = true → finer (mt xs ys) ys = true from fun hk => by unfold mt; rw [if_pos hk]; exact finer_mr xs ys)
      have Hzc := Lib.hid (zip_or_comm ys xs)
      have Hbo := Lib.hid (fun (s : List Int) (hs : s.length = xs.length) => agr_both (s := s) (Hx.out.trans Hy.out.symm) hs Hx3.out Hy3.out)
      have Hor := Lib.hid (fun (s : List Int) (hs : s.length = xs.length) => agr_or (s := s) (Hx.out.trans Hy.out.symm) hs Hx3.out Hy3.out)
      have Hm0 := Lib.hid (show (mt xs ys).length ≤ n by
        unfold mt; split
        · simp [Hx.out, Hy.out]
        · simp)
      generalize mt xs ys = M at *
      generalize mok xs ys = ok at *
      generalize List.zipWith orM xs ys = J at *
      obtain ⟨m, hmd⟩ : ∃ m, m = M.length := ⟨_, rfl⟩
      rw [← hmd]
      have Hmd := Lib.hid hmd
      clear hmd
      have hm6 : m ≤ 65536 := by have := Hm0.out; have := Hmd.out; omega
      have hok : (ok != ok) = false := by cases ok <;> rfl
      go_upto_region 9 with fail
      go_cut [99] (fun v wy => v = .bool false ∧ MM w wy bd gn #[.slice A1 ns.length c1, .slice A2 n c2] A2 ds [(Aj, J), (Ao, M), (Am, M), (Aa, xs), (Ab, ys)])
      case first =>
        go_wp2_with (fail)
        refine (ints_n w6 _ _ Am Ao cm co m m M M Hmd.out.symm Hmd.out.symm (Hm6.out.ls (Am, M) (by simp)) (Hm6.out.ls (Ao, M) (by simp)) hm6 hm6 true (by simp)).mono ?_
        rintro e w7 ⟨rfl, hb7⟩
        have Hm7 := Lib.hid (Hm6.out.below hb7)
        clear Hm6 hb7
        go_wp2_with (fail)
        refine (join_n w7 Hm7.out.tab _ _ Ab Aa cb ca n n ys xs Hy.out Hx.out (Hm7.out.ls (Ab, ys) (by simp)) (Hm7.out.ls (Aa, xs) (by simp)) hn6 rfl Hy3.out Hx3.out).mono ?_
        rintro e w8 ⟨Ak, ck, rfl, ho8, hb8⟩
        rw [Hzc.out] at ho8
        have Hm8 := Lib.hid (Hm7.out.add hb8 ho8)
        clear Hm7 ho8 hb8
        go_wp2_with (fail)
        refine (ints_n w8 _ _ Aj Ak cj ck n n J J Hjl.out Hjl.out (Hm8.out.ls (Aj, J) (by simp)) (Hm8.out.ls (Ak, J) (by simp)) hn6 hn6 true (by simp)).mono ?_
        rintro e w9 ⟨rfl, hb9⟩
        have Hm9 := Lib.hid (Hm8.out.below hb9)
        clear Hm8 hb9
        go_wp2_with (fail)
        refine (finer_n w9 Hm9.out.tab _ _ Aa Aj ca cj n n xs J Hx.out Hjl.out (Hm9.out.ls (Aa, xs) (by simp)) (Hm9.out.ls (Aj, J) (by simp)) hn6 rfl Hx3.out Hj3.out true Hf1.out).mono ?_
        rintro e w10 ⟨rfl, hb10⟩
        have Hm10 := Lib.hid (Hm9.out.below hb10)
        clear Hm9 hb10
        go_wp2_with (fail)
        refine (finer_n w10 Hm10.out.tab _ _ Ab Aj cb cj n n ys J Hy.out Hjl.out (Hm10.out.ls (Ab, ys) (by simp)) (Hm10.out.ls (Aj, J) (by simp)) hn6 rfl Hy3.out Hj3.out true Hf2.out).mono ?_
        rintro e w11 ⟨rfl, hb11⟩
        have Hm11 := Lib.hid (Hm10.out.below hb11)
        clear Hm10 hb11
        cases ok
        · go_wp2_with (fail)
          refine (finer_n w11 Hm11.out.tab _ _ Aa Ab ca cb n n xs ys Hx.out Hy.out (Hm11.out.ls (Aa, xs) (by simp)) (Hm11.out.ls (Ab, ys) (by simp)) hn6 rfl Hx3.out Hy3.out false (by rw [Hfi.out]; rfl)).mono ?_
          rintro e w12 ⟨rfl, hb12⟩
          have Hm12 := Lib.hid (Hm11.out.below hb12)
          clear Hm11 hb12
          go_wp2_with (fail)
          go_meet
          case rel => exact ⟨rfl, Hm12.out.sub (by simp)⟩
        · go_wp2_with (fail)
          refine (finer_n w11 Hm11.out.tab _ _ Am Aa cm ca m n M xs Hmd.out.symm Hx.out (Hm11.out.ls (Am, M) (by simp)) (Hm11.out.ls (Aa, xs) (by simp)) hm6 (by rw [Hmd.out, Hmt.out (by trivial), Hx.out]) (Hmm.out (by trivial)) Hx3.out true (Hf3.out (by trivial))).mono ?_
          rintro e w12 ⟨rfl, hb12⟩
          have Hm12 := Lib.hid (Hm11.out.below hb12)
          clear Hm11 hb12
          go_wp2_with (fail)
          refine (finer_n w12 Hm12.out.tab _ _ Am Ab cm cb m n M ys Hmd.out.symm Hy.out (Hm12.out.ls (Am, M) (by simp)) (Hm12.out.ls (Ab, ys) (by simp)) hm6 (by rw [Hmd.out, Hmt.out (by trivial), Hx.out]) (Hmm.out (by trivial)) Hy3.out true (Hf4.out (by trivial))).mono ?_
          rintro e w13 ⟨rfl, hb13⟩
          have Hm13 := Lib.hid (Hm12.out.below hb13)
          clear Hm12 hb13
          obtain ⟨r, hr⟩ : ∃ r, decide (M = xs) = r := ⟨_, rfl⟩
          have Hr := Lib.hid hr
          clear hr
          have hrr : (r != r) = false := by cases r <;> rfl
          go_wp2_with (fail)
          refine (finer_n w13 Hm13.out.tab _ _ Aa Ab ca cb n n xs ys Hx.out Hy.out (Hm13.out.ls (Aa, xs) (by simp)) (Hm13.out.ls (Ab, ys) (by simp)) hn6 rfl Hx3.out Hy3.out r (by rw [Hfi.out, Hr.out]; rfl)).mono ?_
          rintro e w14 ⟨rfl, hb14⟩
          have Hm14 := Lib.hid (Hm13.out.below hb14)
          clear Hm13 hb14
          go_wp2_with (fail)
          refine (ints_n w14 _ _ Am Aa cm ca m n M xs Hmd.out.symm Hx.out (Hm14.out.ls (Am, M) (by simp)) (Hm14.out.ls (Aa, xs) (by simp)) hm6 hn6 r Hr.out).mono ?_
          rintro e w15 ⟨rfl, hb15⟩
          have Hm15 := Lib.hid (Hm14.out.below hb15)
          clear Hm14 hb15
          go_wp2_with (fail)
          go_meet
          case rel => exact ⟨rfl, Hm15.out.sub (by simp)⟩
      case rest =>
        obtain ⟨rfl, hmy⟩ := hcut
        obtain ⟨wy, rfl⟩ : ∃ wy : World, wy = wc := ⟨_, rfl⟩
        clear Hm6 Hf1 Hf2 Hf3 Hf4 Hfi Hzc Hj3 Hmm
        go_wp2_with (fail)
        go_loopg [12, 13, 14] 6 (fun g i _ _ wr => ∃ k : Nat, k + g = 6 ∧ i = .int .i64 k ∧ MM w wr bd gn #[.slice A1 ns.length c1, .slice A2 n c2] A2 ds [(Aj, J), (Ao, M), (Am, M), (Aa, xs), (Ab, ys)])
        case atStart => exact ⟨0, by omega, rfl, hmy⟩
        case round =>
          clear hmy
          obtain ⟨k, hk, rfl, hmr⟩ := hrel
          have Hk := Lib.hid hk
          clear hk
          by_cases hlt : k < 6
          · have q0 : wr.cell? ⟨gn, 0, none⟩ = some (.slice A1 ns.length c1) := by rw [cell_of_row wr gn 0 _ _ _ hmr.net]; rfl
            have q1 : wr.cell? ⟨gn, 1, none⟩ = some (.slice A2 n c2) := by rw [cell_of_row wr gn 1 _ _ _ hmr.net]; rfl
            have Hmr := Lib.hid hmr
            clear hmr
            go_wp2_with (fail)
            have hst := state_any wr bd Hmr.out.deck A1 ns.length c1 A2 c2 ds (fun g => g ≠ bd) (fun _ h => h) Hmr.out.devs (by omega)
            rw [hn] at hst
            refine hst.mono ?_
            clear hst
            rintro e w7 ⟨As, cs, s, rfl, hsl, hs2, hos, hds7, hf7⟩
            have Hm7 := Lib.hid (Hmr.out.next hf7 hds7)
            have Hs := Lib.hid (hos.si.mono (T := fun g => g ≠ bd) (fun g _ hg => by have := Hmr.out.deck.lt; omega))
            have Hsl := Lib.hid hsl
            have hbo := Hbo.out s (by rw [Hsl.out, Hx.out])
            have hor := Hor.out s (by rw [Hsl.out, Hx.out])
            clear hs2 hos hds7 hf7 Hmr hsl q0 q1
            rw [Hsl.out]
            have h1 := agrees_n w7 Hm7.out.tab _ _ As Aa cs ca n n s xs Hsl.out Hx.out Hs.out (Hm7.out.ls (Aa, xs) (by simp)) hn6 hn6 _ rfl
            have h2 := agrees_n w7 Hm7.out.tab _ _ As Ab cs cb n n s ys Hsl.out Hy.out Hs.out (Hm7.out.ls (Ab, ys) (by simp)) hn6 hn6 _ rfl
            have h3 := agrees_n w7 Hm7.out.tab _ _ As Am cs cm n m s M Hsl.out Hmd.out.symm Hs.out (Hm7.out.ls (Am, M) (by simp)) hn6 hm6 _ rfl
            have h4 := agrees_n w7 Hm7.out.tab _ _ As Aj cs cj n n s J Hsl.out Hjl.out Hs.out (Hm7.out.ls (Aj, J) (by simp)) hn6 hn6 _ rfl
            generalize agr s xs = b1 at *
            generalize agr s ys = b2 at *
            generalize agr s M = b3 at *
            generalize agr s J = b4 at *
            have H1 := Lib.hid h1
            have H2 := Lib.hid h2
            have H3 := Lib.hid h3
            have H4 := Lib.hid h4
            clear h1 h2 h3 h4
            cases b1 <;> cases b2 <;> cases b4 <;> simp at hor <;> cases ok <;> cases b3 <;> simp at hbo
            all_goals
              go_wp2_with (first | (go_at_call 23; (with_reducible refine (H1.out).mono ?_); rintro e w' ⟨rfl, rfl⟩) | (go_at_call 23; (with_reducible refine (H2.out).mono ?_); rintro e w' ⟨rfl, rfl⟩) | (go_at_call 23; (with_reducible refine (H3.out).mono ?_); rintro e w' ⟨rfl, rfl⟩) | (go_at_call 23; (with_reducible refine (H4.out).mono ?_); rintro e w' ⟨rfl, rfl⟩))
              go_roundg (gk - 1)
              case measure => have := Hk.out; omega
              case rel =>
                have := Hk.out
                exact ⟨k + 1, by omega, by go_num, Hm7.out⟩
          · have Hmr := Lib.hid hmr
            clear hmr
            go_wp2_with (go_at_call 10; (with_reducible refine (awake06 _ Hmr.out.tab).mono ?_); rintro e w8 ⟨rfl, hb8⟩)
            go_ret
            have hfe := (Hmr.out.below hb8).fr
            have hbd := Hbd.out
            refine ⟨rfl, hfe.os, hfe.tape, hfe.output, hfe.size, fun b hb => hfe.block b (by omega) (by omega)⟩

/-- as the row asks it -/
theorem maskMeets_row (W : World) (h : Tab W) (A : Option Addr) (c : Nat) (xs : List Int) (hs : SI W (fun _ => True) A xs) :
    Calls Tryd.prog 4 #[.slice A xs.length c] W fun e w' => e = .returned (.bool true) ∧ Below W.heap.size W w' := maskMeets_any W h _ A c xs hs
end Go.Proofs.YtjncgpchmhkcbaaDoor

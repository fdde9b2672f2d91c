/-
  The law MaskAnswers, walked: the inputs that it takes.
-/
import Derived.Test.YtgpcojmdfmngeaaDoorAns
import Derived.Test.YtgpcojmdfmngeaaDoorNar
import Derived.Test.YtgpcojmdfmngeaaDoorRp06
import Derived.Test.YtgpcojmdfmngeaaDoorGa
namespace Go.Proofs.YtgpcojmdfmngeaaDoor
open Go.RowKit
set_option maxHeartbeats 400000
set_option maxRecDepth 100000

theorem Fr.kept {bd : Nat} {a b : World} (h : Fr a.heap.size bd a b) : Kept (fun g => g ≠ bd) a b := ⟨h.size, fun k hk hl => h.block k hl hk⟩
theorem AS.si {w WM W : World} {A : Option Addr} {xs : List Int} (h : AS w WM W) (hs : SI WM (Old w WM) A xs) : SI W (fun _ => True) A xs := h.sv hs
theorem SI.old {w WM : World} {A : Option Addr} {xs : List Int} (hs : SI WM (fun g => g ≠ w.heap.size) A xs) : SI WM (Old w WM) A xs := hs.mono (fun _ hl hg => ⟨hg, hl⟩)
theorem AS.oldi {w WM W : World} {A : Option Addr} {xs : List Int} (h : AS w WM W) (hs : SI WM (Old w WM) A xs) : SI W (Old w W) A xs := (hs.keep h.kept).mono (fun _ hl hg => ⟨hg.1, hl⟩)
theorem AS.oldn {w WM W : World} {A1 A2 : Option Addr} {ns : List Node} {ds : List Dev} (h : AS w WM W) (hs : NetIn WM (Old w WM) A1 A2 ns ds) : NetIn W (Old w W) A1 A2 ns ds := (hs.keep h.kept).mono (fun _ hl hg => ⟨hg.1, hl⟩)
theorem ints_same (w : World) (S T : Nat → Prop) (A B : Option Addr) (c d : Nat) (xs : List Int) (hs : SI w S A xs) (ht : SI w T B xs) (hl : xs.length ≤ 65536) :
    Calls Tryd.prog 23 #[.slice A xs.length c, .slice B xs.length d] w fun e w' => e = .returned (.bool true) ∧ Below w.heap.size w w' :=
  (ints_b w S T A B c d xs xs hs ht hl hl).mono fun _ _ ⟨he, h⟩ => ⟨by rw [he, decide_eq_true rfl], h⟩
theorem SR.at2 {w : World} {S : Nat → Prop} {A : Option Addr} {xss : List (List Int)} (h : SR w S A xss) {k : Nat} (hk : k < xss.length) :
    ∃ b off A' c', A = some ⟨b, off, none⟩ ∧ S b ∧ w.cell? ⟨b, off + k, none⟩ = some (.slice A' xss[k].length c') ∧ SI w S A' xss[k] := by
  obtain ⟨vs, hl, hv, hr⟩ := h
  obtain ⟨A', c', e1, e2, e3⟩ := hr k _ (List.getElem?_eq_getElem hk)
  obtain ⟨b, off, e, hS, _, hc⟩ := hv (by intro h0; subst h0; simp at hl; omega)
  exact ⟨b, off, A', c', e, hS, hc k _ e1, e3⟩

set_option maxHeartbeats 16000000 in
noncomputable def maskRed (w : World) (h : TabC w) (ht : Tab w) (A : Option Addr) (c : Nat) (xs : List Int) (hs : SI w (fun _ => True) A xs) (Aa : Option Addr) (ca : Nat) (la : List Int) (hsa : SI w (fun _ => True) Aa la) (Ab : Option Addr) (cb : Nat) (lb : List Int) (hsb : SI w (fun _ => True) Ab lb)
    (R1 R2 : Option Addr) (d1 d2 : Nat) (rn : List Node) (rd : List Dev) (hr : NetIn w (fun _ => True) R1 R2 rn rd) (hr1 : rn.length ≤ maxLen) (hr2 : rd.length ≤ maxLen) (hf : xs.length ≤ 400) (h100 : la.length ≤ 12) (h200 : lb.length ≤ 12) (hli : lightB rn rd = true) :
    { Q : Prop // Hid Q → Calls Tryd.prog 4 #[.slice A xs.length c, .slice Aa la.length ca, .slice Ab lb.length cb, .agg #[.slice R1 rn.length d1, .slice R2 rd.length d2]] w (RetTrue w) } := by
  apply Subtype.mk
  case property =>
    intro hq
    obtain ⟨w0, hw0⟩ : ∃ x, x = w.alloc (.cells #[.slice R1 rn.length d1, .slice R2 rd.length d2] 26) := ⟨_, rfl⟩
    have hb0 : Below w.heap.size w w0 := by rw [hw0]; exact (Below.refl _ _).alloc (Nat.le_refl _) _
    have hbox0 : w0.heap[w.heap.size]? = some (.cells #[.slice R1 rn.length d1, .slice R2 rd.length d2] 26 (0, 0)) := by rw [hw0]; exact heap_alloc_new w _
    have hgb : w.heap.size < w0.heap.size := (Array.getElem?_eq_some_iff.1 hbox0).1
    have m0 : w0.cell? ⟨w.heap.size, 0, none⟩ = some (.slice R1 rn.length d1) := by rw [cell_of_row w0 _ 0 _ _ _ hbox0]; rfl
    have m1 : w0.cell? ⟨w.heap.size, 1, none⟩ = some (.slice R2 rd.length d2) := by rw [cell_of_row w0 _ 1 _ _ _ hbox0]; rfl
    have h0 := h.below hb0
    have ht0 := ht.below hb0
    have hs0 := hs.keep (Kept.of_below hb0)
    have hsa0 := hsa.keep (Kept.of_below hb0)
    have hsb0 := hsb.keep (Kept.of_below hb0)
    have hr0 := hr.below hb0
    have HW0 := Lib.hid hw0
    have Hbox0 := Lib.hid hbox0
    rw [hw0] at m0 m1
    clear hw0 hbox0
    obtain ⟨gr, hgr⟩ : ∃ x, x = w.heap.size := ⟨_, rfl⟩
    rw [← hgr] at m0 m1 hgb
    have Hgr := Lib.hid hgr
    clear hgr
    have Fin : Hid (∀ W : World, Below w0.heap.size w0 W → Calls Tryd.prog 37 #[] W (fun e w' => e = .returned (.bool true) ∧ Below w.heap.size w w')) := Lib.hid (fun W hb =>
      (awake06 W (ht0.below hb)).mono fun e w' he => ⟨he.1, hb0.trans ((hb.mono hb0.size).trans (he.2.mono (by have := hb0.size; have := hb.size; omega)))⟩)
    have hfd : decide ((xs.length : Int) ≤ 400) = true := decide_eq_true (by omega)
    have d100 : decide ((12 : Int) < (la.length : Int)) = false := decide_eq_false (by omega)
    have d200 : decide ((12 : Int) < (lb.length : Int)) = false := decide_eq_false (by omega)
    have HLt := Lib.hid (light_any w0 _ R1 R2 d1 d2 rn rd hr0 hr1 hr2)
    have Hlen := Lib.hid (@light_len rn rd)
    rw [hli] at HLt
    obtain ⟨hrn, hrd⟩ := Hlen.out hli
    go_enter Tryd.func4, Tryd.ntmps4
    go_wp2_with (fail)
    rw [← Hgr.out, ← HW0.out]
    refine (few_any w0 A xs.length c).mono ?_
    rw [hfd]
    rintro e w' ⟨rfl, rfl⟩
    have n0 : w0.cell? ⟨gr, 0, none⟩ = some (.slice R1 rn.length d1) := by rw [HW0.out]; exact m0
    have n1 : w0.cell? ⟨gr, 1, none⟩ = some (.slice R2 rd.length d2) := by rw [HW0.out]; exact m1
    clear m0 m1
    go_wp2_with (fail)
    refine HLt.out.mono ?_
    rintro e wb ⟨rfl, hb1⟩
    have hs1 := hs0.keep (Kept.of_below hb1)
    have hsa1 := hsa0.keep (Kept.of_below hb1)
    have hsb1 := hsb0.keep (Kept.of_below hb1)
    have hbox1 : wb.heap[gr]? = some (.cells #[.slice R1 rn.length d1, .slice R2 rd.length d2] 26 (0, 0)) := by
      have hq := Hbox0.out
      rw [← Hgr.out] at hq
      exact (hb1.block gr hgb).trans hq
    have h1 := h0.below hb1
    have ht1 := ht0.below hb1
    have hr1' := hr0.below hb1
    have hgb1 : gr < wb.heap.size := by have := hb1.size; omega
    have Fin1 : Hid (∀ W : World, Below wb.heap.size wb W → Calls Tryd.prog 37 #[] W (fun e w' => e = .returned (.bool true) ∧ Below w.heap.size w w')) := Lib.hid (fun W hb => Fin.out W (hb1.trans (hb.mono hb1.size)))
    have Hbox1 := Lib.hid hbox1
    clear n0 n1 hs0 hsa0 hsb0 h0 ht0 hr0 HLt Fin hb1 hgb hbox1 Hbox0 HW0 hb0 w0
    go_wp2_with (fail)
    refine (new_any wb _ A c xs hs1 hf).mono ?_
    rintro e w2 ⟨rfl, hd2, hb2, hz2⟩
    have Hz2 := Lib.hid hz2
    clear hz2
    go_wp2_with (fail)
    refine (network_any w2 wb.heap.size hd2 6 9 (by decide) (by decide) (by decide) (by decide)).mono ?_
    rintro e w3 ⟨A1, c1, A2, c2, ns, ds, rfl, ho1, ho2, hd3, hg3, hgood⟩
    have L := LS.start hd2 hb2 Hz2.out ho1 ho2 hd3 hg3 hgood
    have hnl : ns.length ≤ 6 := hgood.most
    have hdl : ds.length ≤ 9 := hgood.few
    obtain ⟨W5, hW⟩ : ∃ W, W = w3.alloc (.cells #[.slice A1 ns.length c1, .slice A2 ds.length c2] 26) := ⟨_, rfl⟩
    rw [← hW] at L
    have HW := Lib.hid hW
    clear hd2 hb2 Hz2 ho1 ho2 hd3 hg3 hW
    obtain ⟨gn, hgn⟩ : ∃ x, x = w3.heap.size := ⟨_, rfl⟩
    rw [← hgn] at L
    have Hgn := Lib.hid hgn
    clear hgn
    go_upto_region 5 with (fail)
    rw [← HW.out, ← Hgn.out]
    clear HW Hgn w3 w2
    have n0 := L.n0
    have n1 := L.n1
    have S5 := AS.start L.deck L.bel
    have hgnb : gn ≠ wb.heap.size := by have := L.gne; omega
    have hgnl : gn < W5.heap.size := World.block_lt_of_cell? W5 _ n0
    have LOld := Lib.hid (L.net.mono (T := Old wb W5) (fun g hl hg => ⟨by omega, hl⟩))
    clear hs1 L
    go_cut [11, 12] (fun v11 v12 wx => AS wb W5 wx ∧ (∃ (M : Option Addr) (mc : Nat) (ml : List Int), v11 = .slice M ml.length mc ∧ ml.length = ds.length ∧ SI wx (fun g => g ≠ wb.heap.size) M ml) ∧ ∃ (M : Option Addr) (mc : Nat) (ml : List Int), v12 = .slice M ml.length mc ∧ ml.length = ds.length ∧ SI wx (fun g => g ≠ wb.heap.size) M ml)
    case first =>
      clear hsa1 hsb1 h1 ht1 hr1' Hbox1 Fin1
      refine wp_region_ext1 (by kernel_rfl) 8 [54, 55, 56, 57, 58, 59, 11, 12] (fun w' => AS wb W5 w') (fun a b => Fr a.heap.size wb.heap.size a b) (fun d vv w' => if d = 54 then vv = .pointer (some ⟨wb.heap.size, 0, none⟩) else if d = 55 then vv = .agg #[.slice A1 ns.length c1, .slice A2 ds.length c2] else if d = 57 then vv = .pointer (some ⟨wb.heap.size, 0, none⟩) else if d = 58 then vv = .agg #[.slice A1 ns.length c1, .slice A2 ds.length c2] else if d = 56 then ∃ (M : Option Addr) (mc : Nat) (ml : List Int), vv = .slice M ml.length mc ∧ ml.length = ds.length ∧ SI w' (fun g => g ≠ wb.heap.size) M ml else if d = 59 then ∃ (M : Option Addr) (mc : Nat) (ml : List Int), vv = .slice M ml.length mc ∧ ml.length = ds.length ∧ SI w' (fun g => g ≠ wb.heap.size) M ml else if d = 11 then ∃ (M : Option Addr) (mc : Nat) (ml : List Int), vv = .slice M ml.length mc ∧ ml.length = ds.length ∧ SI w' (fun g => g ≠ wb.heap.size) M ml else if d = 12 then ∃ (M : Option Addr) (mc : Nat) (ml : List Int), vv = .slice M ml.length mc ∧ ml.length = ds.length ∧ SI w' (fun g => g ≠ wb.heap.size) M ml else False) (by kernel_rfl) (S5.drew) (fun d v a b hC hE hT => by
          have key : (∃ (M : Option Addr) (mc : Nat) (ml : List Int), v = .slice M ml.length mc ∧ ml.length = ds.length ∧ SI a (fun g => g ≠ wb.heap.size) M ml) → ∃ (M : Option Addr) (mc : Nat) (ml : List Int), v = .slice M ml.length mc ∧ ml.length = ds.length ∧ SI b (fun g => g ≠ wb.heap.size) M ml := fun ⟨M, mc, ml, e1, e2, e3⟩ => ⟨M, mc, ml, e1, e2, e3.keep ⟨hE.size, fun k hk hl => hE.block k hl hk⟩⟩
          by_cases h56 : d = 56
          · subst h56; exact key hT
          by_cases h59 : d = 59
          · subst h59; exact key hT
          by_cases h11 : d = 11
          · subst h11; exact key hT
          by_cases h12 : d = 12
          · subst h12; exact key hT
          simp only [if_neg h56, if_neg h59, if_neg h11, if_neg h12] at hT ⊢
          exact hT) ?_ ?_
      · intro i o d hi ho hd f w1 hC hdep K hK
        have hi' : i = 0 ∨ i = 1 ∨ i = 2 ∨ i = 3 ∨ i = 4 ∨ i = 5 ∨ i = 6 ∨ i = 7 := by omega
        rcases hi' with rfl | rfl | rfl | rfl | rfl | rfl | rfl | rfl
        · simp only [List.getElem?_toArray, List.getElem?_cons_zero, Option.some.injEq] at ho
          subst ho
          simp only [Option.some.injEq] at hd
          subst hd
          generalize hA : fr _ _ _ f = A at hK ⊢
          have e9 : A.tmps[9]?.getD undef = .pointer (some ⟨wb.heap.size, 0, none⟩) := by rw [← hA]; exact fr_out _ _ _ _ 9 _ (by decide) rfl
          clear hA hdep
          go_simp
          exact hK _ _ (Fr.refl _ _ _) hC rfl
        · simp only [List.getElem?_toArray, List.getElem?_cons_zero, List.getElem?_cons_succ, Option.some.injEq] at ho
          subst ho
          simp only [Option.some.injEq] at hd
          subst hd
          generalize hA : fr _ _ _ f = A at hK ⊢
          have e10 : A.tmps[10]?.getD undef = .pointer (some ⟨gn, 0, none⟩) := by rw [← hA]; exact fr_out _ _ _ _ 10 _ (by decide) rfl
          clear hA hdep
          have hcell0 := (hC.fr.cell hgnl hgnb 0).trans n0
          have hcell1 := (hC.fr.cell hgnl hgnb 1).trans n1
          go_simp
          exact hK _ _ (Fr.refl _ _ _) hC rfl
        · simp only [List.getElem?_toArray, List.getElem?_cons_zero, List.getElem?_cons_succ, Option.some.injEq] at ho
          subst ho
          simp only [Option.some.injEq] at hd
          subst hd
          have h54 : f 54 = .pointer (some ⟨wb.heap.size, 0, none⟩) := hdep { on := 0, ground := .data } (by simp) rfl 54 rfl
          have h55 : f 55 = .agg #[.slice A1 ns.length c1, .slice A2 ds.length c2] := hdep { on := 1, ground := .data } (by simp) rfl 55 rfl
          generalize hA : fr _ _ _ f = A at hK ⊢
          have e54 : A.tmps[54]?.getD undef = f 54 := by rw [← hA]; exact fr_in _ _ _ _ 54 (by decide) (by simp)
          have e55 : A.tmps[55]?.getD undef = f 55 := by rw [← hA]; exact fr_in _ _ _ _ 55 (by decide) (by simp)
          clear hA hdep
          rw [h54] at e54
          clear h54
          rw [h55] at e55
          clear h55
          go_simp
          refine (masks_few w1 wb.heap.size hC.deck A1 ns.length c1 A2 c2 ds (fun g => g ≠ wb.heap.size) (fun b hb => hb) ((LOld.out.devs.keep hC.kept).mono (fun g _ hg => hg.1)) (by omega) 5 (by decide)).mono ?_
          rintro e' w2 ⟨M, mc, ml, rfl, l1, l2, l3, ho, hd2, hf2⟩
          exact hK _ _ hf2 (hC.frd hf2 hd2) ⟨M, mc, ml, rfl, l1, (OI.si ho).mono (fun g _ hg => by have := hC.deck.lt; have hg : w1.heap.size ≤ g := hg; show g ≠ wb.heap.size; omega)⟩
        · simp only [List.getElem?_toArray, List.getElem?_cons_zero, List.getElem?_cons_succ, Option.some.injEq] at ho
          subst ho
          simp only [Option.some.injEq] at hd
          subst hd
          generalize hA : fr _ _ _ f = A at hK ⊢
          have e9 : A.tmps[9]?.getD undef = .pointer (some ⟨wb.heap.size, 0, none⟩) := by rw [← hA]; exact fr_out _ _ _ _ 9 _ (by decide) rfl
          clear hA hdep
          go_simp
          exact hK _ _ (Fr.refl _ _ _) hC rfl
        · simp only [List.getElem?_toArray, List.getElem?_cons_zero, List.getElem?_cons_succ, Option.some.injEq] at ho
          subst ho
          simp only [Option.some.injEq] at hd
          subst hd
          generalize hA : fr _ _ _ f = A at hK ⊢
          have e10 : A.tmps[10]?.getD undef = .pointer (some ⟨gn, 0, none⟩) := by rw [← hA]; exact fr_out _ _ _ _ 10 _ (by decide) rfl
          clear hA hdep
          have hcell0 := (hC.fr.cell hgnl hgnb 0).trans n0
          have hcell1 := (hC.fr.cell hgnl hgnb 1).trans n1
          go_simp
          exact hK _ _ (Fr.refl _ _ _) hC rfl
        · simp only [List.getElem?_toArray, List.getElem?_cons_zero, List.getElem?_cons_succ, Option.some.injEq] at ho
          subst ho
          simp only [Option.some.injEq] at hd
          subst hd
          have h57 : f 57 = .pointer (some ⟨wb.heap.size, 0, none⟩) := hdep { on := 3, ground := .data } (by simp) rfl 57 rfl
          have h58 : f 58 = .agg #[.slice A1 ns.length c1, .slice A2 ds.length c2] := hdep { on := 4, ground := .data } (by simp) rfl 58 rfl
          generalize hA : fr _ _ _ f = A at hK ⊢
          have e57 : A.tmps[57]?.getD undef = f 57 := by rw [← hA]; exact fr_in _ _ _ _ 57 (by decide) (by simp)
          have e58 : A.tmps[58]?.getD undef = f 58 := by rw [← hA]; exact fr_in _ _ _ _ 58 (by decide) (by simp)
          clear hA hdep
          rw [h57] at e57
          clear h57
          rw [h58] at e58
          clear h58
          go_simp
          refine (masks_few w1 wb.heap.size hC.deck A1 ns.length c1 A2 c2 ds (fun g => g ≠ wb.heap.size) (fun b hb => hb) ((LOld.out.devs.keep hC.kept).mono (fun g _ hg => hg.1)) (by omega) 4 (by decide)).mono ?_
          rintro e' w2 ⟨M, mc, ml, rfl, l1, l2, l3, ho, hd2, hf2⟩
          exact hK _ _ hf2 (hC.frd hf2 hd2) ⟨M, mc, ml, rfl, l1, (OI.si ho).mono (fun g _ hg => by have := hC.deck.lt; have hg : w1.heap.size ≤ g := hg; show g ≠ wb.heap.size; omega)⟩
        · simp only [List.getElem?_toArray, List.getElem?_cons_zero, List.getElem?_cons_succ, Option.some.injEq] at ho
          subst ho
          simp only [Option.some.injEq] at hd
          subst hd
          have h56 : ∃ (M : Option Addr) (mc : Nat) (ml : List Int), f 56 = .slice M ml.length mc ∧ ml.length = ds.length ∧ SI w1 (fun g => g ≠ wb.heap.size) M ml := hdep { on := 2, ground := .data } (by simp) rfl 56 rfl
          generalize hA : fr _ _ _ f = A at hK ⊢
          have e56 : A.tmps[56]?.getD undef = f 56 := by rw [← hA]; exact fr_in _ _ _ _ 56 (by decide) (by simp)
          clear hA hdep
          obtain ⟨M56, mc56, ml56, h56, q1, q2⟩ := h56
          rw [h56] at e56
          have Hf56 := Lib.hid h56
          clear h56
          go_simp
          exact hK _ _ (Fr.refl _ _ _) hC ⟨M56, mc56, ml56, by rw [q1], q1, q2⟩
        · simp only [List.getElem?_toArray, List.getElem?_cons_zero, List.getElem?_cons_succ, Option.some.injEq] at ho
          subst ho
          simp only [Option.some.injEq] at hd
          subst hd
          have h59 : ∃ (M : Option Addr) (mc : Nat) (ml : List Int), f 59 = .slice M ml.length mc ∧ ml.length = ds.length ∧ SI w1 (fun g => g ≠ wb.heap.size) M ml := hdep { on := 5, ground := .data } (by simp) rfl 59 rfl
          generalize hA : fr _ _ _ f = A at hK ⊢
          have e59 : A.tmps[59]?.getD undef = f 59 := by rw [← hA]; exact fr_in _ _ _ _ 59 (by decide) (by simp)
          clear hA hdep
          obtain ⟨M59, mc59, ml59, h59, q1, q2⟩ := h59
          rw [h59] at e59
          have Hf59 := Lib.hid h59
          clear h59
          go_simp
          exact hK _ _ (Fr.refl _ _ _) hC ⟨M59, mc59, ml59, by rw [q1], q1, q2⟩
      · intro f w1 hC hall
        have q0 : ∃ (M : Option Addr) (mc : Nat) (ml : List Int), f 11 = .slice M ml.length mc ∧ ml.length = ds.length ∧ SI w1 (fun g => g ≠ wb.heap.size) M ml := hall 6 11 (by decide) rfl
        have q1 : ∃ (M : Option Addr) (mc : Nat) (ml : List Int), f 12 = .slice M ml.length mc ∧ ml.length = ds.length ∧ SI w1 (fun g => g ≠ wb.heap.size) M ml := hall 7 12 (by decide) rfl
        have Q0 := Lib.hid q0
        have Q1 := Lib.hid q1
        clear hall q0 q1
        simp only [fr, upd, List.mapIdx_cons, List.mapIdx_nil]
        simp
        go_wp2_with fail
        go_meet
        case rel => exact ⟨hC, Q0.out, Q1.out⟩
    case rest =>
      obtain ⟨W6, rfl⟩ : ∃ x, x = wc := ⟨_, rfl⟩
      obtain ⟨S6, ⟨Am, mc, ml, rfl, hml, sm⟩, ⟨Ak, kc, kl, rfl, hkl, sk⟩⟩ := hcut
      have hml9 : ml.length ≤ 9 := by omega
      have hkl9 : kl.length ≤ 9 := by omega
      clear hml hkl
      go_wp2_with (fail)
      refine (within_any W6 wb.heap.size S6.deck _ (fun b hb => hb) Am mc ml sm (by omega)).mono ?_
      rintro e W7 ⟨As, sc, sl, rfl, hsl, _, ho7, hd7, hf7⟩
      have S7 := S6.frd hf7 hd7
      have sm7 : SI W7 (fun g => g ≠ wb.heap.size) Am ml := sm.keep ⟨hf7.size, fun b hb hl => hf7.block b hl hb⟩
      have sk7 : SI W7 (fun g => g ≠ wb.heap.size) Ak kl := sk.keep ⟨hf7.size, fun b hb hl => hf7.block b hl hb⟩
      have ss7 : SI W7 (fun g => g ≠ wb.heap.size) As sl := (OI.si ho7).mono (fun g _ hg => by have := S6.deck.lt; have hg : W6.heap.size ≤ g := hg; show g ≠ wb.heap.size; omega)
      have hsl9 : sl.length ≤ 9 := by omega
      obtain ⟨W8, hW8⟩ : ∃ x, x = W7.alloc (.cells #[.int .i64 0, .int .i64 1, .int .i64 2, .int .i64 3, .int .i64 4, .int .i64 (-1)] 3) := ⟨_, rfl⟩
      have hb8 : Below W7.heap.size W7 W8 := by rw [hW8]; exact (Below.refl _ _).alloc (Nat.le_refl _) _
      have S8 := S7.below hb8
      have sv8 : SI W8 (fun g => g ≠ wb.heap.size) (some ⟨W7.heap.size, 0, none⟩) [0, 1, 2, 3, 4, -1] := by
        rw [hW8]
        exact (OI.lit W7 [0, 1, 2, 3, 4, -1] (by simp [maxLen])).si.mono (fun g _ hg => by have := S7.deck.lt; have hg : W7.heap.size ≤ g := hg; show g ≠ wb.heap.size; omega)
      have hBt := Lib.hid (bent_any W8 wb.heap.size S8.deck _ (fun b hb => hb) Am mc ml (sm7.keep (Kept.of_below hb8)) (by omega) _ 6 [0, 1, 2, 3, 4, -1] sv8 (by decide) (by decide))
      have HW8 := Lib.hid hW8
      clear hsl ho7 hd7 hf7 sm sk S6 hW8
      go_wp2_with (fail)
      rw [← HW8.out]
      refine hBt.out.mono ?_
      rintro e W9 ⟨Abt, bc, bl, rfl, hbl, sb9, hd9, hf9⟩
      have S9 := S8.frd hf9 hd9
      have sm9 := (sm7.keep (Kept.of_below hb8)).keep hf9.kept
      have sk9 := (sk7.keep (Kept.of_below hb8)).keep hf9.kept
      have ss9 := (ss7.keep (Kept.of_below hb8)).keep hf9.kept
      have sb9' : SI W9 (fun g => g ≠ wb.heap.size) Abt bl := sb9.mono (fun g _ hg => by have := S8.deck.lt; have hg : W8.heap.size ≤ g := hg; show g ≠ wb.heap.size; omega)
      have sa9 : SI W9 (fun g => g ≠ wb.heap.size) Aa la := (hsa1.mono (T := fun g => g ≠ wb.heap.size) (fun g hl _ => by show g ≠ wb.heap.size; omega)).keep ⟨S9.bel.size, fun b _ hl => S9.bel.block b hl⟩
      have sz9 : SI W9 (fun g => g ≠ wb.heap.size) Ab lb := (hsb1.mono (T := fun g => g ≠ wb.heap.size) (fun g hl _ => by show g ≠ wb.heap.size; omega)).keep ⟨S9.bel.size, fun b _ hl => S9.bel.block b hl⟩
      have hbl10 : bl.length ≤ 10 := by omega
      clear hBt HW8 hbl sb9 hd9 hf9 sm7 sk7 ss7 sv8 hb8 S8 S7 hsa1 hsb1
      obtain ⟨WM, hWM⟩ : ∃ x, x = W9.alloc (.cells #[.slice Aa la.length ca, .slice Am ml.length mc, .slice Ak kl.length kc, .slice As sl.length sc, .slice Abt bl.length bc, .slice none 0 0] 22) := ⟨_, rfl⟩
      have hrow : WM.heap[W9.heap.size]? = some (.cells #[.slice Aa la.length ca, .slice Am ml.length mc, .slice Ak kl.length kc, .slice As sl.length sc, .slice Abt bl.length bc, .slice none 0 0] 22 (0, 0)) := by rw [hWM]; exact heap_alloc_new W9 _
      have hbM : Below W9.heap.size W9 WM := by rw [hWM]; exact (Below.refl _ _).alloc (Nat.le_refl _) _
      have HWM := Lib.hid hWM
      clear hWM
      obtain ⟨gx, hgx'⟩ : ∃ x, x = W9.heap.size := ⟨_, rfl⟩
      rw [← hgx'] at hrow
      have hgx : gx ≠ wb.heap.size := by have := S9.deck.lt; omega
      have hgxl : gx < WM.heap.size := (Array.getElem?_eq_some_iff.1 hrow).1
      have S5M := S9.below hbM
      have SM := AS.start S5M.deck S5M.bel
      have hx : ∀ k, k < 6 → ∃ (X : Option Addr) (xc : Nat) (xl : List Int), WM.cell? ⟨gx, k, none⟩ = some (.slice X xl.length xc) ∧ SI WM (Old wb WM) X xl ∧ xl.length ≤ 14 := by
        intro k hk
        have hk6 : k = 0 ∨ k = 1 ∨ k = 2 ∨ k = 3 ∨ k = 4 ∨ k = 5 := by omega
        rcases hk6 with rfl | rfl | rfl | rfl | rfl | rfl
        · exact ⟨Aa, ca, la, by rw [cell_of_row WM _ _ _ _ _ hrow]; rfl, (sa9.keep (Kept.of_below hbM)).old, by omega⟩
        · exact ⟨Am, mc, ml, by rw [cell_of_row WM _ _ _ _ _ hrow]; rfl, (sm9.keep (Kept.of_below hbM)).old, by omega⟩
        · exact ⟨Ak, kc, kl, by rw [cell_of_row WM _ _ _ _ _ hrow]; rfl, (sk9.keep (Kept.of_below hbM)).old, by omega⟩
        · exact ⟨As, sc, sl, by rw [cell_of_row WM _ _ _ _ _ hrow]; rfl, (ss9.keep (Kept.of_below hbM)).old, by omega⟩
        · exact ⟨Abt, bc, bl, by rw [cell_of_row WM _ _ _ _ _ hrow]; rfl, (sb9'.keep (Kept.of_below hbM)).old, by omega⟩
        · exact ⟨none, 0, [], by rw [cell_of_row WM _ _ _ _ _ hrow]; rfl, SI.nil, by simp⟩
      have HX := Lib.hid hx
      have HZ := Lib.hid (show SI WM (Old wb WM) Ab lb ∧ SI WM (Old wb WM) Am ml ∧ SI WM (Old wb WM) Ak kl ∧ SI WM (Old wb WM) As sl from ⟨(sz9.keep (Kept.of_below hbM)).old, (sm9.keep (Kept.of_below hbM)).old, (sk9.keep (Kept.of_below hbM)).old, (ss9.keep (Kept.of_below hbM)).old⟩)
      have hnM := S5M.oldn LOld.out
      have hrM : NetIn WM (Old wb WM) R1 R2 rn rd := Old.net hr1' S5M.bel
      have hbxM := (S5M.bel.block gr hgb1).trans Hbox1.out
      have M0 := Lib.hid (show WM.cell? ⟨gn, 0, none⟩ = some (.slice A1 ns.length c1) ∧ WM.cell? ⟨gn, 1, none⟩ = some (.slice A2 ds.length c2) ∧ WM.cell? ⟨gr, 0, none⟩ = some (.slice R1 rn.length d1) ∧ WM.cell? ⟨gr, 1, none⟩ = some (.slice R2 rd.length d2) from
        ⟨(S5M.fr.cell hgnl hgnb 0).trans n0, (S5M.fr.cell hgnl hgnb 1).trans n1, by rw [cell_of_row WM _ 0 _ _ _ hbxM]; rfl, by rw [cell_of_row WM _ 1 _ _ _ hbxM]; rfl⟩)
      have hgrb : gr ≠ wb.heap.size := by omega
      have hgnM : gn < WM.heap.size := by have := S5M.size; omega
      have hgrM : gr < WM.heap.size := by have := S5M.bel.size; omega
      have Hgx := Lib.hid hgx'
      clear hx hrow hbxM hgx' hbM sm9 sk9 ss9 sb9' sa9 sz9 n0 n1 hgnl LOld hr1' Hbox1 S5M S9 S5
      go_wp2_with (fail)
      rw [← HWM.out, ← Hgx.out]
      generalize W7.heap.size = g69
      clear HWM Hgx W5 W6 W7 W8 W9
      go_loopg [73] 6 (fun g i wr => ∃ k : Nat, k + g = 6 ∧ i = .int .i64 k ∧ AS wb WM wr)
      case atStart => exact ⟨0, rfl, rfl, SM⟩
      case round =>
        clear SM
        obtain ⟨k, hk, rfl, S⟩ := hrel
        have Hk := Lib.hid hk
        clear hk
        obtain ⟨gkm, rfl⟩ : ∃ x : Nat, x = gk := ⟨_, rfl⟩
        by_cases hlt : k < 6
        · obtain ⟨X, xc, xl, q1, sx, hxl⟩ := HX.out k hlt
          have q2 := (S.fr.cell hgxl hgx k).trans q1
          obtain ⟨cn, ce, HCt⟩ : ∃ cn ce : Int, Hid ((∀ W, AS wb WM W → Calls Tryd.prog 41 #[.slice X xl.length xc] W fun e w' => e = .returned (.tuple #[.int .i64 cn, .int .i64 ce]) ∧ Below W.heap.size W w') ∧
              ∀ W, AS wb WM W → Calls Tryd.prog 42 #[.slice X xl.length xc] W fun e w' => e = .returned (.tuple #[.int .i64 cn, .int .i64 ce]) ∧ Below W.heap.size W w') :=
            ⟨(cnt xl).1, (cnt xl).2, Lib.hid ⟨fun W hW => count_any W (ht1.below hW.bel) _ X xc xl (hW.si sx) (by omega), fun W hW => refCount_any W _ X xc xl (hW.si sx) (by omega)⟩⟩
          obtain ⟨rows, ae, HA, hrl, hr256⟩ : ∃ (rows : List (List Int)) (ae : Int), Hid ((∀ W, AS wb WM W → Calls Tryd.prog 43 #[.slice X xl.length xc] W fun e w' => ∃ A c, e = .returned (.tuple #[.slice A rows.length c, .int .i64 ae]) ∧ SR w' (fun g => W.heap.size ≤ g) A rows ∧ Below W.heap.size W w') ∧
              ∀ W, AS wb WM W → Calls Tryd.prog 44 #[.slice X xl.length xc] W fun e w' => ∃ A c, e = .returned (.tuple #[.slice A rows.length c, .int .i64 ae]) ∧ SR w' (fun g => W.heap.size ≤ g) A rows ∧ Below W.heap.size W w') ∧ Hid (∀ r ∈ rows, r.length = xl.length) ∧ rows.length ≤ 256 :=
            ⟨(allV xl).1, (allV xl).2, Lib.hid ⟨fun W hW => allV_any W (ht1.below hW.bel) _ X xc xl (hW.si sx) (by omega), fun W hW => refAllV_any W _ X xc xl (hW.si sx) (by omega)⟩, Lib.hid (allV_row xl), allV_len xl⟩
          clear q1
          go_wp2_with (fail)
          clear q2
          refine (HCt.out.1 wr S).mono ?_
          rintro e W1 ⟨rfl, hb1⟩
          have S1 := S.below hb1
          clear hb1 S
          go_wp2_with (fail)
          refine (HCt.out.2 W1 S1).mono ?_
          rintro e W2 ⟨rfl, hb2⟩
          have S2 := S1.below hb2
          clear hb2 S1 HCt W1
          go_wp2_with (fail)
          refine (HA.out.1 W2 S2).mono ?_
          rintro e W3 ⟨P1, pc1, rfl, sp3, hb3⟩
          have S3 := S2.below hb3
          have sp3' : SR W3 (fun g => g ≠ wb.heap.size) P1 rows := sp3.mono (fun g _ hg => by have := S2.deck.lt; have hg : W2.heap.size ≤ g := hg; show g ≠ wb.heap.size; omega)
          clear hb3 S2 sp3
          go_wp2_with (fail)
          refine (HA.out.2 W3 S3).mono ?_
          rintro e WA ⟨P2, pc2, rfl, sq4, hb4⟩
          have SA1 := S3.below hb4
          have SA := AS.start SA1.deck SA1.bel
          have srP : SR WA (Old wb WA) P1 rows := (sp3'.keep (Kept.of_below hb4)).mono (fun g hl hg => ⟨hg, hl⟩)
          have srQ : SR WA (Old wb WA) P2 rows := sq4.mono (fun g hl hg => ⟨by have := S3.deck.lt; have hg : W3.heap.size ≤ g := hg; omega, hl⟩)
          have sxA := SA1.oldi sx
          have hnA := SA1.oldn hnM
          have hrA := SA1.oldn hrM
          have x0 := (SA1.fr.cell hgnM hgnb 0).trans M0.out.1
          have x1 := (SA1.fr.cell hgnM hgnb 1).trans M0.out.2.1
          have z0 := (SA1.fr.cell hgrM hgrb 0).trans M0.out.2.2.1
          have z1 := (SA1.fr.cell hgrM hgrb 1).trans M0.out.2.2.2
          have hgnl : gn < WA.heap.size := by have := SA1.size; omega
          have hgrl : gr < WA.heap.size := by have := SA1.size; omega
          have HCn1 : Hid (∀ W, AS wb WA W → Calls Tryd.prog 45 #[.agg #[.slice A1 ns.length c1, .slice A2 ds.length c2], .slice X xl.length xc] W fun e w' => e = .returned (.int .i64 (maskC isMask ns ds xl)) ∧ Below W.heap.size W w') :=
            Lib.hid fun W hW => mmask_any W (h1.below hW.bel) (ht1.below hW.bel) _ A1 A2 c1 c2 ns ds (hW.net hnA) (by omega) (by omega) X xc xl (hW.si sxA) (by omega)
          have HCn2 : Hid (∀ W, AS wb WA W → Calls Tryd.prog 46 #[.agg #[.slice A1 ns.length c1, .slice A2 ds.length c2], .slice X xl.length xc] W fun e w' => e = .returned (.int .i64 (maskC isMask ns ds xl)) ∧ Below W.heap.size W w') :=
            Lib.hid fun W hW => refCheck6_any W _ A1 A2 c1 c2 ns ds (hW.net hnA) (by omega) (by omega) X xc xl (hW.si sxA) (by omega)
          have HSn1 : Hid (∀ W, AS wb WA W → Calls Tryd.prog 47 #[.agg #[.slice A1 ns.length c1, .slice A2 ds.length c2], .slice X xl.length xc] W fun e w' => e = .returned (.int .i64 (maskC isPos ns ds xl)) ∧ Below W.heap.size W w') :=
            Lib.hid fun W hW => mstate_any W (h1.below hW.bel) (ht1.below hW.bel) _ A1 A2 c1 c2 ns ds (hW.net hnA) (by omega) (by omega) X xc xl (hW.si sxA) (by omega)
          have HSn2 : Hid (∀ W, AS wb WA W → Calls Tryd.prog 48 #[.agg #[.slice A1 ns.length c1, .slice A2 ds.length c2], .slice X xl.length xc] W fun e w' => e = .returned (.int .i64 (maskC isPos ns ds xl)) ∧ Below W.heap.size W w') :=
            Lib.hid fun W hW => refState_any W _ A1 A2 c1 c2 ns ds (hW.net hnA) (by omega) (by omega) X xc xl (hW.si sxA) (by omega)
          have HCr1 : Hid (∀ W, AS wb WA W → Calls Tryd.prog 45 #[.agg #[.slice R1 rn.length d1, .slice R2 rd.length d2], .slice X xl.length xc] W fun e w' => e = .returned (.int .i64 (maskC isMask rn rd xl)) ∧ Below W.heap.size W w') :=
            Lib.hid fun W hW => mmask_any W (h1.below hW.bel) (ht1.below hW.bel) _ R1 R2 d1 d2 rn rd (hW.net hrA) (by omega) (by omega) X xc xl (hW.si sxA) (by omega)
          have HCr2 : Hid (∀ W, AS wb WA W → Calls Tryd.prog 46 #[.agg #[.slice R1 rn.length d1, .slice R2 rd.length d2], .slice X xl.length xc] W fun e w' => e = .returned (.int .i64 (maskC isMask rn rd xl)) ∧ Below W.heap.size W w') :=
            Lib.hid fun W hW => refCheck6_any W _ R1 R2 d1 d2 rn rd (hW.net hrA) (by omega) (by omega) X xc xl (hW.si sxA) (by omega)
          have HSr1 : Hid (∀ W, AS wb WA W → Calls Tryd.prog 47 #[.agg #[.slice R1 rn.length d1, .slice R2 rd.length d2], .slice X xl.length xc] W fun e w' => e = .returned (.int .i64 (maskC isPos rn rd xl)) ∧ Below W.heap.size W w') :=
            Lib.hid fun W hW => mstate_any W (h1.below hW.bel) (ht1.below hW.bel) _ R1 R2 d1 d2 rn rd (hW.net hrA) (by omega) (by omega) X xc xl (hW.si sxA) (by omega)
          have HSr2 : Hid (∀ W, AS wb WA W → Calls Tryd.prog 48 #[.agg #[.slice R1 rn.length d1, .slice R2 rd.length d2], .slice X xl.length xc] W fun e w' => e = .returned (.int .i64 (maskC isPos rn rd xl)) ∧ Below W.heap.size W w') :=
            Lib.hid fun W hW => refState_any W _ R1 R2 d1 d2 rn rd (hW.net hrA) (by omega) (by omega) X xc xl (hW.si sxA) (by omega)
          clear hb4 S3 sp3' sq4 HA hnA hrA sxA W2 W3
          go_upto_region 14 with (fail)
          go_cut [152] (fun v152 wx => v152 = .bool false ∧ AS wb WA wx)
          case first =>
            clear srP srQ hrl HX HZ M0 Hk SA1 h1 ht1 Fin1 hnM hrM sx
            rename_i K4 a7 J1 K3 a6 a5 hh K2 a4 K1 a3 K0 a2 J0 Kq a1 a0
            revert gr wb A1 c1 A2 c2 ns ds gn Am mc ml Ak kc kl As sc sl Abt bc bl WM gx g69 wr k gkm X xc xl cn ce rows ae P1 pc1 WA P2 pc2 u31 u32 u33 u34 u35 u36 u37 u38 u39 u40 u41 u42 u43 u44 u45 u46 u47 u48 u49 u50 u51 u52 u53 u54 u55 u56 u57 u58 u59 u60 u61 u62 u63 u64 u65 u66 u67 u68 u69 u70 u252 u8 u15 u16 u17 u18 u19 u20 u21 u22 u23 u24 u26 u27 u28 u29 u30 u74 u75 u76 u77 u78 u79 u80 u81 u82 u83 u84 u85 u86 u87 u88 u89 u90 u91 u92 u93 u94 u95 u96 u97 u98 u99 u100 u101 u102 u103 u104 u105 u106 u107 u108 u109 u110 u111 u112 u113 u114 u115 u116 u117 u118 u119 u120 u121 u122 u123 u124 u125 u126 u127 u128 u129 u130 u131 u132 u133 u134 u135 u136 u137 u138 u139 u140 u141 u142 u143 u144 u145 u146 u147 u148 u149 u150 u151 u152 u153 u154 u155 u156 u157 u158 u159 u160 u161 u162 u163 u164 u165 u166 u167 u168 u169 u170 u171 u172 u173 u174 u175 u176 u177 u178 u179 u180 u181 u182 u183 u184 u185 u186 u187 u188 u189 u190 u191 u192 u193 u194 u195 u196 u197 u198 u199 u200 u201 u202 u203 u204 u205 u206 u207 u208 u209 u210 u211 u212 u213 u214 u215 u216 u217 u218 u219 u220 u221 u222 u223 u224 u225 u226 u227 u228 u229 u230 u231 u232 u233 u234 u235 u236 u237 u238 u239 u240 u241 u242 u243 u244 u245 u246 u247 u248 u249 u250 u251 K4 J1 K3 K2 K1 K0 J0 Kq
            exact hq.out
          case rest =>
            clear HCn1 HCn2 HSn1 HSn2 HCr1 HCr2 HSr1 HSr2 x0 x1 z0 z1 hgnl hgrl SA
            obtain ⟨Wa, rfl⟩ : ∃ x, x = wc := ⟨_, rfl⟩
            obtain ⟨rfl, SA⟩ := hcut
            go_wp2_with (fail)
            go_loopg [155] rows.length (fun g i wr => ∃ j : Nat, j + g = rows.length ∧ i = .int .i64 j ∧ AS wb WA wr)
            case atStart => exact ⟨0, by omega, rfl, SA⟩
            case round =>
              clear SA
              obtain ⟨j, hj, rfl, S⟩ := hrel
              have Hj := Lib.hid hj
              clear hj
              by_cases hjl : j < rows.length
              · obtain ⟨bu, ou, Q1, qc1, rfl, hbu, qu, su⟩ := srP.at2 hjl
                obtain ⟨bv, ov, Q2, qc2, rfl, hbv, qv, sv⟩ := srQ.at2 hjl
                have hrj : rows[j].length ≤ 14 := by have := hrl.out rows[j] (List.getElem_mem hjl); omega
                obtain ⟨r, hr⟩ : ∃ r, r = rows[j] := ⟨_, rfl⟩
                rw [← hr] at qu qv su sv hrj
                have HI : Hid (∀ W, AS wb WA W → Calls Tryd.prog 23 #[.slice Q1 r.length qc1, .slice Q2 r.length qc2] W fun e w' => e = .returned (.bool true) ∧ Below W.heap.size W w') :=
                  Lib.hid fun W hW => ints_same W _ _ Q1 Q2 qc1 qc2 r (hW.si su) (hW.si sv) (by omega)
                clear hr su sv srP srQ
                go_upto_region 19 with (fail)
                go_cut [167] (fun v wx => v = .bool false ∧ AS wb WA wx)
                case first =>
                  clear hrl HX HZ M0 Hk Hj SA1 h1 ht1 Fin1 hnM hrM sx
                  refine wp_region_ext1 (by kernel_rfl) 10 [158, 159, 160, 161, 162, 163, 164, 165, 166, 167] (fun w' => AS wb WA w') (fun _ _ => True) (fun d vv w' => if d = 158 then vv = .slice (some ⟨bu, ou, none⟩) rows.length pc1 else if d = 159 then vv = .int .i64 (j : Nat) else if d = 160 then vv = .pointer (some ⟨bu, ou + j, none⟩) else if d = 161 then vv = .slice Q1 r.length qc1 else if d = 162 then vv = .slice (some ⟨bv, ov, none⟩) rows.length pc2 else if d = 163 then vv = .int .i64 (j : Nat) else if d = 164 then vv = .pointer (some ⟨bv, ov + j, none⟩) else if d = 165 then vv = .slice Q2 r.length qc2 else if d = 166 then vv = .bool true else if d = 167 then vv = .bool false else False) (by kernel_rfl) (S.drew) (fun _ _ _ _ _ _ h => h) ?_ ?_
                  · intro i o d hi ho hd f w1 hC hdep K hK
                    have hi' : i = 0 ∨ i = 1 ∨ i = 2 ∨ i = 3 ∨ i = 4 ∨ i = 5 ∨ i = 6 ∨ i = 7 ∨ i = 8 ∨ i = 9 := by omega
                    rcases hi' with rfl | rfl | rfl | rfl | rfl | rfl | rfl | rfl | rfl | rfl
                    · simp only [List.getElem?_toArray, List.getElem?_cons_zero, Option.some.injEq] at ho
                      subst ho
                      simp only [Option.some.injEq] at hd
                      subst hd
                      generalize hA : fr _ _ _ f = A at hK ⊢
                      have e20 : A.tmps[20]?.getD undef = .slice (some ⟨bu, ou, none⟩) rows.length pc1 := by rw [← hA]; exact fr_out _ _ _ _ 20 _ (by decide) rfl
                      clear hA hdep
                      go_simp
                      exact hK _ _ trivial hC rfl
                    · simp only [List.getElem?_toArray, List.getElem?_cons_zero, List.getElem?_cons_succ, Option.some.injEq] at ho
                      subst ho
                      simp only [Option.some.injEq] at hd
                      subst hd
                      generalize hA : fr _ _ _ f = A at hK ⊢
                      have e24 : A.tmps[24]?.getD undef = .int .i64 (j : Nat) := by rw [← hA]; exact fr_out _ _ _ _ 24 _ (by decide) rfl
                      clear hA hdep
                      go_simp
                      exact hK _ _ trivial hC rfl
                    · simp only [List.getElem?_toArray, List.getElem?_cons_zero, List.getElem?_cons_succ, Option.some.injEq] at ho
                      subst ho
                      simp only [Option.some.injEq] at hd
                      subst hd
                      have h158 : f 158 = .slice (some ⟨bu, ou, none⟩) rows.length pc1 := hdep { on := 0, ground := .data } (by simp) rfl 158 rfl
                      have h159 : f 159 = .int .i64 (j : Nat) := hdep { on := 1, ground := .data } (by simp) rfl 159 rfl
                      generalize hA : fr _ _ _ f = A at hK ⊢
                      have e158 : A.tmps[158]?.getD undef = f 158 := by rw [← hA]; exact fr_in _ _ _ _ 158 (by decide) (by simp)
                      have e159 : A.tmps[159]?.getD undef = f 159 := by rw [← hA]; exact fr_in _ _ _ _ 159 (by decide) (by simp)
                      clear hA hdep
                      rw [h158] at e158
                      clear h158
                      rw [h159] at e159
                      clear h159
                      go_simp
                      exact hK _ _ trivial hC rfl
                    · simp only [List.getElem?_toArray, List.getElem?_cons_zero, List.getElem?_cons_succ, Option.some.injEq] at ho
                      subst ho
                      simp only [Option.some.injEq] at hd
                      subst hd
                      have h160 : f 160 = .pointer (some ⟨bu, ou + j, none⟩) := hdep { on := 2, ground := .data } (by simp) rfl 160 rfl
                      generalize hA : fr _ _ _ f = A at hK ⊢
                      have e160 : A.tmps[160]?.getD undef = f 160 := by rw [← hA]; exact fr_in _ _ _ _ 160 (by decide) (by simp)
                      clear hA hdep
                      rw [h160] at e160
                      clear h160
                      have hcell := (hC.fr.cell hbu.2 hbu.1 (ou + j)).trans qu
                      go_simp
                      exact hK _ _ trivial hC rfl
                    · simp only [List.getElem?_toArray, List.getElem?_cons_zero, List.getElem?_cons_succ, Option.some.injEq] at ho
                      subst ho
                      simp only [Option.some.injEq] at hd
                      subst hd
                      generalize hA : fr _ _ _ f = A at hK ⊢
                      have e22 : A.tmps[22]?.getD undef = .slice (some ⟨bv, ov, none⟩) rows.length pc2 := by rw [← hA]; exact fr_out _ _ _ _ 22 _ (by decide) rfl
                      clear hA hdep
                      go_simp
                      exact hK _ _ trivial hC rfl
                    · simp only [List.getElem?_toArray, List.getElem?_cons_zero, List.getElem?_cons_succ, Option.some.injEq] at ho
                      subst ho
                      simp only [Option.some.injEq] at hd
                      subst hd
                      generalize hA : fr _ _ _ f = A at hK ⊢
                      have e24 : A.tmps[24]?.getD undef = .int .i64 (j : Nat) := by rw [← hA]; exact fr_out _ _ _ _ 24 _ (by decide) rfl
                      clear hA hdep
                      go_simp
                      exact hK _ _ trivial hC rfl
                    · simp only [List.getElem?_toArray, List.getElem?_cons_zero, List.getElem?_cons_succ, Option.some.injEq] at ho
                      subst ho
                      simp only [Option.some.injEq] at hd
                      subst hd
                      have h162 : f 162 = .slice (some ⟨bv, ov, none⟩) rows.length pc2 := hdep { on := 4, ground := .data } (by simp) rfl 162 rfl
                      have h163 : f 163 = .int .i64 (j : Nat) := hdep { on := 5, ground := .data } (by simp) rfl 163 rfl
                      generalize hA : fr _ _ _ f = A at hK ⊢
                      have e162 : A.tmps[162]?.getD undef = f 162 := by rw [← hA]; exact fr_in _ _ _ _ 162 (by decide) (by simp)
                      have e163 : A.tmps[163]?.getD undef = f 163 := by rw [← hA]; exact fr_in _ _ _ _ 163 (by decide) (by simp)
                      clear hA hdep
                      rw [h162] at e162
                      clear h162
                      rw [h163] at e163
                      clear h163
                      go_simp
                      exact hK _ _ trivial hC rfl
                    · simp only [List.getElem?_toArray, List.getElem?_cons_zero, List.getElem?_cons_succ, Option.some.injEq] at ho
                      subst ho
                      simp only [Option.some.injEq] at hd
                      subst hd
                      have h164 : f 164 = .pointer (some ⟨bv, ov + j, none⟩) := hdep { on := 6, ground := .data } (by simp) rfl 164 rfl
                      generalize hA : fr _ _ _ f = A at hK ⊢
                      have e164 : A.tmps[164]?.getD undef = f 164 := by rw [← hA]; exact fr_in _ _ _ _ 164 (by decide) (by simp)
                      clear hA hdep
                      rw [h164] at e164
                      clear h164
                      have hcell := (hC.fr.cell hbv.2 hbv.1 (ov + j)).trans qv
                      go_simp
                      exact hK _ _ trivial hC rfl
                    · simp only [List.getElem?_toArray, List.getElem?_cons_zero, List.getElem?_cons_succ, Option.some.injEq] at ho
                      subst ho
                      simp only [Option.some.injEq] at hd
                      subst hd
                      have h161 : f 161 = .slice Q1 r.length qc1 := hdep { on := 3, ground := .data } (by simp) rfl 161 rfl
                      have h165 : f 165 = .slice Q2 r.length qc2 := hdep { on := 7, ground := .data } (by simp) rfl 165 rfl
                      generalize hA : fr _ _ _ f = A at hK ⊢
                      have e161 : A.tmps[161]?.getD undef = f 161 := by rw [← hA]; exact fr_in _ _ _ _ 161 (by decide) (by simp)
                      have e165 : A.tmps[165]?.getD undef = f 165 := by rw [← hA]; exact fr_in _ _ _ _ 165 (by decide) (by simp)
                      clear hA hdep
                      rw [h161] at e161
                      clear h161
                      rw [h165] at e165
                      clear h165
                      go_simp
                      refine (HI.out w1 hC).mono ?_
                      rintro e' w2 ⟨rfl, hb2⟩
                      exact hK _ _ trivial (hC.below hb2) rfl
                    · simp only [List.getElem?_toArray, List.getElem?_cons_zero, List.getElem?_cons_succ, Option.some.injEq] at ho
                      subst ho
                      simp only [Option.some.injEq] at hd
                      subst hd
                      have h166 : f 166 = .bool true := hdep { on := 8, ground := .data } (by simp) rfl 166 rfl
                      generalize hA : fr _ _ _ f = A at hK ⊢
                      have e166 : A.tmps[166]?.getD undef = f 166 := by rw [← hA]; exact fr_in _ _ _ _ 166 (by decide) (by simp)
                      clear hA hdep
                      rw [h166] at e166
                      clear h166
                      go_simp
                      exact hK _ _ trivial hC (by simp)
                  · intro f w1 hC hall
                    have q0 : f 167 = .bool false := hall 9 167 (by decide) rfl
                    have Q0 := Lib.hid q0
                    clear hall q0
                    simp only [fr, upd, List.mapIdx_cons, List.mapIdx_nil]
                    simp
                    go_wp2_with fail
                    go_meet
                    case rel => exact ⟨Q0.out, hC⟩
                case rest =>
                  obtain ⟨Wq, rfl⟩ : ∃ x, x = wc := ⟨_, rfl⟩
                  obtain ⟨rfl, Sq⟩ := hcut
                  go_wp2_with (fail)
                  go_roundg (gk - 1)
                  case measure => have := Hj.out; omega
                  case rel => exact ⟨j + 1, by have := Hj.out; omega, by go_num, Sq⟩
              · clear Hj srP srQ hrl
                obtain ⟨V0, rfl⟩ : ∃ x, x = wr := ⟨_, rfl⟩
                have S0 := SA1.more S
                clear S SA1
                have hul := unkL_len xl
                have hl1 := lowL_len 1 xl
                have hl2 := lowL_len 2 xl
                obtain ⟨yu, hyu⟩ : ∃ x, x = unk xl 0 := ⟨_, rfl⟩
                obtain ⟨y1, hy1⟩ : ∃ x, x = lowL 1 xl := ⟨_, rfl⟩
                obtain ⟨y2, hy2⟩ : ∃ x, x = lowL 2 xl := ⟨_, rfl⟩
                rw [← hyu] at hul
                rw [← hy1] at hl1
                rw [← hy2] at hl2
                have HL : Hid (yu.length ≤ 14 ∧ y1.length ≤ 14 ∧ y2.length ≤ 14) := Lib.hid ⟨by omega, by omega, by omega⟩
                have HU : Hid ((∀ W, AS wb WM W → Calls Tryd.prog 49 #[.slice X xl.length xc] W (RetOI W yu)) ∧ ∀ W, AS wb WM W → Calls Tryd.prog 50 #[.slice X xl.length xc] W (RetOI W yu)) := Lib.hid (by
                  rw [hyu]; exact ⟨fun W hW => unknown_any W _ X xc xl (hW.si sx) (by omega), fun W hW => refUnknown_any W _ X xc xl (hW.si sx) (by omega)⟩)
                have HO : Hid ((∀ W, AS wb WM W → Calls Tryd.prog 51 #[.slice X xl.length xc] W (RetOI W y1)) ∧ ∀ W, AS wb WM W → Calls Tryd.prog 52 #[.slice X xl.length xc] W (RetOI W y1)) := Lib.hid (by
                  rw [hy1]; exact ⟨fun W hW => lowest_any W _ X xc xl (hW.si sx) (by omega), fun W hW => refLowest_any W _ X xc xl (hW.si sx) (by omega)⟩)
                have HH : Hid ((∀ W, AS wb WM W → Calls Tryd.prog 53 #[.slice X xl.length xc] W (RetOI W y2)) ∧ ∀ W, AS wb WM W → Calls Tryd.prog 54 #[.slice X xl.length xc] W (RetOI W y2)) := Lib.hid (by
                  rw [hy2]; exact ⟨fun W hW => highest_any W _ X xc xl (hW.si sx) (by omega), fun W hW => refHighest_any W _ X xc xl (hW.si sx) (by omega)⟩)
                clear hul hl1 hl2 hyu hy1 hy2
                go_wp2_with (fail)
                refine (HU.out.1 V0 S0).mono ?_
                rintro e V1 ⟨U1, uc1, rfl, ho1, hb1⟩
                have S1 := S0.below hb1
                clear S0
                go_wp2_with (fail)
                refine (HU.out.2 V1 S1).mono ?_
                rintro e V2 ⟨U2, uc2, rfl, ho2, hb2⟩
                have S2 := S1.below hb2
                clear S1
                go_wp2_with (fail)
                refine (ints_same V2 _ _ U1 U2 uc1 uc2 yu (ho1.si.keep (Kept.of_below hb2)) ho2.si (by have := HL.out.1; omega)).mono ?_
                rintro e V3 ⟨rfl, hb3⟩
                have S3 := S2.below hb3
                clear S2 ho1 ho2 hb1 hb2 hb3
                go_wp2_with (fail)
                refine (HO.out.1 V3 S3).mono ?_
                rintro e V4 ⟨U1, uc1, rfl, ho1, hb4⟩
                have S4 := S3.below hb4
                clear S3
                go_wp2_with (fail)
                refine (HO.out.2 V4 S4).mono ?_
                rintro e V5 ⟨U2, uc2, rfl, ho2, hb5⟩
                have S5 := S4.below hb5
                clear S4
                go_wp2_with (fail)
                refine (ints_same V5 _ _ U1 U2 uc1 uc2 y1 (ho1.si.keep (Kept.of_below hb5)) ho2.si (by have := HL.out.2.1; omega)).mono ?_
                rintro e V6 ⟨rfl, hb6⟩
                have S6 := S5.below hb6
                clear S5 ho1 ho2 hb4 hb5 hb6
                go_wp2_with (fail)
                refine (HH.out.1 V6 S6).mono ?_
                rintro e V7 ⟨U1, uc1, rfl, ho1, hb7⟩
                have S7 := S6.below hb7
                clear S6
                go_wp2_with (fail)
                refine (HH.out.2 V7 S7).mono ?_
                rintro e V8 ⟨U2, uc2, rfl, ho2, hb8⟩
                have S8 := S7.below hb8
                clear S7
                go_wp2_with (fail)
                refine (ints_same V8 _ _ U1 U2 uc1 uc2 y2 (ho1.si.keep (Kept.of_below hb8)) ho2.si (by have := HL.out.2.2; omega)).mono ?_
                rintro e V9 ⟨rfl, hb9⟩
                have S9 := S8.below hb9
                clear S8 ho1 ho2 hb7 hb8 hb9
                obtain ⟨WQ, hWQ⟩ : ∃ x, x = V9.alloc (.cells #[.slice Ab lb.length cb, .slice Am ml.length mc, .slice Ak kl.length kc, .slice As sl.length sc] 22) := ⟨_, rfl⟩
                have hrow : WQ.heap[V9.heap.size]? = some (.cells #[.slice Ab lb.length cb, .slice Am ml.length mc, .slice Ak kl.length kc, .slice As sl.length sc] 22 (0, 0)) := by rw [hWQ]; exact heap_alloc_new V9 _
                have SQ1 : AS wb WM WQ := by rw [hWQ]; exact S9.below ((Below.refl _ _).alloc (Nat.le_refl _) _)
                have HWQ := Lib.hid hWQ
                clear hWQ
                obtain ⟨gy, hgy'⟩ : ∃ x, x = V9.heap.size := ⟨_, rfl⟩
                rw [← hgy'] at hrow
                have hgy : gy ≠ wb.heap.size := by have := S9.deck.lt; omega
                have hgyl : gy < WQ.heap.size := (Array.getElem?_eq_some_iff.1 hrow).1
                have SQ := AS.start SQ1.deck SQ1.bel
                have hy : ∀ k, k < 4 → ∃ (Y : Option Addr) (yc : Nat) (yl : List Int), WQ.cell? ⟨gy, k, none⟩ = some (.slice Y yl.length yc) ∧ SI WM (Old wb WM) Y yl ∧ yl.length ≤ 14 := by
                  intro k hk
                  have hk4 : k = 0 ∨ k = 1 ∨ k = 2 ∨ k = 3 := by omega
                  rcases hk4 with rfl | rfl | rfl | rfl
                  · exact ⟨Ab, cb, lb, by rw [cell_of_row WQ _ _ _ _ _ hrow]; rfl, HZ.out.1, by omega⟩
                  · exact ⟨Am, mc, ml, by rw [cell_of_row WQ _ _ _ _ _ hrow]; rfl, HZ.out.2.1, by omega⟩
                  · exact ⟨Ak, kc, kl, by rw [cell_of_row WQ _ _ _ _ _ hrow]; rfl, HZ.out.2.2.1, by omega⟩
                  · exact ⟨As, sc, sl, by rw [cell_of_row WQ _ _ _ _ _ hrow]; rfl, HZ.out.2.2.2, by omega⟩
                have HY := Lib.hid hy
                have Hgy := Lib.hid hgy'
                clear hy hrow hgy' S9 HU HO HH HL
                go_wp2_with (fail)
                rw [← HWQ.out, ← Hgy.out]
                clear HWQ Hgy
                go_loopg [197] 4 (fun g i wr => ∃ j : Nat, j + g = 4 ∧ i = .int .i64 j ∧ AS wb WQ wr)
                case atStart => exact ⟨0, rfl, rfl, SQ⟩
                case round =>
                  clear SQ
                  obtain ⟨i4, hj, rfl, E0⟩ := hrel
                  have Hj := Lib.hid hj
                  clear hj
                  by_cases hjl4 : i4 < 4
                  · obtain ⟨Y, yc, yl, q1, sy, hyl⟩ := HY.out i4 hjl4
                    have q2 := (E0.fr.cell hgyl hgy i4).trans q1
                    obtain ⟨Z0, rfl⟩ : ∃ x, x = wr := ⟨_, rfl⟩
                    obtain ⟨mm, mb, HM, hmm⟩ : ∃ (mm : List Int) (mb : Bool), Hid ((∀ W, AS wb WM W → Calls Tryd.prog 55 #[.slice X xl.length xc, .slice Y yl.length yc] W fun e w' => ∃ A c, e = .returned (.tuple #[.slice A mm.length c, .bool mb]) ∧ OI w' (fun g => W.heap.size ≤ g) A c mm ∧ Below W.heap.size W w') ∧ ∀ W, AS wb WM W → Calls Tryd.prog 56 #[.slice X xl.length xc, .slice Y yl.length yc] W fun e w' => ∃ A c, e = .returned (.tuple #[.slice A mm.length c, .bool mb]) ∧ OI w' (fun g => W.heap.size ≤ g) A c mm ∧ Below W.heap.size W w') ∧ mm.length ≤ 14 :=
                      ⟨(meetV xl yl).1, (meetV xl yl).2, Lib.hid ⟨fun W hW => meetV_any W (ht1.below hW.bel) _ _ X Y xc yc xl yl (hW.si sx) (hW.si sy) (by omega) (by omega), fun W hW => refMeet_any W _ _ X Y xc yc xl yl (hW.si sx) (hW.si sy) (by omega) (by omega)⟩, by have := meetV_len xl yl; omega⟩
                    obtain ⟨jj, HJ, hjj⟩ : ∃ jj : List Int, Hid ((∀ W, AS wb WM W → Calls Tryd.prog 57 #[.slice X xl.length xc, .slice Y yl.length yc] W fun e w' => ∃ A c, e = .returned (.slice A jj.length c) ∧ OI w' (fun g => W.heap.size ≤ g) A c jj ∧ Below W.heap.size W w') ∧ ∀ W, AS wb WM W → Calls Tryd.prog 58 #[.slice X xl.length xc, .slice Y yl.length yc] W fun e w' => ∃ A c, e = .returned (.slice A jj.length c) ∧ OI w' (fun g => W.heap.size ≤ g) A c jj ∧ Below W.heap.size W w') ∧ jj.length ≤ 14 :=
                      ⟨joinV xl yl, Lib.hid ⟨fun W hW => joinV_any W (ht1.below hW.bel) _ _ X Y xc yc xl yl (hW.si sx) (hW.si sy) (by omega) (by omega), fun W hW => refJoin_any W _ _ X Y xc yc xl yl (hW.si sx) (hW.si sy) (by omega) (by omega)⟩, by have := joinV_len xl yl; omega⟩
                    obtain ⟨fb, HF⟩ : ∃ fb : Bool, Hid ((∀ W, AS wb WM W → Calls Tryd.prog 59 #[.slice X xl.length xc, .slice Y yl.length yc] W fun e w' => e = .returned (.bool fb) ∧ Below W.heap.size W w') ∧ ∀ W, AS wb WM W → Calls Tryd.prog 60 #[.slice X xl.length xc, .slice Y yl.length yc] W fun e w' => e = .returned (.bool fb) ∧ Below W.heap.size W w') :=
                      ⟨finV xl yl, Lib.hid ⟨fun W hW => finV_any W (ht1.below hW.bel) _ _ X Y xc yc xl yl (hW.si sx) (hW.si sy) (by omega) (by omega), fun W hW => refFiner_any W _ _ X Y xc yc xl yl (hW.si sx) (hW.si sy) (by omega) (by omega)⟩⟩
                    obtain ⟨ab, HG⟩ : ∃ ab : Bool, Hid ((∀ W, AS wb WM W → Calls Tryd.prog 61 #[.slice X xl.length xc, .slice Y yl.length yc] W fun e w' => e = .returned (.bool ab) ∧ Below W.heap.size W w') ∧ ∀ W, AS wb WM W → Calls Tryd.prog 62 #[.slice X xl.length xc, .slice Y yl.length yc] W fun e w' => e = .returned (.bool ab) ∧ Below W.heap.size W w') :=
                      ⟨agr xl yl, Lib.hid ⟨fun W hW => (agrees_any W (ht1.below hW.bel) _ _ X Y xc yc xl yl (hW.si sx) (hW.si sy) (by omega) (by omega)).mono fun e w' he => ⟨he.1, by rw [← he.2]; exact Below.refl _ _⟩, fun W hW => refAgrees_any W _ _ X Y xc yc xl yl (hW.si sx) (hW.si sy) (by omega) (by omega)⟩⟩
                    clear q1
                    go_wp2_with (fail)
                    clear q2
                    refine (HM.out.1 Z0 (SQ1.more E0)).mono ?_
                    rintro e Z1 ⟨U1, uc1, rfl, ho1, hb1⟩
                    have E1 := E0.below hb1
                    clear E0
                    go_wp2_with (fail)
                    refine (HM.out.2 Z1 (SQ1.more E1)).mono ?_
                    rintro e Z2 ⟨U2, uc2, rfl, ho2, hb2⟩
                    have E2 := E1.below hb2
                    clear E1
                    go_wp2_with (fail)
                    refine (ints_same Z2 _ _ U1 U2 uc1 uc2 mm (ho1.si.keep (Kept.of_below hb2)) ho2.si (by omega)).mono ?_
                    rintro e Z3 ⟨rfl, hb3⟩
                    have E3 := E2.below hb3
                    clear E2 ho1 ho2 hb1 hb2 hb3 HM hmm
                    go_wp2_with (fail)
                    refine (HJ.out.1 Z3 (SQ1.more E3)).mono ?_
                    rintro e Z4 ⟨U1, uc1, rfl, ho1, hb4⟩
                    have E4 := E3.below hb4
                    clear E3
                    go_wp2_with (fail)
                    refine (HJ.out.2 Z4 (SQ1.more E4)).mono ?_
                    rintro e Z5 ⟨U2, uc2, rfl, ho2, hb5⟩
                    have E5 := E4.below hb5
                    clear E4
                    go_wp2_with (fail)
                    refine (ints_same Z5 _ _ U1 U2 uc1 uc2 jj (ho1.si.keep (Kept.of_below hb5)) ho2.si (by omega)).mono ?_
                    rintro e Z6 ⟨rfl, hb6⟩
                    have E6 := E5.below hb6
                    clear E5 ho1 ho2 hb4 hb5 hb6 HJ hjj
                    go_wp2_with (fail)
                    refine (HF.out.1 Z6 (SQ1.more E6)).mono ?_
                    rintro e Z7 ⟨rfl, hb7⟩
                    have E7 := E6.below hb7
                    clear E6
                    go_wp2_with (fail)
                    refine (HF.out.2 Z7 (SQ1.more E7)).mono ?_
                    rintro e Z8 ⟨rfl, hb8⟩
                    have E8 := E7.below hb8
                    clear E7
                    go_wp2_with (fail)
                    refine (HG.out.1 Z8 (SQ1.more E8)).mono ?_
                    rintro e Z9 ⟨rfl, hb9⟩
                    have E9 := E8.below hb9
                    clear E8
                    go_wp2_with (fail)
                    refine (HG.out.2 Z9 (SQ1.more E9)).mono ?_
                    rintro e Z10 ⟨rfl, hb10⟩
                    have E10 := E9.below hb10
                    clear E9
                    go_wp2_with (fail)
                    go_roundg (gk - 1)
                    case measure => have := Hj.out; omega
                    case rel => exact ⟨i4 + 1, by have := Hj.out; omega, by go_num, E10⟩
                  · obtain ⟨Ze, rfl⟩ : ∃ x, x = wr := ⟨_, rfl⟩
                    have SE := SQ1.more E0
                    clear Hj E0 SQ1 HY
                    go_wp2_with (fail)
                    go_roundg (gkm - 1)
                    case measure => have := Hk.out; omega
                    case rel => exact ⟨k + 1, by have := Hk.out; omega, by go_num, SE⟩
        · go_wp2_with (fail)
          refine (Fin1.out wr S.bel).mono ?_
          rintro e w8 ⟨rfl, hb8⟩
          go_wp2_with (fail)
          go_ret
          exact ⟨rfl, hb8⟩
end Go.Proofs.YtgpcojmdfmngeaaDoor

/-
  The law NetworkAnswers, walked.
-/
import Derived.Test.YtgpcojmdfmngeaaDoorAns
import Derived.Test.YtgpcojmdfmngeaaDoorRWay
import Derived.Test.YtgpcojmdfmngeaaDoorGk
import Derived.Test.YtgpcojmdfmngeaaDoorGa
import Derived.Test.YtgpcojmdfmngeaaDoorGc
namespace Go.Proofs.YtgpcojmdfmngeaaDoor
open Go.RowKit
set_option maxHeartbeats 400000
set_option maxRecDepth 100000

def nameOf (s : ByteArray) (k : Nat) : ByteArray := if k = 0 then s else if k = 1 then ⟨#[78, 48, 49]⟩ else if k = 2 then ⟨#[78, 48, 48]⟩ else ⟨#[83, 48, 48]⟩
theorem names_at (s : ByteArray) (k : Nat) (h : k < 4) : (#[.string s, .string ⟨#[78, 48, 49]⟩, .string ⟨#[78, 48, 48]⟩, .string ⟨#[83, 48, 48]⟩] : Array Value)[k]? = some (.string (nameOf s k)) := by
  have hk : k = 0 ∨ k = 1 ∨ k = 2 ∨ k = 3 := by omega
  rcases hk with rfl | rfl | rfl | rfl <;> rfl

set_option maxHeartbeats 16000000 in
theorem networkAnswers_row (w : World) (h : TabC w) (A : Option Addr) (c : Nat) (xs : List Int) (hs : SI w (fun _ => True) A xs)
    (R1 R2 : Option Addr) (d1 d2 : Nat) (rn : List Node) (rd : List Dev) (hr : NetIn w (fun _ => True) R1 R2 rn rd) (hr1 : rn.length ≤ maxLen) (hr2 : rd.length ≤ maxLen)
    (s : ByteArray) (hss : s.size ≤ maxLen) (kd : Int) (_wk : (Lit.int .i64 kd).wf = true) (a : Int) (_wa : (Lit.int .i64 a).wf = true) (b : Int) (_wb : (Lit.int .i64 b).wf = true)
    (U : Option Addr) (cu : Nat) (us : List Bool) (hus : SB w (fun _ => True) U us) (hul : us.length ≤ maxLen) :
    Calls Tryd.prog 3 #[.slice A xs.length c, .agg #[.slice R1 rn.length d1, .slice R2 rd.length d2], .string s, .int .i64 kd, .int .i64 a, .int .i64 b, .slice U us.length cu] w (RetT w) := by
  unfold maxLen at hss hul
  obtain ⟨w0, hw0⟩ : ∃ x, x = w.alloc (.cells #[.slice R1 rn.length d1, .slice R2 rd.length d2] 26) := ⟨_, rfl⟩
  have hb0 : Below w.heap.size w w0 := by rw [hw0]; exact (Below.refl _ _).alloc (Nat.le_refl _) _
  have hbox0 : w0.heap[w.heap.size]? = some (.cells #[.slice R1 rn.length d1, .slice R2 rd.length d2] 26 (0, 0)) := by rw [hw0]; exact heap_alloc_new w _
  have hgb : w.heap.size < w0.heap.size := (Array.getElem?_eq_some_iff.1 hbox0).1
  have m0 : w0.cell? ⟨w.heap.size, 0, none⟩ = some (.slice R1 rn.length d1) := by rw [cell_of_row w0 _ 0 _ _ _ hbox0]; rfl
  have m1 : w0.cell? ⟨w.heap.size, 1, none⟩ = some (.slice R2 rd.length d2) := by rw [cell_of_row w0 _ 1 _ _ _ hbox0]; rfl
  have h0 := h.below hb0
  have hs0 := hs.keep (Kept.of_below hb0)
  have hr0 := hr.below hb0
  have hus0 := hus.keep (Kept.of_below hb0)
  have HW0 := Lib.hid hw0
  have Hbox0 := Lib.hid hbox0
  rw [hw0] at m0 m1
  clear hw0 hbox0 h hs hr hus
  obtain ⟨gr, hgr⟩ : ∃ x, x = w.heap.size := ⟨_, rfl⟩
  rw [← hgr] at m0 m1 hgb
  have Hgr := Lib.hid hgr
  clear hgr
  have fin : ∀ W : World, Below w0.heap.size w0 W → Calls Tryd.prog 11 #[] W (fun e w' => e = .returned (.bool true) ∧ Below w.heap.size w w') := fun W hb =>
    (awake03 W (h0.below hb)).mono fun e w' he => ⟨he.1, hb0.trans ((hb.mono hb0.size).trans (he.2.mono (by have := hb0.size; have := hb.size; omega)))⟩
  have Fin := Lib.hid fin
  clear fin
  by_cases hf : xs.length ≤ 400
  · have hfd : decide ((xs.length : Int) ≤ 400) = true := decide_eq_true (by omega)
    have HLt := Lib.hid (light_any w0 _ R1 R2 d1 d2 rn rd hr0 hr1 hr2)
    have Hlen := Lib.hid (@light_len rn rd)
    by_cases hli : lightB rn rd = true
    · rw [hli] at HLt
      obtain ⟨hrn, hrd⟩ := Hlen.out hli
      by_cases h100 : s.size ≤ 100
      · have d100 : decide ((100 : Int) < (s.size : Int)) = false := decide_eq_false (by omega)
        by_cases h200 : us.length ≤ 200
        · have d200 : decide ((200 : Int) < (us.length : Int)) = false := decide_eq_false (by omega)
          go_enter Tryd.func3, Tryd.ntmps3
          go_wp2_with (fail)
          rw [← Hgr.out, ← HW0.out]
          refine (few_any w0 A xs.length c).mono ?_
          rw [hfd]
          rintro e w' ⟨rfl, rfl⟩
          have n0 : w0.cell? ⟨gr, 0, none⟩ = some (.slice R1 rn.length d1) := by rw [HW0.out]; exact m0
          have n1 : w0.cell? ⟨gr, 1, none⟩ = some (.slice R2 rd.length d2) := by rw [HW0.out]; exact m1
          clear m0 m1
          go_wp2_with (fail)
          refine HLt.out.mono ?_
          rintro e wb ⟨rfl, hb1⟩
          have hs1 := hs0.keep (Kept.of_below hb1)
          have k0 : wb.cell? ⟨gr, 0, none⟩ = some (.slice R1 rn.length d1) := (hb1.cell (p := ⟨gr, 0, none⟩) hgb).trans n0
          have k1 : wb.cell? ⟨gr, 1, none⟩ = some (.slice R2 rd.length d2) := (hb1.cell (p := ⟨gr, 1, none⟩) hgb).trans n1
          have hbox1 : wb.heap[gr]? = some (.cells #[.slice R1 rn.length d1, .slice R2 rd.length d2] 26 (0, 0)) := by
            have hq := Hbox0.out
            rw [← Hgr.out] at hq
            exact (hb1.block gr hgb).trans hq
          have h1 := h0.below hb1
          have hr1' := hr0.below hb1
          have hus1 := hus0.keep (Kept.of_below hb1)
          have hgb1 : gr < wb.heap.size := by have := hb1.size; omega
          have Fin1 : Hid (∀ W : World, Below wb.heap.size wb W → Calls Tryd.prog 11 #[] W (fun e w' => e = .returned (.bool true) ∧ Below w.heap.size w w')) := Lib.hid (fun W hb => Fin.out W (hb1.trans (hb.mono hb1.size)))
          have Hbox1 := Lib.hid hbox1
          clear n0 n1 hs0 h0 hr0 hus0 HLt Fin hb1 hgb hbox1 Hbox0 k0 k1 HW0 hb0 w0 hr1 hr2
          go_wp2_with (fail)
          refine (new_any wb _ A c xs hs1 hf).mono ?_
          rintro e w2 ⟨rfl, hd2, hb2, hz2⟩
          have Hz2 := Lib.hid hz2
          clear hz2
          go_wp2_with (fail)
          refine (network_any w2 wb.heap.size hd2 7 12 (by decide) (by decide) (by decide) (by decide)).mono ?_
          rintro e w3 ⟨A1, c1, A2, c2, ns, ds, rfl, ho1, ho2, hd3, hg3, hgood⟩
          have L := LS.start hd2 hb2 Hz2.out ho1 ho2 hd3 hg3 hgood
          have hn2 : 2 ≤ ns.length := hgood.two
          have hnl : ns.length ≤ 7 := hgood.most
          have hdl : ds.length ≤ 12 := hgood.few
          have hdl1 : 1 ≤ ds.length := hgood.one
          obtain ⟨W, hW⟩ : ∃ W, W = w3.alloc (.cells #[.slice A1 ns.length c1, .slice A2 ds.length c2] 26) := ⟨_, rfl⟩
          rw [← hW] at L
          have HW := Lib.hid hW
          clear hd2 hb2 Hz2 ho1 ho2 hd3 hg3 hW
          go_upto_region 5 with (fail)
          rw [← HW.out]
          obtain ⟨gn, hgn⟩ : ∃ x, x = w3.heap.size := ⟨_, rfl⟩
          rw [← hgn] at L ⊢
          clear hgn HW w3 w2
          have n1 := L.n1
          obtain ⟨w4, hmk, ho4, hb4, hz4⟩ := make_bools W ds.length (by omega)
          have L4 := L.below hb4
          have htop := L.top
          have hgne := L.gne
          have ob4 : OB w4 W.heap.size ds.length (List.replicate ds.length false) := ho4
          go_wp2_with (fail)
          obtain ⟨g1, hg1⟩ : ∃ x, x = W.heap.size := ⟨_, rfl⟩
          rw [← hg1] at ob4 htop ⊢
          clear hmk n1 L hb4 hz4 ho4 hg1 W
          go_loopg [64] ds.length (fun g i wr => ∃ (k : Nat) (fs : List Bool), k + g = ds.length ∧ i = .int .i64 k ∧ fs.length = ds.length ∧ OB wr g1 ds.length fs ∧ LS wb wr (gn + 1) gn A1 c1 ns A2 c2 ds)
          case atStart => exact ⟨0, _, by omega, rfl, by simp, ob4, L4⟩
          case round =>
            clear ob4 L4
            obtain ⟨k, fs, hk, rfl, hul', ob1, L⟩ := hrel
            have Hk := Lib.hid hk
            have Hul := Lib.hid hul'
            clear hk hul'
            by_cases hlt : k < ds.length
            · have hku : k < fs.length := by rw [Hul.out]; exact hlt
              go_wp2_with (fail)
              refine (one_any _ _ L.deck _ (by decide)).mono ?_
              rintro e w5 ⟨b1, rfl, hd5, hg5, hz5⟩
              have L5 := L.grown hg5 hd5
              have ob15 := ob1.fr (hg5.block g1 (OV.block ob1 g1 rfl).2 (by intro e; injection e with e; omega))
              obtain ⟨u1, u2, _⟩ := ob15.at_ hku
              clear hz5 hg5
              go_wp2_with (fail)
              go_roundg (gk - 1)
              case measure => have := Hk.out; omega
              case rel => exact ⟨k + 1, fs.set k (!b1), by have := Hk.out; omega, by go_num, by simp [Hul.out], ob15.set k (!b1), L5.setB htop _⟩
            · clear Hk
              obtain ⟨W5, rfl⟩ : ∃ W5, W5 = wr := ⟨_, rfl⟩
              have hbox5 := (L.bel.block gr hgb1).trans Hbox1.out
              have p0 : W5.cell? ⟨gr, 0, none⟩ = some (.slice R1 rn.length d1) := by rw [cell_of_row W5 _ 0 _ _ _ hbox5]; rfl
              have p1 : W5.cell? ⟨gr, 1, none⟩ = some (.slice R2 rd.length d2) := by rw [cell_of_row W5 _ 1 _ _ _ hbox5]; rfl
              have n0 := L.n0
              have n1 := L.n1
              have S5 := AS.start L.deck L.bel
              have hgrb : gr ≠ wb.heap.size := by omega
              have hgnb : gn ≠ wb.heap.size := by have := L.gne; omega
              have hgrl : gr < W5.heap.size := by have := L.bel.size; omega
              have hgnl : gn < W5.heap.size := World.block_lt_of_cell? W5 _ n0
              have LOld := Lib.hid (L.net.mono (T := Old wb W5) (fun g hl hg => ⟨by omega, hl⟩))
              go_upto_region 11 with (fail)
              go_cut [79, 80, 81] (fun v79 v80 v81 wx => v80 = .int .i64 3 ∧ v81 = .int .i64 0 ∧ AS wb W5 wx ∧ ∃ (gx : Nat) (O1 : Option Addr) (o1 : Nat) (on : List Node) (O2 : Option Addr) (o2 : Nat) (od : List Dev), v79 = .slice (some ⟨gx, 0, none⟩) 3 3 ∧ gx ≠ wb.heap.size ∧
                wx.heap[gx]? = some (.cells #[.slice A1 ns.length c1, .slice A2 ds.length c2, .slice R1 rn.length d1, .slice R2 rd.length d2, .slice O1 on.length o1, .slice O2 od.length o2] 26 (0, 0)) ∧ NetIn wx (fun g => g ≠ wb.heap.size) O1 O2 on od ∧ on.length ≤ 60 ∧ od.length ≤ 125)
              case first =>
                clear ob1 hs1 hus1 h1 hr1' Hbox1 Fin1 hbox5
                refine wp_region_ext1 (by kernel_rfl) 8 [74, 75, 76, 77, 78, 79, 80, 81] (fun w' => AS wb W5 w') (fun a b => Fr a.heap.size wb.heap.size a b) (fun d vv w' => if d = 74 then vv = .agg #[.slice A1 ns.length c1, .slice A2 ds.length c2] else if d = 75 then vv = .agg #[.slice R1 rn.length d1, .slice R2 rd.length d2] else if d = 76 then vv = .pointer (some ⟨wb.heap.size, 0, none⟩) else if d = 77 then vv = .agg #[.slice A1 ns.length c1, .slice A2 ds.length c2] else if d = 80 then vv = .int .i64 3 else if d = 81 then vv = .int .i64 0 else if d = 78 then ∃ (O1 : Option Addr) (o1 : Nat) (on : List Node) (O2 : Option Addr) (o2 : Nat) (od : List Dev), vv = .agg #[.slice O1 on.length o1, .slice O2 od.length o2] ∧ NetIn w' (fun g => g ≠ wb.heap.size) O1 O2 on od ∧ on.length ≤ 60 ∧ od.length ≤ 125 else if d = 79 then ∃ (gx : Nat) (O1 : Option Addr) (o1 : Nat) (on : List Node) (O2 : Option Addr) (o2 : Nat) (od : List Dev), vv = .slice (some ⟨gx, 0, none⟩) 3 3 ∧ gx ≠ wb.heap.size ∧ w'.heap[gx]? = some (.cells #[.slice A1 ns.length c1, .slice A2 ds.length c2, .slice R1 rn.length d1, .slice R2 rd.length d2, .slice O1 on.length o1, .slice O2 od.length o2] 26 (0, 0)) ∧ NetIn w' (fun g => g ≠ wb.heap.size) O1 O2 on od ∧ on.length ≤ 60 ∧ od.length ≤ 125 else False) (by kernel_rfl) (S5.drew) (fun d v a b hC hE hT => by
                    by_cases h78 : d = 78
                    · subst h78
                      obtain ⟨O1, o1, on, O2, o2, od, e1, q1, q2⟩ := hT
                      exact ⟨O1, o1, on, O2, o2, od, e1, q1.keep ⟨hE.size, fun k hk hl => hE.block k hl hk⟩, q2⟩
                    by_cases h79 : d = 79
                    · subst h79
                      obtain ⟨gx, O1, o1, on, O2, o2, od, e1, e2, e3, q1, q2⟩ := hT
                      exact ⟨gx, O1, o1, on, O2, o2, od, e1, e2, (hE.block gx (Array.getElem?_eq_some_iff.1 e3).1 e2).trans e3, q1.keep ⟨hE.size, fun k hk hl => hE.block k hl hk⟩, q2⟩
                    simp only [if_neg h78, if_neg h79] at hT ⊢
                    exact hT) ?_ ?_
                · intro i o d hi ho hd f w1 hC hdep K hK
                  have hi' : i = 0 ∨ i = 1 ∨ i = 2 ∨ i = 3 ∨ i = 4 ∨ i = 5 ∨ i = 6 ∨ i = 7 := by omega
                  rcases hi' with rfl | rfl | rfl | rfl | rfl | rfl | rfl | rfl
                  · simp only [List.getElem?_toArray, List.getElem?_cons_zero, Option.some.injEq] at ho
                    subst ho
                    simp only [Option.some.injEq] at hd
                    subst hd
                    generalize hA : fr _ _ _ f = A at hK ⊢
                    have e16 : A.tmps[16]?.getD undef = .pointer (some ⟨gn, 0, none⟩) := by rw [← hA]; exact fr_out _ _ _ _ 16 _ (by decide) rfl
                    clear hA hdep
                    have hcell0 := (hC.fr.cell hgnl hgnb 0).trans n0
                    have hcell1 := (hC.fr.cell hgnl hgnb 1).trans n1
                    go_simp
                    exact hK _ _ (Fr.refl _ _ _) hC rfl
                  · simp only [List.getElem?_toArray, List.getElem?_cons_zero, List.getElem?_cons_succ, Option.some.injEq] at ho
                    subst ho
                    simp only [Option.some.injEq] at hd
                    subst hd
                    generalize hA : fr _ _ _ f = A at hK ⊢
                    have e8 : A.tmps[8]?.getD undef = .pointer (some ⟨gr, 0, none⟩) := by rw [← hA]; exact fr_out _ _ _ _ 8 _ (by decide) rfl
                    clear hA hdep
                    have hcell0 := (hC.fr.cell hgrl hgrb 0).trans p0
                    have hcell1 := (hC.fr.cell hgrl hgrb 1).trans p1
                    go_simp
                    exact hK _ _ (Fr.refl _ _ _) hC rfl
                  · simp only [List.getElem?_toArray, List.getElem?_cons_zero, List.getElem?_cons_succ, Option.some.injEq] at ho
                    subst ho
                    simp only [Option.some.injEq] at hd
                    subst hd
                    generalize hA : fr _ _ _ f = A at hK ⊢
                    have e15 : A.tmps[15]?.getD undef = .pointer (some ⟨wb.heap.size, 0, none⟩) := by rw [← hA]; exact fr_out _ _ _ _ 15 _ (by decide) rfl
                    clear hA hdep
                    go_simp
                    exact hK _ _ (Fr.refl _ _ _) hC rfl
                  · simp only [List.getElem?_toArray, List.getElem?_cons_zero, List.getElem?_cons_succ, Option.some.injEq] at ho
                    subst ho
                    simp only [Option.some.injEq] at hd
                    subst hd
                    generalize hA : fr _ _ _ f = A at hK ⊢
                    have e16 : A.tmps[16]?.getD undef = .pointer (some ⟨gn, 0, none⟩) := by rw [← hA]; exact fr_out _ _ _ _ 16 _ (by decide) rfl
                    clear hA hdep
                    have hcell0 := (hC.fr.cell hgnl hgnb 0).trans n0
                    have hcell1 := (hC.fr.cell hgnl hgnb 1).trans n1
                    go_simp
                    exact hK _ _ (Fr.refl _ _ _) hC rfl
                  · simp only [List.getElem?_toArray, List.getElem?_cons_zero, List.getElem?_cons_succ, Option.some.injEq] at ho
                    subst ho
                    simp only [Option.some.injEq] at hd
                    subst hd
                    have h76 : f 76 = .pointer (some ⟨wb.heap.size, 0, none⟩) := hdep { on := 2, ground := .data } (by simp) rfl 76 rfl
                    have h77 : f 77 = .agg #[.slice A1 ns.length c1, .slice A2 ds.length c2] := hdep { on := 3, ground := .data } (by simp) rfl 77 rfl
                    generalize hA : fr _ _ _ f = A at hK ⊢
                    have e76 : A.tmps[76]?.getD undef = f 76 := by rw [← hA]; exact fr_in _ _ _ _ 76 (by decide) (by simp)
                    have e77 : A.tmps[77]?.getD undef = f 77 := by rw [← hA]; exact fr_in _ _ _ _ 77 (by decide) (by simp)
                    clear hA hdep
                    rw [h76] at e76
                    clear h76
                    rw [h77] at e77
                    clear h77
                    go_simp
                    refine (odd_any w1 wb.heap.size hC.deck _ A1 A2 c1 c2 ns ds (hC.net (LOld.out)) (by omega) (by omega) hdl1 (by omega)).mono ?_
                    rintro e' w2 ⟨O1, o1, on, O2, o2, od, rfl, g1, g2, g3, hd2, hf2⟩
                    exact hK _ _ hf2 (hC.frd hf2 hd2) ⟨O1, o1, on, O2, o2, od, rfl, g1.mono (fun g _ hg => by have := hC.deck.lt; have hg : w1.heap.size < g := hg; show g ≠ wb.heap.size; omega), g2, g3⟩
                  · simp only [List.getElem?_toArray, List.getElem?_cons_zero, List.getElem?_cons_succ, Option.some.injEq] at ho
                    subst ho
                    simp only [Option.some.injEq] at hd
                    subst hd
                    have h74 : f 74 = .agg #[.slice A1 ns.length c1, .slice A2 ds.length c2] := hdep { on := 0, ground := .data } (by simp) rfl 74 rfl
                    have h75 : f 75 = .agg #[.slice R1 rn.length d1, .slice R2 rd.length d2] := hdep { on := 1, ground := .data } (by simp) rfl 75 rfl
                    have h78 : ∃ (O1 : Option Addr) (o1 : Nat) (on : List Node) (O2 : Option Addr) (o2 : Nat) (od : List Dev), f 78 = .agg #[.slice O1 on.length o1, .slice O2 od.length o2] ∧ NetIn w1 (fun g => g ≠ wb.heap.size) O1 O2 on od ∧ on.length ≤ 60 ∧ od.length ≤ 125 := hdep { on := 4, ground := .data } (by simp) rfl 78 rfl
                    generalize hA : fr _ _ _ f = A at hK ⊢
                    have e74 : A.tmps[74]?.getD undef = f 74 := by rw [← hA]; exact fr_in _ _ _ _ 74 (by decide) (by simp)
                    have e75 : A.tmps[75]?.getD undef = f 75 := by rw [← hA]; exact fr_in _ _ _ _ 75 (by decide) (by simp)
                    have e78 : A.tmps[78]?.getD undef = f 78 := by rw [← hA]; exact fr_in _ _ _ _ 78 (by decide) (by simp)
                    clear hA hdep
                    rw [h74] at e74
                    clear h74
                    rw [h75] at e75
                    clear h75
                    obtain ⟨O1, o1, on, O2, o2, od, h78, q1, q2, q3⟩ := h78
                    rw [h78] at e78
                    have Hf78 := Lib.hid h78
                    clear h78
                    go_simp
                    have hbz := (Below.refl w1.heap.size w1).alloc (Nat.le_refl _) (.cells #[.slice A1 ns.length c1, .slice A2 ds.length c2, .slice R1 rn.length d1, .slice R2 rd.length d2, .slice O1 on.length o1, .slice O2 od.length o2] 26)
                    exact hK _ _ (Fr.of_below hbz) (hC.below hbz) ⟨w1.heap.size, O1, o1, on, O2, o2, od, rfl, by have := hC.deck.lt; omega, heap_alloc_new w1 _, q1.below hbz, q2, q3⟩
                  · simp only [List.getElem?_toArray, List.getElem?_cons_zero, List.getElem?_cons_succ, Option.some.injEq] at ho
                    subst ho
                    simp only [Option.some.injEq] at hd
                    subst hd
                    have h79 : ∃ (gx : Nat) (O1 : Option Addr) (o1 : Nat) (on : List Node) (O2 : Option Addr) (o2 : Nat) (od : List Dev), f 79 = .slice (some ⟨gx, 0, none⟩) 3 3 ∧ gx ≠ wb.heap.size ∧ w1.heap[gx]? = some (.cells #[.slice A1 ns.length c1, .slice A2 ds.length c2, .slice R1 rn.length d1, .slice R2 rd.length d2, .slice O1 on.length o1, .slice O2 od.length o2] 26 (0, 0)) ∧ NetIn w1 (fun g => g ≠ wb.heap.size) O1 O2 on od ∧ on.length ≤ 60 ∧ od.length ≤ 125 := hdep { on := 5, ground := .data } (by simp) rfl 79 rfl
                    generalize hA : fr _ _ _ f = A at hK ⊢
                    have e79 : A.tmps[79]?.getD undef = f 79 := by rw [← hA]; exact fr_in _ _ _ _ 79 (by decide) (by simp)
                    clear hA hdep
                    obtain ⟨gx, O1, o1, on, O2, o2, od, h79, q0, q1, q2, q3, q4⟩ := h79
                    rw [h79] at e79
                    have Hf79 := Lib.hid h79
                    clear h79
                    go_simp
                    exact hK _ _ (Fr.refl _ _ _) hC rfl
                  · simp only [List.getElem?_toArray, List.getElem?_cons_zero, List.getElem?_cons_succ, Option.some.injEq] at ho
                    subst ho
                    simp only [Option.some.injEq] at hd
                    subst hd
                    generalize hA : fr _ _ _ f = A at hK ⊢
                    clear hA hdep
                    go_simp
                    exact hK _ _ (Fr.refl _ _ _) hC rfl
                · intro f w1 hC hall
                  have q0 : ∃ (gx : Nat) (O1 : Option Addr) (o1 : Nat) (on : List Node) (O2 : Option Addr) (o2 : Nat) (od : List Dev), f 79 = .slice (some ⟨gx, 0, none⟩) 3 3 ∧ gx ≠ wb.heap.size ∧ w1.heap[gx]? = some (.cells #[.slice A1 ns.length c1, .slice A2 ds.length c2, .slice R1 rn.length d1, .slice R2 rd.length d2, .slice O1 on.length o1, .slice O2 od.length o2] 26 (0, 0)) ∧ NetIn w1 (fun g => g ≠ wb.heap.size) O1 O2 on od ∧ on.length ≤ 60 ∧ od.length ≤ 125 := hall 5 79 (by decide) rfl
                  have q1 : f 80 = .int .i64 3 := hall 6 80 (by decide) rfl
                  have q2 : f 81 = .int .i64 0 := hall 7 81 (by decide) rfl
                  have Q0 := Lib.hid q0
                  have Q1 := Lib.hid q1
                  have Q2 := Lib.hid q2
                  clear hall q0 q1 q2
                  simp only [fr, upd, List.mapIdx_cons, List.mapIdx_nil]
                  simp
                  go_wp2_with fail
                  go_meet
                  case rel => exact ⟨Q1.out, Q2.out, hC, Q0.out⟩
              case rest =>
                obtain ⟨WM, rfl⟩ : ∃ x, x = wc := ⟨_, rfl⟩
                obtain ⟨rfl, rfl, S6, gx, O1, o1, on, O2, o2, od, rfl, hgx, hrow, hno, hon, hod⟩ := hcut
                have hgxl : gx < WM.heap.size := (Array.getElem?_eq_some_iff.1 hrow).1
                have hszM := S6.size
                have sF : SB WM (Old wb WM) (some ⟨g1, 0, none⟩) fs := ((OV.sv ob1).mono (T := Old wb W5) (fun g hl hg => ⟨by have hg : g = g1 := hg; omega, hl⟩)).keep S6.kept |>.mono (fun g hl hg => ⟨hg.1, hl⟩)
                have sU : SB WM (Old wb WM) U us := Old.sv hus1 S6.bel
                have hnM := (LOld.out.keep S6.kept).mono (T := Old wb WM) (fun g hl hg => ⟨hg.1, hl⟩)
                have hrM : NetIn WM (Old wb WM) R1 R2 rn rd := Old.net hr1' S6.bel
                have hoM := hno.mono (T := Old wb WM) (fun g hl hg => ⟨hg, hl⟩)
                have hx : ∀ k, k < 3 → ∃ (B1 : Option Addr) (b1 : Nat) (bn : List Node) (B2 : Option Addr) (b2 : Nat) (be : List Dev), WM.cell? ⟨gx, k * 2, none⟩ = some (.slice B1 bn.length b1) ∧ WM.cell? ⟨gx, k * 2 + 1, none⟩ = some (.slice B2 be.length b2) ∧ NetIn WM (Old wb WM) B1 B2 bn be ∧ bn.length ≤ 100 ∧ be.length ≤ 200 := by
                  intro k hk
                  have hk3 : k = 0 ∨ k = 1 ∨ k = 2 := by omega
                  rcases hk3 with rfl | rfl | rfl
                  · exact ⟨A1, c1, ns, A2, c2, ds, by rw [cell_of_row WM _ _ _ _ _ hrow]; rfl, by rw [cell_of_row WM _ _ _ _ _ hrow]; rfl, hnM, by omega, by omega⟩
                  · exact ⟨R1, d1, rn, R2, d2, rd, by rw [cell_of_row WM _ _ _ _ _ hrow]; rfl, by rw [cell_of_row WM _ _ _ _ _ hrow]; rfl, hrM, by omega, by omega⟩
                  · exact ⟨O1, o1, on, O2, o2, od, by rw [cell_of_row WM _ _ _ _ _ hrow]; rfl, by rw [cell_of_row WM _ _ _ _ _ hrow]; rfl, hoM, by omega, by omega⟩
                have HX := Lib.hid hx
                have SM := AS.start S6.deck S6.bel
                have hFl : fs.length ≤ 65536 := by rw [Hul.out]; omega
                clear hx hnM hrM hoM hrow hno LOld hus1 hr1' S6 S5 L ob1 n0 n1 p0 p1 hbox5 hgrb hgnb hgrl hgnl hs1 Hbox1 hszM W5
                go_wp2_with (fail)
                go_loopg [81] 3 (fun g i wr => ∃ k : Nat, k + g = 3 ∧ i = .int .i64 k ∧ AS wb WM wr)
                case atStart => exact ⟨0, rfl, rfl, SM⟩
                case round =>
                  clear SM
                  obtain ⟨k, hk, rfl, S⟩ := hrel
                  have Hk := Lib.hid hk
                  clear hk
                  obtain ⟨gkm, rfl⟩ : ∃ x : Nat, x = gk := ⟨_, rfl⟩
                  by_cases hlt : k < 3
                  · obtain ⟨B1, b1, bn, B2, b2, be, q0, q1, hnk, l1, l2⟩ := HX.out k hlt
                    have c0 := (S.fr.cell hgxl hgx (k * 2)).trans q0
                    have c1' := (S.fr.cell hgxl hgx (k * 2 + 1)).trans q1
                    obtain ⟨Wr, rfl⟩ : ∃ x, x = wr := ⟨_, rfl⟩
                    obtain ⟨WN, hWN⟩ : ∃ x, x = Wr.alloc (.cells #[.slice B1 bn.length b1, .slice B2 be.length b2] 26) := ⟨_, rfl⟩
                    have SN1 : AS wb WM WN := by rw [hWN]; exact S.below ((Below.refl _ _).alloc (Nat.le_refl _) _)
                    have SN := AS.start SN1.deck SN1.bel
                    have hrowN : WN.heap[Wr.heap.size]? = some (.cells #[.slice B1 bn.length b1, .slice B2 be.length b2] 26 (0, 0)) := by rw [hWN]; exact heap_alloc_new Wr _
                    have hgqb : Wr.heap.size ≠ wb.heap.size := by have := S.deck.lt; omega
                    have hgql : Wr.heap.size < WN.heap.size := (Array.getElem?_eq_some_iff.1 hrowN).1
                    have hnN := (hnk.keep SN1.kept).mono (T := Old wb WN) (fun g hl hg => ⟨hg.1, hl⟩)
                    have sFN : SB WN (Old wb WN) (some ⟨g1, 0, none⟩) fs := (sF.keep SN1.kept).mono (fun g hl hg => ⟨hg.1, hl⟩)
                    have sUN : SB WN (Old wb WN) U us := (sU.keep SN1.kept).mono (fun g hl hg => ⟨hg.1, hl⟩)
                    have x0 : WN.cell? ⟨Wr.heap.size, 0, none⟩ = some (.slice B1 bn.length b1) := by rw [cell_of_row WN _ 0 _ _ _ hrowN]; rfl
                    have x1 : WN.cell? ⟨Wr.heap.size, 1, none⟩ = some (.slice B2 be.length b2) := by rw [cell_of_row WN _ 1 _ _ _ hrowN]; rfl
                    have HWN := Lib.hid hWN
                    obtain ⟨gq, hgq⟩ : ∃ x, x = Wr.heap.size := ⟨_, rfl⟩
                    rw [← hgq] at hgqb hgql x0 x1
                    have Hgq := Lib.hid hgq
                    have hCk : ∀ W, AS wb WN W → Calls Tryd.prog 16 #[.agg #[.slice B1 bn.length b1, .slice B2 be.length b2]] W fun e w' => e = .returned (.int .i64 (checkL bn be)) ∧ Below W.heap.size W w' := fun W S => check_any W (S.tabc h1) _ B1 B2 b1 b2 bn be (S.net hnN) (by omega) (by omega)
                    have hRk : ∀ W, AS wb WN W → Calls Tryd.prog 17 #[.agg #[.slice B1 bn.length b1, .slice B2 be.length b2]] W fun e w' => e = .returned (.int .i64 (checkL bn be)) ∧ Below W.heap.size W w' := fun W S => refCheck_any W _ B1 B2 b1 b2 bn be (S.net hnN) (by omega) (by omega)
                    have HCk := Lib.hid hCk
                    have HRk := Lib.hid hRk
                    clear hCk hRk q0 q1 hnk hrowN hgq hWN S
                    go_upto_region 14 with (fail)
                    rw [← HWN.out, ← Hgq.out]
                    clear c0 c1'
                    go_cut [89] (fun v wx => v = .bool false ∧ AS wb WN wx)
                    case first =>
                      refine wp_region_ext1 (by kernel_rfl) 5 [85, 86, 87, 88, 89] (fun w' => AS wb WN w') (fun _ _ => True) (fun d vv w' => if d = 85 then vv = .agg #[.slice B1 bn.length b1, .slice B2 be.length b2] else if d = 86 then vv = .int .i64 (checkL bn be) else if d = 87 then vv = .agg #[.slice B1 bn.length b1, .slice B2 be.length b2] else if d = 88 then vv = .int .i64 (checkL bn be) else if d = 89 then vv = .bool false else False) (by kernel_rfl) (SN.drew) (fun _ _ _ _ _ _ h => h) ?_ ?_
                      · intro i o d hi ho hd f w1 hC hdep K hK
                        have hi' : i = 0 ∨ i = 1 ∨ i = 2 ∨ i = 3 ∨ i = 4 := by omega
                        rcases hi' with rfl | rfl | rfl | rfl | rfl
                        · simp only [List.getElem?_toArray, List.getElem?_cons_zero, Option.some.injEq] at ho
                          subst ho
                          simp only [Option.some.injEq] at hd
                          subst hd
                          generalize hA : fr _ _ _ f = A at hK ⊢
                          have e20 : A.tmps[20]?.getD undef = .pointer (some ⟨gq, 0, none⟩) := by rw [← hA]; exact fr_out _ _ _ _ 20 _ (by decide) rfl
                          clear hA hdep
                          have hcell0 := (hC.fr.cell hgql hgqb 0).trans x0
                          have hcell1 := (hC.fr.cell hgql hgqb 1).trans x1
                          go_simp
                          exact hK _ _ trivial hC rfl
                        · simp only [List.getElem?_toArray, List.getElem?_cons_zero, List.getElem?_cons_succ, Option.some.injEq] at ho
                          subst ho
                          simp only [Option.some.injEq] at hd
                          subst hd
                          have h85 : f 85 = .agg #[.slice B1 bn.length b1, .slice B2 be.length b2] := hdep { on := 0, ground := .data } (by simp) rfl 85 rfl
                          generalize hA : fr _ _ _ f = A at hK ⊢
                          have e85 : A.tmps[85]?.getD undef = f 85 := by rw [← hA]; exact fr_in _ _ _ _ 85 (by decide) (by simp)
                          clear hA hdep
                          rw [h85] at e85
                          clear h85
                          go_simp
                          refine (HCk.out w1 hC).mono ?_
                          rintro e' w2 ⟨rfl, hb2⟩
                          exact hK _ _ trivial (hC.below hb2) rfl
                        · simp only [List.getElem?_toArray, List.getElem?_cons_zero, List.getElem?_cons_succ, Option.some.injEq] at ho
                          subst ho
                          simp only [Option.some.injEq] at hd
                          subst hd
                          generalize hA : fr _ _ _ f = A at hK ⊢
                          have e20 : A.tmps[20]?.getD undef = .pointer (some ⟨gq, 0, none⟩) := by rw [← hA]; exact fr_out _ _ _ _ 20 _ (by decide) rfl
                          clear hA hdep
                          have hcell0 := (hC.fr.cell hgql hgqb 0).trans x0
                          have hcell1 := (hC.fr.cell hgql hgqb 1).trans x1
                          go_simp
                          exact hK _ _ trivial hC rfl
                        · simp only [List.getElem?_toArray, List.getElem?_cons_zero, List.getElem?_cons_succ, Option.some.injEq] at ho
                          subst ho
                          simp only [Option.some.injEq] at hd
                          subst hd
                          have h87 : f 87 = .agg #[.slice B1 bn.length b1, .slice B2 be.length b2] := hdep { on := 2, ground := .data } (by simp) rfl 87 rfl
                          generalize hA : fr _ _ _ f = A at hK ⊢
                          have e87 : A.tmps[87]?.getD undef = f 87 := by rw [← hA]; exact fr_in _ _ _ _ 87 (by decide) (by simp)
                          clear hA hdep
                          rw [h87] at e87
                          clear h87
                          go_simp
                          refine (HRk.out w1 hC).mono ?_
                          rintro e' w2 ⟨rfl, hb2⟩
                          exact hK _ _ trivial (hC.below hb2) rfl
                        · simp only [List.getElem?_toArray, List.getElem?_cons_zero, List.getElem?_cons_succ, Option.some.injEq] at ho
                          subst ho
                          simp only [Option.some.injEq] at hd
                          subst hd
                          have h86 : f 86 = .int .i64 (checkL bn be) := hdep { on := 1, ground := .data } (by simp) rfl 86 rfl
                          have h88 : f 88 = .int .i64 (checkL bn be) := hdep { on := 3, ground := .data } (by simp) rfl 88 rfl
                          generalize hA : fr _ _ _ f = A at hK ⊢
                          have e86 : A.tmps[86]?.getD undef = f 86 := by rw [← hA]; exact fr_in _ _ _ _ 86 (by decide) (by simp)
                          have e88 : A.tmps[88]?.getD undef = f 88 := by rw [← hA]; exact fr_in _ _ _ _ 88 (by decide) (by simp)
                          clear hA hdep
                          rw [h86] at e86
                          clear h86
                          rw [h88] at e88
                          clear h88
                          go_simp
                          exact hK _ _ trivial hC (by simp)
                      · intro f w1 hC hall
                        have q0 : f 89 = .bool false := hall 4 89 (by decide) rfl
                        have Q0 := Lib.hid q0
                        clear hall q0
                        simp only [fr, upd, List.mapIdx_cons, List.mapIdx_nil]
                        simp
                        go_wp2_with fail
                        go_meet
                        case rel => exact ⟨Q0.out, hC⟩
                    case rest =>
                      obtain ⟨Wa, rfl⟩ : ∃ x, x = wc := ⟨_, rfl⟩
                      obtain ⟨rfl, Sa⟩ := hcut
                      obtain ⟨WP, hWP⟩ : ∃ x, x = Wa.alloc (.cells #[.string s, .string ⟨#[78, 48, 49]⟩, .string ⟨#[78, 48, 48]⟩, .string ⟨#[83, 48, 48]⟩] 9) := ⟨_, rfl⟩
                      have hrowP : WP.heap[Wa.heap.size]? = some (.cells #[.string s, .string ⟨#[78, 48, 49]⟩, .string ⟨#[78, 48, 48]⟩, .string ⟨#[83, 48, 48]⟩] 9 (0, 0)) := by rw [hWP]; exact heap_alloc_new Wa _
                      have SP1 : AS wb WN WP := by rw [hWP]; exact Sa.below ((Below.refl _ _).alloc (Nat.le_refl _) _)
                      have SP := AS.start SP1.deck SP1.bel
                      have hgsb : Wa.heap.size ≠ wb.heap.size := by have := Sa.deck.lt; omega
                      have hgsl : Wa.heap.size < WP.heap.size := (Array.getElem?_eq_some_iff.1 hrowP).1
                      have hnm : ∀ j, j < 4 → WP.cell? ⟨Wa.heap.size, j, none⟩ = some (.string (nameOf s j)) := fun j hj => by rw [cell_of_row WP _ j _ _ _ hrowP]; exact names_at s j hj
                      have Hnm := Lib.hid hnm
                      have HWP := Lib.hid hWP
                      obtain ⟨gs, hgs⟩ : ∃ x, x = Wa.heap.size := ⟨_, rfl⟩
                      rw [← hgs] at hgsb hgsl Hnm
                      have Hgs := Lib.hid hgs
                      clear hnm hrowP hWP hgs Sa
                      go_wp2_with (fail)
                      rw [← HWP.out, ← Hgs.out]
                      go_loopg [93] 4 (fun g i wr => ∃ j : Nat, j + g = 4 ∧ i = .int .i64 j ∧ AS wb WP wr)
                      case atStart => exact ⟨0, rfl, rfl, SP⟩
                      case round =>
                        obtain ⟨j, hj, rfl, S⟩ := hrel
                        have Hj := Lib.hid hj
                        clear hj
                        by_cases hjl : j < 4
                        · have z0 := (S.fr.cell hgsl hgsb j).trans (Hnm.out j hjl)
                          obtain ⟨Wr2, rfl⟩ : ∃ x, x = wr := ⟨_, rfl⟩
                          have S1 := SP1.more S
                          have y0 := (S1.fr.cell hgql hgqb 0).trans x0
                          have y1 := (S1.fr.cell hgql hgqb 1).trans x1
                          obtain ⟨nm, hnm⟩ : ∃ x, x = nameOf s j := ⟨_, rfl⟩
                          rw [← hnm] at z0
                          have hNo : ∀ W, AS wb WN W → Calls Tryd.prog 18 #[.agg #[.slice B1 bn.length b1, .slice B2 be.length b2], .string nm] W fun e w' => e = .returned (.int .i64 (nodeL bn be nm)) ∧ Below W.heap.size W w' := fun W S => node_net W (S.tabc h1) _ B1 B2 b1 b2 bn be (S.net hnN) (by omega) (by omega) nm
                          have hNr : ∀ W, AS wb WN W → Calls Tryd.prog 19 #[.agg #[.slice B1 bn.length b1, .slice B2 be.length b2], .string nm] W fun e w' => e = .returned (.int .i64 (nodeL bn be nm)) ∧ Below W.heap.size W w' := fun W S => refNode_any W _ B1 B2 b1 b2 bn be (S.net hnN) (by omega) (by omega) nm
                          have hDo : ∀ W, AS wb WN W → Calls Tryd.prog 20 #[.agg #[.slice B1 bn.length b1, .slice B2 be.length b2], .string nm] W fun e w' => e = .returned (.int .i64 (devL bn be nm)) ∧ Below W.heap.size W w' := fun W S => dev_net W (S.tabc h1) _ B1 B2 b1 b2 bn be (S.net hnN) (by omega) (by omega) nm
                          have hDr : ∀ W, AS wb WN W → Calls Tryd.prog 21 #[.agg #[.slice B1 bn.length b1, .slice B2 be.length b2], .string nm] W fun e w' => e = .returned (.int .i64 (devL bn be nm)) ∧ Below W.heap.size W w' := fun W S => refDevice_any W _ B1 B2 b1 b2 bn be (S.net hnN) (by omega) (by omega) nm
                          have HNo := Lib.hid hNo
                          have HNr := Lib.hid hNr
                          have HDo := Lib.hid hDo
                          have HDr := Lib.hid hDr
                          clear hNo hNr hDo hDr hnm
                          go_upto_region 19 with (fail)
                          clear y0 y1 z0
                          go_cut [112] (fun v wx => v = .bool false ∧ AS wb WP wx)
                          case first =>
                            refine wp_region_extG (by kernel_rfl) 16 [97, 98, 99, 100, 101, 102, 103, 104, 105, 106, 107, 108, 109, 110, 111, 112] [(104, false)] [] (fun w' => AS wb WP w') (fun _ _ => True) (fun d vv w' => if d = 97 then vv = .agg #[.slice B1 bn.length b1, .slice B2 be.length b2] else if d = 98 then vv = .string nm else if d = 99 then vv = .int .i64 (nodeL bn be nm) else if d = 100 then vv = .agg #[.slice B1 bn.length b1, .slice B2 be.length b2] else if d = 101 then vv = .string nm else if d = 102 then vv = .int .i64 (nodeL bn be nm) else if d = 103 then vv = .bool false else if d = 104 then vv = .bool false else if d = 105 then vv = .agg #[.slice B1 bn.length b1, .slice B2 be.length b2] else if d = 106 then vv = .string nm else if d = 107 then vv = .int .i64 (devL bn be nm) else if d = 108 then vv = .agg #[.slice B1 bn.length b1, .slice B2 be.length b2] else if d = 109 then vv = .string nm else if d = 110 then vv = .int .i64 (devL bn be nm) else if d = 111 then vv = .bool false else if d = 112 then vv = .bool false else False) (by kernel_rfl) (by kernel_rfl) (by simp) (S.drew) (fun _ => trivial) (by simp) (by simp) (fun _ _ _ _ _ _ h => h) ?_ ?_
                            · intro i o d hi hwt ho hd f w1 hC hdep K hK
                              have hi' : i = 0 ∨ i = 1 ∨ i = 2 ∨ i = 3 ∨ i = 4 ∨ i = 5 ∨ i = 6 ∨ i = 7 ∨ i = 8 ∨ i = 9 ∨ i = 10 ∨ i = 11 ∨ i = 12 ∨ i = 13 ∨ i = 14 ∨ i = 15 := by omega
                              rcases hi' with rfl | rfl | rfl | rfl | rfl | rfl | rfl | rfl | rfl | rfl | rfl | rfl | rfl | rfl | rfl | rfl
                              · simp only [List.getElem?_toArray, List.getElem?_cons_zero, Option.some.injEq] at ho
                                clear hwt
                                subst ho
                                simp only [Option.some.injEq] at hd
                                subst hd
                                generalize hA : fr _ _ _ f = A at hK ⊢
                                have e20 : A.tmps[20]?.getD undef = .pointer (some ⟨gq, 0, none⟩) := by rw [← hA]; exact fr_out _ _ _ _ 20 _ (by decide) rfl
                                clear hA hdep
                                have hcell0 := ((SP1.more hC).fr.cell hgql hgqb 0).trans x0
                                have hcell1 := ((SP1.more hC).fr.cell hgql hgqb 1).trans x1
                                go_simp
                                exact hK _ _ trivial hC rfl
                              · simp only [List.getElem?_toArray, List.getElem?_cons_zero, List.getElem?_cons_succ, Option.some.injEq] at ho
                                clear hwt
                                subst ho
                                simp only [Option.some.injEq] at hd
                                subst hd
                                generalize hA : fr _ _ _ f = A at hK ⊢
                                have e22 : A.tmps[22]?.getD undef = .string nm := by rw [← hA]; exact fr_out _ _ _ _ 22 _ (by decide) rfl
                                clear hA hdep
                                go_simp
                                exact hK _ _ trivial hC rfl
                              · simp only [List.getElem?_toArray, List.getElem?_cons_zero, List.getElem?_cons_succ, Option.some.injEq] at ho
                                clear hwt
                                subst ho
                                simp only [Option.some.injEq] at hd
                                subst hd
                                have h97 : f 97 = .agg #[.slice B1 bn.length b1, .slice B2 be.length b2] := hdep { on := 0, ground := .data } (by simp) rfl 97 rfl
                                have h98 : f 98 = .string nm := hdep { on := 1, ground := .data } (by simp) rfl 98 rfl
                                generalize hA : fr _ _ _ f = A at hK ⊢
                                have e97 : A.tmps[97]?.getD undef = f 97 := by rw [← hA]; exact fr_in _ _ _ _ 97 (by decide) (by simp)
                                have e98 : A.tmps[98]?.getD undef = f 98 := by rw [← hA]; exact fr_in _ _ _ _ 98 (by decide) (by simp)
                                clear hA hdep
                                rw [h97] at e97
                                clear h97
                                rw [h98] at e98
                                clear h98
                                go_simp
                                refine (HNo.out w1 (SP1.more hC)).mono ?_
                                rintro e' w2 ⟨rfl, hb2⟩
                                exact hK _ _ trivial (hC.below hb2) rfl
                              · simp only [List.getElem?_toArray, List.getElem?_cons_zero, List.getElem?_cons_succ, Option.some.injEq] at ho
                                clear hwt
                                subst ho
                                simp only [Option.some.injEq] at hd
                                subst hd
                                generalize hA : fr _ _ _ f = A at hK ⊢
                                have e20 : A.tmps[20]?.getD undef = .pointer (some ⟨gq, 0, none⟩) := by rw [← hA]; exact fr_out _ _ _ _ 20 _ (by decide) rfl
                                clear hA hdep
                                have hcell0 := ((SP1.more hC).fr.cell hgql hgqb 0).trans x0
                                have hcell1 := ((SP1.more hC).fr.cell hgql hgqb 1).trans x1
                                go_simp
                                exact hK _ _ trivial hC rfl
                              · simp only [List.getElem?_toArray, List.getElem?_cons_zero, List.getElem?_cons_succ, Option.some.injEq] at ho
                                clear hwt
                                subst ho
                                simp only [Option.some.injEq] at hd
                                subst hd
                                generalize hA : fr _ _ _ f = A at hK ⊢
                                have e22 : A.tmps[22]?.getD undef = .string nm := by rw [← hA]; exact fr_out _ _ _ _ 22 _ (by decide) rfl
                                clear hA hdep
                                go_simp
                                exact hK _ _ trivial hC rfl
                              · simp only [List.getElem?_toArray, List.getElem?_cons_zero, List.getElem?_cons_succ, Option.some.injEq] at ho
                                clear hwt
                                subst ho
                                simp only [Option.some.injEq] at hd
                                subst hd
                                have h100 : f 100 = .agg #[.slice B1 bn.length b1, .slice B2 be.length b2] := hdep { on := 3, ground := .data } (by simp) rfl 100 rfl
                                have h101 : f 101 = .string nm := hdep { on := 4, ground := .data } (by simp) rfl 101 rfl
                                generalize hA : fr _ _ _ f = A at hK ⊢
                                have e100 : A.tmps[100]?.getD undef = f 100 := by rw [← hA]; exact fr_in _ _ _ _ 100 (by decide) (by simp)
                                have e101 : A.tmps[101]?.getD undef = f 101 := by rw [← hA]; exact fr_in _ _ _ _ 101 (by decide) (by simp)
                                clear hA hdep
                                rw [h100] at e100
                                clear h100
                                rw [h101] at e101
                                clear h101
                                go_simp
                                refine (HNr.out w1 (SP1.more hC)).mono ?_
                                rintro e' w2 ⟨rfl, hb2⟩
                                exact hK _ _ trivial (hC.below hb2) rfl
                              · simp only [List.getElem?_toArray, List.getElem?_cons_zero, List.getElem?_cons_succ, Option.some.injEq] at ho
                                clear hwt
                                subst ho
                                simp only [Option.some.injEq] at hd
                                subst hd
                                have h99 : f 99 = .int .i64 (nodeL bn be nm) := hdep { on := 2, ground := .data } (by simp) rfl 99 rfl
                                have h102 : f 102 = .int .i64 (nodeL bn be nm) := hdep { on := 5, ground := .data } (by simp) rfl 102 rfl
                                generalize hA : fr _ _ _ f = A at hK ⊢
                                have e99 : A.tmps[99]?.getD undef = f 99 := by rw [← hA]; exact fr_in _ _ _ _ 99 (by decide) (by simp)
                                have e102 : A.tmps[102]?.getD undef = f 102 := by rw [← hA]; exact fr_in _ _ _ _ 102 (by decide) (by simp)
                                clear hA hdep
                                rw [h99] at e99
                                clear h99
                                rw [h102] at e102
                                clear h102
                                go_simp
                                exact hK _ _ trivial hC (by simp)
                              · simp only [List.getElem?_toArray, List.getElem?_cons_zero, List.getElem?_cons_succ, Option.some.injEq] at ho
                                clear hwt
                                subst ho
                                simp only [Option.some.injEq] at hd
                                subst hd
                                have h103 : f 103 = .bool false := hdep { on := 6, ground := .data } (by simp) rfl 103 rfl
                                generalize hA : fr _ _ _ f = A at hK ⊢
                                have e103 : A.tmps[103]?.getD undef = f 103 := by rw [← hA]; exact fr_in _ _ _ _ 103 (by decide) (by simp)
                                clear hA hdep
                                rw [h103] at e103
                                clear h103
                                go_simp
                                exact hK _ _ trivial hC rfl
                              · simp only [List.getElem?_toArray, List.getElem?_cons_zero, List.getElem?_cons_succ, Option.some.injEq] at ho
                                clear hwt
                                subst ho
                                simp only [Option.some.injEq] at hd
                                subst hd
                                generalize hA : fr _ _ _ f = A at hK ⊢
                                have e20 : A.tmps[20]?.getD undef = .pointer (some ⟨gq, 0, none⟩) := by rw [← hA]; exact fr_out _ _ _ _ 20 _ (by decide) rfl
                                clear hA hdep
                                have hcell0 := ((SP1.more hC).fr.cell hgql hgqb 0).trans x0
                                have hcell1 := ((SP1.more hC).fr.cell hgql hgqb 1).trans x1
                                go_simp
                                exact hK _ _ trivial hC rfl
                              · simp only [List.getElem?_toArray, List.getElem?_cons_zero, List.getElem?_cons_succ, Option.some.injEq] at ho
                                clear hwt
                                subst ho
                                simp only [Option.some.injEq] at hd
                                subst hd
                                generalize hA : fr _ _ _ f = A at hK ⊢
                                have e22 : A.tmps[22]?.getD undef = .string nm := by rw [← hA]; exact fr_out _ _ _ _ 22 _ (by decide) rfl
                                clear hA hdep
                                go_simp
                                exact hK _ _ trivial hC rfl
                              · simp only [List.getElem?_toArray, List.getElem?_cons_zero, List.getElem?_cons_succ, Option.some.injEq] at ho
                                clear hwt
                                subst ho
                                simp only [Option.some.injEq] at hd
                                subst hd
                                have h105 : f 105 = .agg #[.slice B1 bn.length b1, .slice B2 be.length b2] := hdep { on := 8, ground := .data } (by simp) rfl 105 rfl
                                have h106 : f 106 = .string nm := hdep { on := 9, ground := .data } (by simp) rfl 106 rfl
                                generalize hA : fr _ _ _ f = A at hK ⊢
                                have e105 : A.tmps[105]?.getD undef = f 105 := by rw [← hA]; exact fr_in _ _ _ _ 105 (by decide) (by simp)
                                have e106 : A.tmps[106]?.getD undef = f 106 := by rw [← hA]; exact fr_in _ _ _ _ 106 (by decide) (by simp)
                                clear hA hdep
                                rw [h105] at e105
                                clear h105
                                rw [h106] at e106
                                clear h106
                                go_simp
                                refine (HDo.out w1 (SP1.more hC)).mono ?_
                                rintro e' w2 ⟨rfl, hb2⟩
                                exact hK _ _ trivial (hC.below hb2) rfl
                              · simp only [List.getElem?_toArray, List.getElem?_cons_zero, List.getElem?_cons_succ, Option.some.injEq] at ho
                                clear hwt
                                subst ho
                                simp only [Option.some.injEq] at hd
                                subst hd
                                generalize hA : fr _ _ _ f = A at hK ⊢
                                have e20 : A.tmps[20]?.getD undef = .pointer (some ⟨gq, 0, none⟩) := by rw [← hA]; exact fr_out _ _ _ _ 20 _ (by decide) rfl
                                clear hA hdep
                                have hcell0 := ((SP1.more hC).fr.cell hgql hgqb 0).trans x0
                                have hcell1 := ((SP1.more hC).fr.cell hgql hgqb 1).trans x1
                                go_simp
                                exact hK _ _ trivial hC rfl
                              · simp only [List.getElem?_toArray, List.getElem?_cons_zero, List.getElem?_cons_succ, Option.some.injEq] at ho
                                clear hwt
                                subst ho
                                simp only [Option.some.injEq] at hd
                                subst hd
                                generalize hA : fr _ _ _ f = A at hK ⊢
                                have e22 : A.tmps[22]?.getD undef = .string nm := by rw [← hA]; exact fr_out _ _ _ _ 22 _ (by decide) rfl
                                clear hA hdep
                                go_simp
                                exact hK _ _ trivial hC rfl
                              · simp only [List.getElem?_toArray, List.getElem?_cons_zero, List.getElem?_cons_succ, Option.some.injEq] at ho
                                clear hwt
                                subst ho
                                simp only [Option.some.injEq] at hd
                                subst hd
                                have h108 : f 108 = .agg #[.slice B1 bn.length b1, .slice B2 be.length b2] := hdep { on := 11, ground := .data } (by simp) rfl 108 rfl
                                have h109 : f 109 = .string nm := hdep { on := 12, ground := .data } (by simp) rfl 109 rfl
                                generalize hA : fr _ _ _ f = A at hK ⊢
                                have e108 : A.tmps[108]?.getD undef = f 108 := by rw [← hA]; exact fr_in _ _ _ _ 108 (by decide) (by simp)
                                have e109 : A.tmps[109]?.getD undef = f 109 := by rw [← hA]; exact fr_in _ _ _ _ 109 (by decide) (by simp)
                                clear hA hdep
                                rw [h108] at e108
                                clear h108
                                rw [h109] at e109
                                clear h109
                                go_simp
                                refine (HDr.out w1 (SP1.more hC)).mono ?_
                                rintro e' w2 ⟨rfl, hb2⟩
                                exact hK _ _ trivial (hC.below hb2) rfl
                              · simp only [List.getElem?_toArray, List.getElem?_cons_zero, List.getElem?_cons_succ, Option.some.injEq] at ho
                                clear hwt
                                subst ho
                                simp only [Option.some.injEq] at hd
                                subst hd
                                have h107 : f 107 = .int .i64 (devL bn be nm) := hdep { on := 10, ground := .data } (by simp) rfl 107 rfl
                                have h110 : f 110 = .int .i64 (devL bn be nm) := hdep { on := 13, ground := .data } (by simp) rfl 110 rfl
                                generalize hA : fr _ _ _ f = A at hK ⊢
                                have e107 : A.tmps[107]?.getD undef = f 107 := by rw [← hA]; exact fr_in _ _ _ _ 107 (by decide) (by simp)
                                have e110 : A.tmps[110]?.getD undef = f 110 := by rw [← hA]; exact fr_in _ _ _ _ 110 (by decide) (by simp)
                                clear hA hdep
                                rw [h107] at e107
                                clear h107
                                rw [h110] at e110
                                clear h110
                                go_simp
                                exact hK _ _ trivial hC (by simp)
                              · simp only [List.getElem?_toArray, List.getElem?_cons_zero, List.getElem?_cons_succ, Option.some.injEq] at ho
                                clear hwt
                                subst ho
                                simp only [Option.some.injEq] at hd
                                subst hd
                                have h104 : f 104 = .bool false := hdep { on := 7, ground := .data } (by simp) rfl 104 rfl
                                have h111 : f 111 = .bool false := hdep { on := 14, ground := .data } (by simp) rfl 111 rfl
                                generalize hA : fr _ _ _ f = A at hK ⊢
                                have e104 : A.tmps[104]?.getD undef = f 104 := by rw [← hA]; exact fr_in _ _ _ _ 104 (by decide) (by simp)
                                have e111 : A.tmps[111]?.getD undef = f 111 := by rw [← hA]; exact fr_in _ _ _ _ 111 (by decide) (by simp)
                                clear hA hdep
                                rw [h104] at e104
                                clear h104
                                rw [h111] at e111
                                clear h111
                                go_simp
                                exact hK _ _ trivial hC (by simp)
                            · intro f w1 hC hall
                              have q0 : f 112 = .bool false := hall 15 112 (by decide) rfl
                              have Q0 := Lib.hid q0
                              clear hall q0
                              simp only [fr, upd, List.mapIdx_cons, List.mapIdx_nil]
                              simp
                              go_wp2_with fail
                              go_meet
                              case rel => exact ⟨Q0.out, hC⟩
                          case rest =>
                            obtain ⟨Wq, rfl⟩ : ∃ x, x = wc := ⟨_, rfl⟩
                            obtain ⟨rfl, Sq⟩ := hcut
                            go_wp2_with (fail)
                            go_roundg (gk - 1)
                            case measure => have := Hj.out; omega
                            case rel => exact ⟨j + 1, by have := Hj.out; omega, by go_num, Sq⟩
                        · obtain ⟨Wp, rfl⟩ : ∃ x, x = wr := ⟨_, rfl⟩
                          have Sp := SP1.more S
                          clear S SP SP1 Hnm Hgs HWP hgsb hgsl
                          go_wp2_with (fail)
                          refine (next_any Wp wb.heap.size Sp.deck 7 (by decide)).mono ?_
                          rintro e Wp1 ⟨r1, rfl, hq1, hq2, hdx, hgx2, hq3⟩
                          have Sp1 := Sp.next hgx2 hdx
                          clear hq1 hq2 hq3 hdx hgx2 Sp
                          go_wp2_with (fail)
                          refine (next_any Wp1 wb.heap.size Sp1.deck 7 (by decide)).mono ?_
                          rintro e Wp2 ⟨r2, rfl, hq1, hq2, hdx, hgx2, hq3⟩
                          have Sp2 := Sp1.next hgx2 hdx
                          clear hq1 hq2 hq3 hdx hgx2 Sp1
                          go_wp2_with (fail)
                          refine (next_any Wp2 wb.heap.size Sp2.deck 12 (by decide)).mono ?_
                          rintro e Wp3 ⟨r3, rfl, hq1, hq2, hdx, hgx2, hq3⟩
                          have Sp3 := Sp2.next hgx2 hdx
                          clear hq1 hq2 hq3 hdx hgx2 Sp2
                          go_wp2_with (fail)
                          refine (next_any Wp3 wb.heap.size Sp3.deck 7 (by decide)).mono ?_
                          rintro e Wp4 ⟨r4, rfl, hq1, hq2, hdx, hgx2, hq3⟩
                          have Sp4 := Sp3.next hgx2 hdx
                          clear hq1 hq2 hq3 hdx hgx2 Sp3
                          obtain ⟨WQ, hWQ⟩ : ∃ x, x = Wp4.alloc (.cells #[.int .i64 a, .int .i64 b, .int .i64 r1, .int .i64 r2, .int .i64 r3, .int .i64 r4] 41) := ⟨_, rfl⟩
                          have hrowQ : WQ.heap[Wp4.heap.size]? = some (.cells #[.int .i64 a, .int .i64 b, .int .i64 r1, .int .i64 r2, .int .i64 r3, .int .i64 r4] 41 (0, 0)) := by rw [hWQ]; exact heap_alloc_new Wp4 _
                          have SQ1 : AS wb WN WQ := by rw [hWQ]; exact Sp4.below ((Below.refl _ _).alloc (Nat.le_refl _) _)
                          have SQ := AS.start SQ1.deck SQ1.bel
                          have hgpb : Wp4.heap.size ≠ wb.heap.size := by have := Sp4.deck.lt; omega
                          have hgpl : Wp4.heap.size < WQ.heap.size := (Array.getElem?_eq_some_iff.1 hrowQ).1
                          have hpq : ∀ j, j < 3 → ∃ p q : Int, WQ.cell? ⟨Wp4.heap.size, j * 2, none⟩ = some (.int .i64 p) ∧ WQ.cell? ⟨Wp4.heap.size, j * 2 + 1, none⟩ = some (.int .i64 q) := by
                            intro j hj
                            have hj3 : j = 0 ∨ j = 1 ∨ j = 2 := by omega
                            rcases hj3 with rfl | rfl | rfl
                            · exact ⟨a, b, by rw [cell_of_row WQ _ _ _ _ _ hrowQ]; rfl, by rw [cell_of_row WQ _ _ _ _ _ hrowQ]; rfl⟩
                            · exact ⟨r1, r2, by rw [cell_of_row WQ _ _ _ _ _ hrowQ]; rfl, by rw [cell_of_row WQ _ _ _ _ _ hrowQ]; rfl⟩
                            · exact ⟨r3, r4, by rw [cell_of_row WQ _ _ _ _ _ hrowQ]; rfl, by rw [cell_of_row WQ _ _ _ _ _ hrowQ]; rfl⟩
                          have Hpq := Lib.hid hpq
                          have HWQ := Lib.hid hWQ
                          obtain ⟨gp, hgp⟩ : ∃ x, x = Wp4.heap.size := ⟨_, rfl⟩
                          rw [← hgp] at hgpb hgpl Hpq
                          have Hgp := Lib.hid hgp
                          clear hpq hrowQ hWQ hgp Sp4
                          go_wp2_with (fail)
                          rw [← HWQ.out, ← Hgp.out]
                          clear Hgp HWQ Wp4 Wp3 Wp2 Wp1 Wp
                          go_loopg [129] 3 (fun g i wr => ∃ j : Nat, j + g = 3 ∧ i = .int .i64 j ∧ AS wb WQ wr)
                          case atStart => exact ⟨0, rfl, rfl, SQ⟩
                          case round =>
                            obtain ⟨j, hj, rfl, S⟩ := hrel
                            have Hj := Lib.hid hj
                            clear hj
                            obtain ⟨gko, rfl⟩ : ∃ x : Nat, x = gk := ⟨_, rfl⟩
                            by_cases hjl : j < 3
                            · obtain ⟨p, q, z0, z1⟩ := Hpq.out j hjl
                              have z0' := (S.fr.cell hgpl hgpb (j * 2)).trans z0
                              have z1' := (S.fr.cell hgpl hgpb (j * 2 + 1)).trans z1
                              obtain ⟨Wr2, rfl⟩ : ∃ x, x = wr := ⟨_, rfl⟩
                              obtain ⟨WT, hWT⟩ : ∃ x, x = Wr2.alloc (.cells #[.int .i64 p, .int .i64 q] 41) := ⟨_, rfl⟩
                              have ST1 : AS wb WQ WT := by rw [hWT]; exact S.below ((Below.refl _ _).alloc (Nat.le_refl _) _)
                              have ST := AS.start ST1.deck ST1.bel
                              have hrowT : WT.heap[Wr2.heap.size]? = some (.cells #[.int .i64 p, .int .i64 q] 41 (0, 0)) := by rw [hWT]; exact heap_alloc_new Wr2 _
                              have hgtb : Wr2.heap.size ≠ wb.heap.size := by have := S.deck.lt; omega
                              have hgtl : Wr2.heap.size < WT.heap.size := (Array.getElem?_eq_some_iff.1 hrowT).1
                              have t0 : WT.cell? ⟨Wr2.heap.size, 0, none⟩ = some (.int .i64 p) := by rw [cell_of_row WT _ 0 _ _ _ hrowT]; rfl
                              have t1 : WT.cell? ⟨Wr2.heap.size, 1, none⟩ = some (.int .i64 q) := by rw [cell_of_row WT _ 1 _ _ _ hrowT]; rfl
                              have SNT := SQ1.more ST1
                              have y0 := (SNT.fr.cell hgql hgqb 0).trans x0
                              have y1 := (SNT.fr.cell hgql hgqb 1).trans x1
                              have hgqT : gq < WT.heap.size := World.block_lt_of_cell? WT _ y0
                              have HWT := Lib.hid hWT
                              obtain ⟨gt, hgt⟩ : ∃ x, x = Wr2.heap.size := ⟨_, rfl⟩
                              rw [← hgt] at hgtb hgtl t0 t1
                              have Hgt := Lib.hid hgt
                              have Hy0 := Lib.hid y0
                              have Hy1 := Lib.hid y1
                              have hAo : ∀ W, AS wb WT W → Calls Tryd.prog 24 #[.agg #[.slice B1 bn.length b1, .slice B2 be.length b2], .int .i64 p] W (RetOI W (atL bn be p)) := fun W S => at_any W (S.tabc h1) _ B1 B2 b1 b2 bn be ((SNT.more S).net hnN) (by omega) (by omega) p
                              have hAr : ∀ W, AS wb WT W → Calls Tryd.prog 25 #[.agg #[.slice B1 bn.length b1, .slice B2 be.length b2], .int .i64 p] W (RetOI W (atL bn be p)) := fun W S => refAt_any W _ B1 B2 b1 b2 bn be ((SNT.more S).net hnN) (by omega) (by omega) p
                              have hOo : ∀ W, AS wb WT W → Calls Tryd.prog 26 #[.agg #[.slice B1 bn.length b1, .slice B2 be.length b2], .int .i64 p, .int .i64 q] W fun e w' => e = .returned (.int .i64 (otherL bn be p q)) ∧ Below W.heap.size W w' := fun W S => other_any W (S.tabc h1) _ B1 B2 b1 b2 bn be ((SNT.more S).net hnN) (by omega) (by omega) p q
                              have hOr : ∀ W, AS wb WT W → Calls Tryd.prog 27 #[.agg #[.slice B1 bn.length b1, .slice B2 be.length b2], .int .i64 p, .int .i64 q] W fun e w' => e = .returned (.int .i64 (otherL bn be p q)) ∧ Below W.heap.size W w' := fun W S => refOther_any W _ B1 B2 b1 b2 bn be ((SNT.more S).net hnN) (by omega) (by omega) p q
                              have hWo : ∀ W, AS wb WT W → ∀ (F : Option Addr) (m fc : Nat) (fb : List Bool), m = fb.length → SB W (fun _ => True) F fb → fb.length ≤ 65536 → Calls Tryd.prog 28 #[.agg #[.slice B1 bn.length b1, .slice B2 be.length b2], .slice F m fc, .int .i64 p, .int .i64 q] W (RetWay W (wayL bn be fb p q)) := fun W S F m fc fb hm hf hl => by subst hm; exact way_any W (S.tabc h1) _ B1 B2 b1 b2 bn be ((SNT.more S).net hnN) (by omega) (by omega) F fc fb hf hl p q
                              have hWr : ∀ W, AS wb WT W → ∀ (F : Option Addr) (m fc : Nat) (fb : List Bool), m = fb.length → SB W (fun _ => True) F fb → fb.length ≤ 65536 → Calls Tryd.prog 29 #[.agg #[.slice B1 bn.length b1, .slice B2 be.length b2], .slice F m fc, .int .i64 p, .int .i64 q] W (RetWay W (wayL bn be fb p q)) := fun W S F m fc fb hm hf hl => by subst hm; exact refWay_any W _ B1 B2 b1 b2 bn be ((SNT.more S).net hnN) (by omega) (by omega) F fc fb hf hl p q
                              have hal : (atL bn be p).length ≤ 65536 := by have := atL_len bn be p; omega
                              have sFT : SB WT (Old wb WT) (some ⟨g1, 0, none⟩) fs := (sFN.keep SNT.kept).mono (fun g hl hg => ⟨hg.1, hl⟩)
                              have sUT : SB WT (Old wb WT) U us := (sUN.keep SNT.kept).mono (fun g hl hg => ⟨hg.1, hl⟩)
                              have HAo := Lib.hid hAo
                              have HAr := Lib.hid hAr
                              have HOo := Lib.hid hOo
                              have HOr := Lib.hid hOr
                              have HWo := Lib.hid hWo
                              have HWr := Lib.hid hWr
                              clear hAo hAr hOo hOr hWo hWr z0 z1 hrowT hWT hgt S y0 y1
                              go_upto_region 25 with (fail)
                              rw [← HWT.out, ← Hgt.out]
                              clear z0' z1'
                              go_cut [157] (fun v wx => v = .bool false ∧ AS wb WT wx)
                              case first =>
                                refine wp_region_extG (by kernel_rfl) 25 [133, 134, 135, 136, 137, 138, 139, 140, 141, 142, 143, 144, 145, 146, 147, 148, 149, 150, 151, 152, 153, 154, 155, 156, 157] [(143, false)] [] (fun w' => AS wb WT w') (fun a b => Fr a.heap.size wb.heap.size a b) (fun d vv w' => if d = 133 then vv = .agg #[.slice B1 bn.length b1, .slice B2 be.length b2] else if d = 134 then vv = .pointer (some ⟨gt, 0, none⟩) else if d = 135 then vv = .int .i64 p else if d = 137 then vv = .agg #[.slice B1 bn.length b1, .slice B2 be.length b2] else if d = 138 then vv = .pointer (some ⟨gt, 0, none⟩) else if d = 139 then vv = .int .i64 p else if d = 141 then vv = .bool true else if d = 142 then vv = .bool false else if d = 143 then vv = .bool false else if d = 144 then vv = .agg #[.slice B1 bn.length b1, .slice B2 be.length b2] else if d = 145 then vv = .pointer (some ⟨gt, 0, none⟩) else if d = 146 then vv = .int .i64 p else if d = 147 then vv = .pointer (some ⟨gt, 1, none⟩) else if d = 148 then vv = .int .i64 q else if d = 149 then vv = .int .i64 (otherL bn be p q) else if d = 150 then vv = .agg #[.slice B1 bn.length b1, .slice B2 be.length b2] else if d = 151 then vv = .pointer (some ⟨gt, 0, none⟩) else if d = 152 then vv = .int .i64 p else if d = 153 then vv = .pointer (some ⟨gt, 1, none⟩) else if d = 154 then vv = .int .i64 q else if d = 155 then vv = .int .i64 (otherL bn be p q) else if d = 156 then vv = .bool false else if d = 157 then vv = .bool false else if d = 136 then ∃ (X : Option Addr) (xc : Nat), vv = .slice X (atL bn be p).length xc ∧ SI w' (fun g => g ≠ wb.heap.size) X (atL bn be p) else if d = 140 then ∃ (X : Option Addr) (xc : Nat), vv = .slice X (atL bn be p).length xc ∧ SI w' (fun g => g ≠ wb.heap.size) X (atL bn be p) else False) (by kernel_rfl) (by kernel_rfl) (by simp) (ST.drew) (fun _ => Fr.refl _ _ _) (by simp) (by simp) (fun d v a b hC hE hT => by
                                    by_cases h136 : d = 136
                                    · subst h136
                                      obtain ⟨X, xc, e1, e2⟩ := hT
                                      exact ⟨X, xc, e1, e2.keep ⟨hE.size, fun k hk hl => hE.block k hl hk⟩⟩
                                    by_cases h140 : d = 140
                                    · subst h140
                                      obtain ⟨X, xc, e1, e2⟩ := hT
                                      exact ⟨X, xc, e1, e2.keep ⟨hE.size, fun k hk hl => hE.block k hl hk⟩⟩
                                    simp only [if_neg h136, if_neg h140] at hT ⊢
                                    exact hT) ?_ ?_
                                · intro i o d hi hwt ho hd f w1 hC hdep K hK
                                  have hi' : i = 0 ∨ i = 1 ∨ i = 2 ∨ i = 3 ∨ i = 4 ∨ i = 5 ∨ i = 6 ∨ i = 7 ∨ i = 8 ∨ i = 9 ∨ i = 10 ∨ i = 11 ∨ i = 12 ∨ i = 13 ∨ i = 14 ∨ i = 15 ∨ i = 16 ∨ i = 17 ∨ i = 18 ∨ i = 19 ∨ i = 20 ∨ i = 21 ∨ i = 22 ∨ i = 23 ∨ i = 24 := by omega
                                  rcases hi' with rfl | rfl | rfl | rfl | rfl | rfl | rfl | rfl | rfl | rfl | rfl | rfl | rfl | rfl | rfl | rfl | rfl | rfl | rfl | rfl | rfl | rfl | rfl | rfl | rfl
                                  · simp only [List.getElem?_toArray, List.getElem?_cons_zero, Option.some.injEq] at ho
                                    clear hwt
                                    subst ho
                                    simp only [Option.some.injEq] at hd
                                    subst hd
                                    generalize hA : fr _ _ _ f = A at hK ⊢
                                    have e20 : A.tmps[20]?.getD undef = .pointer (some ⟨gq, 0, none⟩) := by rw [← hA]; exact fr_out _ _ _ _ 20 _ (by decide) rfl
                                    clear hA hdep
                                    have hcell0 := (hC.fr.cell hgqT hgqb 0).trans Hy0.out
                                    have hcell1 := (hC.fr.cell hgqT hgqb 1).trans Hy1.out
                                    go_simp
                                    exact hK _ _ (Fr.refl _ _ _) hC rfl
                                  · simp only [List.getElem?_toArray, List.getElem?_cons_zero, List.getElem?_cons_succ, Option.some.injEq] at ho
                                    clear hwt
                                    subst ho
                                    simp only [Option.some.injEq] at hd
                                    subst hd
                                    generalize hA : fr _ _ _ f = A at hK ⊢
                                    have e24 : A.tmps[24]?.getD undef = .pointer (some ⟨gt, 0, none⟩) := by rw [← hA]; exact fr_out _ _ _ _ 24 _ (by decide) rfl
                                    clear hA hdep
                                    go_simp
                                    exact hK _ _ (Fr.refl _ _ _) hC rfl
                                  · simp only [List.getElem?_toArray, List.getElem?_cons_zero, List.getElem?_cons_succ, Option.some.injEq] at ho
                                    clear hwt
                                    subst ho
                                    simp only [Option.some.injEq] at hd
                                    subst hd
                                    have h134 : f 134 = .pointer (some ⟨gt, 0, none⟩) := hdep { on := 1, ground := .data } (by simp) rfl 134 rfl
                                    generalize hA : fr _ _ _ f = A at hK ⊢
                                    have e134 : A.tmps[134]?.getD undef = f 134 := by rw [← hA]; exact fr_in _ _ _ _ 134 (by decide) (by simp)
                                    clear hA hdep
                                    rw [h134] at e134
                                    clear h134
                                    have hcell := (hC.fr.cell hgtl hgtb 0).trans t0
                                    go_simp
                                    exact hK _ _ (Fr.refl _ _ _) hC rfl
                                  · simp only [List.getElem?_toArray, List.getElem?_cons_zero, List.getElem?_cons_succ, Option.some.injEq] at ho
                                    clear hwt
                                    subst ho
                                    simp only [Option.some.injEq] at hd
                                    subst hd
                                    have h133 : f 133 = .agg #[.slice B1 bn.length b1, .slice B2 be.length b2] := hdep { on := 0, ground := .data } (by simp) rfl 133 rfl
                                    have h135 : f 135 = .int .i64 p := hdep { on := 2, ground := .data } (by simp) rfl 135 rfl
                                    generalize hA : fr _ _ _ f = A at hK ⊢
                                    have e133 : A.tmps[133]?.getD undef = f 133 := by rw [← hA]; exact fr_in _ _ _ _ 133 (by decide) (by simp)
                                    have e135 : A.tmps[135]?.getD undef = f 135 := by rw [← hA]; exact fr_in _ _ _ _ 135 (by decide) (by simp)
                                    clear hA hdep
                                    rw [h133] at e133
                                    clear h133
                                    rw [h135] at e135
                                    clear h135
                                    go_simp
                                    refine (HAo.out w1 hC).mono ?_
                                    rintro e' w2 ⟨X, xc, rfl, ho, hb2⟩
                                    exact hK _ _ (Fr.of_below hb2) (hC.below hb2) ⟨X, xc, rfl, (OI.si ho).mono (fun g _ hg => by have := hC.deck.lt; have hg : w1.heap.size ≤ g := hg; show g ≠ wb.heap.size; omega)⟩
                                  · simp only [List.getElem?_toArray, List.getElem?_cons_zero, List.getElem?_cons_succ, Option.some.injEq] at ho
                                    clear hwt
                                    subst ho
                                    simp only [Option.some.injEq] at hd
                                    subst hd
                                    generalize hA : fr _ _ _ f = A at hK ⊢
                                    have e20 : A.tmps[20]?.getD undef = .pointer (some ⟨gq, 0, none⟩) := by rw [← hA]; exact fr_out _ _ _ _ 20 _ (by decide) rfl
                                    clear hA hdep
                                    have hcell0 := (hC.fr.cell hgqT hgqb 0).trans Hy0.out
                                    have hcell1 := (hC.fr.cell hgqT hgqb 1).trans Hy1.out
                                    go_simp
                                    exact hK _ _ (Fr.refl _ _ _) hC rfl
                                  · simp only [List.getElem?_toArray, List.getElem?_cons_zero, List.getElem?_cons_succ, Option.some.injEq] at ho
                                    clear hwt
                                    subst ho
                                    simp only [Option.some.injEq] at hd
                                    subst hd
                                    generalize hA : fr _ _ _ f = A at hK ⊢
                                    have e24 : A.tmps[24]?.getD undef = .pointer (some ⟨gt, 0, none⟩) := by rw [← hA]; exact fr_out _ _ _ _ 24 _ (by decide) rfl
                                    clear hA hdep
                                    go_simp
                                    exact hK _ _ (Fr.refl _ _ _) hC rfl
                                  · simp only [List.getElem?_toArray, List.getElem?_cons_zero, List.getElem?_cons_succ, Option.some.injEq] at ho
                                    clear hwt
                                    subst ho
                                    simp only [Option.some.injEq] at hd
                                    subst hd
                                    have h138 : f 138 = .pointer (some ⟨gt, 0, none⟩) := hdep { on := 5, ground := .data } (by simp) rfl 138 rfl
                                    generalize hA : fr _ _ _ f = A at hK ⊢
                                    have e138 : A.tmps[138]?.getD undef = f 138 := by rw [← hA]; exact fr_in _ _ _ _ 138 (by decide) (by simp)
                                    clear hA hdep
                                    rw [h138] at e138
                                    clear h138
                                    have hcell := (hC.fr.cell hgtl hgtb 0).trans t0
                                    go_simp
                                    exact hK _ _ (Fr.refl _ _ _) hC rfl
                                  · simp only [List.getElem?_toArray, List.getElem?_cons_zero, List.getElem?_cons_succ, Option.some.injEq] at ho
                                    clear hwt
                                    subst ho
                                    simp only [Option.some.injEq] at hd
                                    subst hd
                                    have h137 : f 137 = .agg #[.slice B1 bn.length b1, .slice B2 be.length b2] := hdep { on := 4, ground := .data } (by simp) rfl 137 rfl
                                    have h139 : f 139 = .int .i64 p := hdep { on := 6, ground := .data } (by simp) rfl 139 rfl
                                    generalize hA : fr _ _ _ f = A at hK ⊢
                                    have e137 : A.tmps[137]?.getD undef = f 137 := by rw [← hA]; exact fr_in _ _ _ _ 137 (by decide) (by simp)
                                    have e139 : A.tmps[139]?.getD undef = f 139 := by rw [← hA]; exact fr_in _ _ _ _ 139 (by decide) (by simp)
                                    clear hA hdep
                                    rw [h137] at e137
                                    clear h137
                                    rw [h139] at e139
                                    clear h139
                                    go_simp
                                    refine (HAr.out w1 hC).mono ?_
                                    rintro e' w2 ⟨X, xc, rfl, ho, hb2⟩
                                    exact hK _ _ (Fr.of_below hb2) (hC.below hb2) ⟨X, xc, rfl, (OI.si ho).mono (fun g _ hg => by have := hC.deck.lt; have hg : w1.heap.size ≤ g := hg; show g ≠ wb.heap.size; omega)⟩
                                  · simp only [List.getElem?_toArray, List.getElem?_cons_zero, List.getElem?_cons_succ, Option.some.injEq] at ho
                                    clear hwt
                                    subst ho
                                    simp only [Option.some.injEq] at hd
                                    subst hd
                                    have h136 : ∃ (X : Option Addr) (xc : Nat), f 136 = .slice X (atL bn be p).length xc ∧ SI w1 (fun g => g ≠ wb.heap.size) X (atL bn be p) := hdep { on := 3, ground := .data } (by simp) rfl 136 rfl
                                    have h140 : ∃ (X : Option Addr) (xc : Nat), f 140 = .slice X (atL bn be p).length xc ∧ SI w1 (fun g => g ≠ wb.heap.size) X (atL bn be p) := hdep { on := 7, ground := .data } (by simp) rfl 140 rfl
                                    generalize hA : fr _ _ _ f = A at hK ⊢
                                    have e136 : A.tmps[136]?.getD undef = f 136 := by rw [← hA]; exact fr_in _ _ _ _ 136 (by decide) (by simp)
                                    have e140 : A.tmps[140]?.getD undef = f 140 := by rw [← hA]; exact fr_in _ _ _ _ 140 (by decide) (by simp)
                                    clear hA hdep
                                    obtain ⟨X1, xc1, h136, s1⟩ := h136
                                    rw [h136] at e136
                                    have Hf136 := Lib.hid h136
                                    clear h136
                                    obtain ⟨X2, xc2, h140, s2⟩ := h140
                                    rw [h140] at e140
                                    have Hf140 := Lib.hid h140
                                    clear h140
                                    go_simp
                                    refine (ints_any w1 _ _ X1 X2 xc1 xc2 _ _ s1 s2 hal hal).mono ?_
                                    rintro e' w2 ⟨rfl, nd, rfl⟩
                                    have hbd := below_drewN w1.heap.size w1 nd
                                    exact hK _ _ (Fr.of_below hbd) (hC.below hbd) (by simp)
                                  · simp only [List.getElem?_toArray, List.getElem?_cons_zero, List.getElem?_cons_succ, Option.some.injEq] at ho
                                    clear hwt
                                    subst ho
                                    simp only [Option.some.injEq] at hd
                                    subst hd
                                    have h141 : f 141 = .bool true := hdep { on := 8, ground := .data } (by simp) rfl 141 rfl
                                    generalize hA : fr _ _ _ f = A at hK ⊢
                                    have e141 : A.tmps[141]?.getD undef = f 141 := by rw [← hA]; exact fr_in _ _ _ _ 141 (by decide) (by simp)
                                    clear hA hdep
                                    rw [h141] at e141
                                    clear h141
                                    go_simp
                                    exact hK _ _ (Fr.refl _ _ _) hC (by simp)
                                  · simp only [List.getElem?_toArray, List.getElem?_cons_zero, List.getElem?_cons_succ, Option.some.injEq] at ho
                                    clear hwt
                                    subst ho
                                    simp only [Option.some.injEq] at hd
                                    subst hd
                                    have h142 : f 142 = .bool false := hdep { on := 9, ground := .data } (by simp) rfl 142 rfl
                                    generalize hA : fr _ _ _ f = A at hK ⊢
                                    have e142 : A.tmps[142]?.getD undef = f 142 := by rw [← hA]; exact fr_in _ _ _ _ 142 (by decide) (by simp)
                                    clear hA hdep
                                    rw [h142] at e142
                                    clear h142
                                    go_simp
                                    exact hK _ _ (Fr.refl _ _ _) hC rfl
                                  · simp only [List.getElem?_toArray, List.getElem?_cons_zero, List.getElem?_cons_succ, Option.some.injEq] at ho
                                    clear hwt
                                    subst ho
                                    simp only [Option.some.injEq] at hd
                                    subst hd
                                    generalize hA : fr _ _ _ f = A at hK ⊢
                                    have e20 : A.tmps[20]?.getD undef = .pointer (some ⟨gq, 0, none⟩) := by rw [← hA]; exact fr_out _ _ _ _ 20 _ (by decide) rfl
                                    clear hA hdep
                                    have hcell0 := (hC.fr.cell hgqT hgqb 0).trans Hy0.out
                                    have hcell1 := (hC.fr.cell hgqT hgqb 1).trans Hy1.out
                                    go_simp
                                    exact hK _ _ (Fr.refl _ _ _) hC rfl
                                  · simp only [List.getElem?_toArray, List.getElem?_cons_zero, List.getElem?_cons_succ, Option.some.injEq] at ho
                                    clear hwt
                                    subst ho
                                    simp only [Option.some.injEq] at hd
                                    subst hd
                                    generalize hA : fr _ _ _ f = A at hK ⊢
                                    have e24 : A.tmps[24]?.getD undef = .pointer (some ⟨gt, 0, none⟩) := by rw [← hA]; exact fr_out _ _ _ _ 24 _ (by decide) rfl
                                    clear hA hdep
                                    go_simp
                                    exact hK _ _ (Fr.refl _ _ _) hC rfl
                                  · simp only [List.getElem?_toArray, List.getElem?_cons_zero, List.getElem?_cons_succ, Option.some.injEq] at ho
                                    clear hwt
                                    subst ho
                                    simp only [Option.some.injEq] at hd
                                    subst hd
                                    have h145 : f 145 = .pointer (some ⟨gt, 0, none⟩) := hdep { on := 12, ground := .data } (by simp) rfl 145 rfl
                                    generalize hA : fr _ _ _ f = A at hK ⊢
                                    have e145 : A.tmps[145]?.getD undef = f 145 := by rw [← hA]; exact fr_in _ _ _ _ 145 (by decide) (by simp)
                                    clear hA hdep
                                    rw [h145] at e145
                                    clear h145
                                    have hcell := (hC.fr.cell hgtl hgtb 0).trans t0
                                    go_simp
                                    exact hK _ _ (Fr.refl _ _ _) hC rfl
                                  · simp only [List.getElem?_toArray, List.getElem?_cons_zero, List.getElem?_cons_succ, Option.some.injEq] at ho
                                    clear hwt
                                    subst ho
                                    simp only [Option.some.injEq] at hd
                                    subst hd
                                    generalize hA : fr _ _ _ f = A at hK ⊢
                                    have e24 : A.tmps[24]?.getD undef = .pointer (some ⟨gt, 0, none⟩) := by rw [← hA]; exact fr_out _ _ _ _ 24 _ (by decide) rfl
                                    clear hA hdep
                                    go_simp
                                    exact hK _ _ (Fr.refl _ _ _) hC rfl
                                  · simp only [List.getElem?_toArray, List.getElem?_cons_zero, List.getElem?_cons_succ, Option.some.injEq] at ho
                                    clear hwt
                                    subst ho
                                    simp only [Option.some.injEq] at hd
                                    subst hd
                                    have h147 : f 147 = .pointer (some ⟨gt, 1, none⟩) := hdep { on := 14, ground := .data } (by simp) rfl 147 rfl
                                    generalize hA : fr _ _ _ f = A at hK ⊢
                                    have e147 : A.tmps[147]?.getD undef = f 147 := by rw [← hA]; exact fr_in _ _ _ _ 147 (by decide) (by simp)
                                    clear hA hdep
                                    rw [h147] at e147
                                    clear h147
                                    have hcell := (hC.fr.cell hgtl hgtb 1).trans t1
                                    go_simp
                                    exact hK _ _ (Fr.refl _ _ _) hC rfl
                                  · simp only [List.getElem?_toArray, List.getElem?_cons_zero, List.getElem?_cons_succ, Option.some.injEq] at ho
                                    clear hwt
                                    subst ho
                                    simp only [Option.some.injEq] at hd
                                    subst hd
                                    have h144 : f 144 = .agg #[.slice B1 bn.length b1, .slice B2 be.length b2] := hdep { on := 11, ground := .data } (by simp) rfl 144 rfl
                                    have h146 : f 146 = .int .i64 p := hdep { on := 13, ground := .data } (by simp) rfl 146 rfl
                                    have h148 : f 148 = .int .i64 q := hdep { on := 15, ground := .data } (by simp) rfl 148 rfl
                                    generalize hA : fr _ _ _ f = A at hK ⊢
                                    have e144 : A.tmps[144]?.getD undef = f 144 := by rw [← hA]; exact fr_in _ _ _ _ 144 (by decide) (by simp)
                                    have e146 : A.tmps[146]?.getD undef = f 146 := by rw [← hA]; exact fr_in _ _ _ _ 146 (by decide) (by simp)
                                    have e148 : A.tmps[148]?.getD undef = f 148 := by rw [← hA]; exact fr_in _ _ _ _ 148 (by decide) (by simp)
                                    clear hA hdep
                                    rw [h144] at e144
                                    clear h144
                                    rw [h146] at e146
                                    clear h146
                                    rw [h148] at e148
                                    clear h148
                                    go_simp
                                    refine (HOo.out w1 hC).mono ?_
                                    rintro e' w2 ⟨rfl, hb2⟩
                                    exact hK _ _ (Fr.of_below hb2) (hC.below hb2) rfl
                                  · simp only [List.getElem?_toArray, List.getElem?_cons_zero, List.getElem?_cons_succ, Option.some.injEq] at ho
                                    clear hwt
                                    subst ho
                                    simp only [Option.some.injEq] at hd
                                    subst hd
                                    generalize hA : fr _ _ _ f = A at hK ⊢
                                    have e20 : A.tmps[20]?.getD undef = .pointer (some ⟨gq, 0, none⟩) := by rw [← hA]; exact fr_out _ _ _ _ 20 _ (by decide) rfl
                                    clear hA hdep
                                    have hcell0 := (hC.fr.cell hgqT hgqb 0).trans Hy0.out
                                    have hcell1 := (hC.fr.cell hgqT hgqb 1).trans Hy1.out
                                    go_simp
                                    exact hK _ _ (Fr.refl _ _ _) hC rfl
                                  · simp only [List.getElem?_toArray, List.getElem?_cons_zero, List.getElem?_cons_succ, Option.some.injEq] at ho
                                    clear hwt
                                    subst ho
                                    simp only [Option.some.injEq] at hd
                                    subst hd
                                    generalize hA : fr _ _ _ f = A at hK ⊢
                                    have e24 : A.tmps[24]?.getD undef = .pointer (some ⟨gt, 0, none⟩) := by rw [← hA]; exact fr_out _ _ _ _ 24 _ (by decide) rfl
                                    clear hA hdep
                                    go_simp
                                    exact hK _ _ (Fr.refl _ _ _) hC rfl
                                  · simp only [List.getElem?_toArray, List.getElem?_cons_zero, List.getElem?_cons_succ, Option.some.injEq] at ho
                                    clear hwt
                                    subst ho
                                    simp only [Option.some.injEq] at hd
                                    subst hd
                                    have h151 : f 151 = .pointer (some ⟨gt, 0, none⟩) := hdep { on := 18, ground := .data } (by simp) rfl 151 rfl
                                    generalize hA : fr _ _ _ f = A at hK ⊢
                                    have e151 : A.tmps[151]?.getD undef = f 151 := by rw [← hA]; exact fr_in _ _ _ _ 151 (by decide) (by simp)
                                    clear hA hdep
                                    rw [h151] at e151
                                    clear h151
                                    have hcell := (hC.fr.cell hgtl hgtb 0).trans t0
                                    go_simp
                                    exact hK _ _ (Fr.refl _ _ _) hC rfl
                                  · simp only [List.getElem?_toArray, List.getElem?_cons_zero, List.getElem?_cons_succ, Option.some.injEq] at ho
                                    clear hwt
                                    subst ho
                                    simp only [Option.some.injEq] at hd
                                    subst hd
                                    generalize hA : fr _ _ _ f = A at hK ⊢
                                    have e24 : A.tmps[24]?.getD undef = .pointer (some ⟨gt, 0, none⟩) := by rw [← hA]; exact fr_out _ _ _ _ 24 _ (by decide) rfl
                                    clear hA hdep
                                    go_simp
                                    exact hK _ _ (Fr.refl _ _ _) hC rfl
                                  · simp only [List.getElem?_toArray, List.getElem?_cons_zero, List.getElem?_cons_succ, Option.some.injEq] at ho
                                    clear hwt
                                    subst ho
                                    simp only [Option.some.injEq] at hd
                                    subst hd
                                    have h153 : f 153 = .pointer (some ⟨gt, 1, none⟩) := hdep { on := 20, ground := .data } (by simp) rfl 153 rfl
                                    generalize hA : fr _ _ _ f = A at hK ⊢
                                    have e153 : A.tmps[153]?.getD undef = f 153 := by rw [← hA]; exact fr_in _ _ _ _ 153 (by decide) (by simp)
                                    clear hA hdep
                                    rw [h153] at e153
                                    clear h153
                                    have hcell := (hC.fr.cell hgtl hgtb 1).trans t1
                                    go_simp
                                    exact hK _ _ (Fr.refl _ _ _) hC rfl
                                  · simp only [List.getElem?_toArray, List.getElem?_cons_zero, List.getElem?_cons_succ, Option.some.injEq] at ho
                                    clear hwt
                                    subst ho
                                    simp only [Option.some.injEq] at hd
                                    subst hd
                                    have h150 : f 150 = .agg #[.slice B1 bn.length b1, .slice B2 be.length b2] := hdep { on := 17, ground := .data } (by simp) rfl 150 rfl
                                    have h152 : f 152 = .int .i64 p := hdep { on := 19, ground := .data } (by simp) rfl 152 rfl
                                    have h154 : f 154 = .int .i64 q := hdep { on := 21, ground := .data } (by simp) rfl 154 rfl
                                    generalize hA : fr _ _ _ f = A at hK ⊢
                                    have e150 : A.tmps[150]?.getD undef = f 150 := by rw [← hA]; exact fr_in _ _ _ _ 150 (by decide) (by simp)
                                    have e152 : A.tmps[152]?.getD undef = f 152 := by rw [← hA]; exact fr_in _ _ _ _ 152 (by decide) (by simp)
                                    have e154 : A.tmps[154]?.getD undef = f 154 := by rw [← hA]; exact fr_in _ _ _ _ 154 (by decide) (by simp)
                                    clear hA hdep
                                    rw [h150] at e150
                                    clear h150
                                    rw [h152] at e152
                                    clear h152
                                    rw [h154] at e154
                                    clear h154
                                    go_simp
                                    refine (HOr.out w1 hC).mono ?_
                                    rintro e' w2 ⟨rfl, hb2⟩
                                    exact hK _ _ (Fr.of_below hb2) (hC.below hb2) rfl
                                  · simp only [List.getElem?_toArray, List.getElem?_cons_zero, List.getElem?_cons_succ, Option.some.injEq] at ho
                                    clear hwt
                                    subst ho
                                    simp only [Option.some.injEq] at hd
                                    subst hd
                                    have h149 : f 149 = .int .i64 (otherL bn be p q) := hdep { on := 16, ground := .data } (by simp) rfl 149 rfl
                                    have h155 : f 155 = .int .i64 (otherL bn be p q) := hdep { on := 22, ground := .data } (by simp) rfl 155 rfl
                                    generalize hA : fr _ _ _ f = A at hK ⊢
                                    have e149 : A.tmps[149]?.getD undef = f 149 := by rw [← hA]; exact fr_in _ _ _ _ 149 (by decide) (by simp)
                                    have e155 : A.tmps[155]?.getD undef = f 155 := by rw [← hA]; exact fr_in _ _ _ _ 155 (by decide) (by simp)
                                    clear hA hdep
                                    rw [h149] at e149
                                    clear h149
                                    rw [h155] at e155
                                    clear h155
                                    go_simp
                                    exact hK _ _ (Fr.refl _ _ _) hC (by simp)
                                  · simp only [List.getElem?_toArray, List.getElem?_cons_zero, List.getElem?_cons_succ, Option.some.injEq] at ho
                                    clear hwt
                                    subst ho
                                    simp only [Option.some.injEq] at hd
                                    subst hd
                                    have h143 : f 143 = .bool false := hdep { on := 10, ground := .data } (by simp) rfl 143 rfl
                                    have h156 : f 156 = .bool false := hdep { on := 23, ground := .data } (by simp) rfl 156 rfl
                                    generalize hA : fr _ _ _ f = A at hK ⊢
                                    have e143 : A.tmps[143]?.getD undef = f 143 := by rw [← hA]; exact fr_in _ _ _ _ 143 (by decide) (by simp)
                                    have e156 : A.tmps[156]?.getD undef = f 156 := by rw [← hA]; exact fr_in _ _ _ _ 156 (by decide) (by simp)
                                    clear hA hdep
                                    rw [h143] at e143
                                    clear h143
                                    rw [h156] at e156
                                    clear h156
                                    go_simp
                                    exact hK _ _ (Fr.refl _ _ _) hC (by simp)
                                · intro f w1 hC hall
                                  have q0 : f 157 = .bool false := hall 24 157 (by decide) rfl
                                  have Q0 := Lib.hid q0
                                  clear hall q0
                                  simp only [fr, upd, List.mapIdx_cons, List.mapIdx_nil]
                                  simp
                                  go_wp2_with fail
                                  go_meet
                                  case rel => exact ⟨Q0.out, hC⟩
                              case rest =>
                                obtain ⟨Wv, rfl⟩ : ∃ x, x = wc := ⟨_, rfl⟩
                                obtain ⟨rfl, Sv⟩ := hcut
                                clear HWT Hgt HAo HAr HOo HOr Wr2
                                obtain ⟨WU, hWU⟩ : ∃ x, x = Wv.alloc (.cells #[.slice U us.length cu, .slice (some ⟨g1, 0, none⟩) ds.length ds.length] 27) := ⟨_, rfl⟩
                                have hrowU : WU.heap[Wv.heap.size]? = some (.cells #[.slice U us.length cu, .slice (some ⟨g1, 0, none⟩) ds.length ds.length] 27 (0, 0)) := by rw [hWU]; exact heap_alloc_new Wv _
                                have SU1 : AS wb WT WU := by rw [hWU]; exact Sv.below ((Below.refl _ _).alloc (Nat.le_refl _) _)
                                have SU := AS.start SU1.deck SU1.bel
                                have hgub : Wv.heap.size ≠ wb.heap.size := by have := Sv.deck.lt; omega
                                have hgul : Wv.heap.size < WU.heap.size := (Array.getElem?_eq_some_iff.1 hrowU).1
                                have hfl : ∀ i, i < 2 → ∃ (F : Option Addr) (m fc : Nat) (fb : List Bool), m = fb.length ∧ WU.cell? ⟨Wv.heap.size, i, none⟩ = some (.slice F m fc) ∧ SB WT (Old wb WT) F fb ∧ fb.length ≤ 65536 := by
                                  intro i hi
                                  have hi2 : i = 0 ∨ i = 1 := by omega
                                  rcases hi2 with rfl | rfl
                                  · exact ⟨U, us.length, cu, us, rfl, by rw [cell_of_row WU _ _ _ _ _ hrowU]; rfl, sUT, by omega⟩
                                  · exact ⟨some ⟨g1, 0, none⟩, ds.length, ds.length, fs, Hul.out.symm, by rw [cell_of_row WU _ _ _ _ _ hrowU]; rfl, sFT, hFl⟩
                                have Hfl := Lib.hid hfl
                                have HWU := Lib.hid hWU
                                obtain ⟨gu, hgu⟩ : ∃ x, x = Wv.heap.size := ⟨_, rfl⟩
                                rw [← hgu] at hgub hgul Hfl
                                have Hgu := Lib.hid hgu
                                clear hfl hrowU hWU hgu Sv
                                go_wp2_with (fail)
                                rw [← HWU.out, ← Hgu.out]
                                clear HWU Hgu Wv
                                go_loopg [162] 2 (fun g i wr => ∃ i' : Nat, i' + g = 2 ∧ i = .int .i64 i' ∧ AS wb WU wr)
                                case atStart => exact ⟨0, rfl, rfl, SU⟩
                                case round =>
                                  obtain ⟨i, hi, rfl, S⟩ := hrel
                                  have Hi := Lib.hid hi
                                  clear hi
                                  by_cases hil : i < 2
                                  · obtain ⟨F, m, fc, fb, hm, u0, sfb, hfbl⟩ := Hfl.out i hil
                                    have u0' := (S.fr.cell hgul hgub i).trans u0
                                    obtain ⟨Wz, rfl⟩ : ∃ x, x = wr := ⟨_, rfl⟩
                                    have ST2 := SU1.more S
                                    have y0 := (ST2.fr.cell hgqT hgqb 0).trans Hy0.out
                                    have y1 := (ST2.fr.cell hgqT hgqb 1).trans Hy1.out
                                    have v0 := (ST2.fr.cell hgtl hgtb 0).trans t0
                                    have v1 := (ST2.fr.cell hgtl hgtb 1).trans t1
                                    have HA := HWo.out Wz ST2 F m fc fb hm (ST2.sv sfb) hfbl
                                    have HB : ∀ W, AS wb WT W → Calls Tryd.prog 29 #[.agg #[.slice B1 bn.length b1, .slice B2 be.length b2], .slice F m fc, .int .i64 p, .int .i64 q] W (RetWay W (wayL bn be fb p q)) := fun W S => HWr.out W S F m fc fb hm (S.sv sfb) hfbl
                                    have hwl := wayL_len bn be fb p q
                                    generalize wayL bn be fb p q = wv at HA HB hwl
                                    obtain ⟨wl, wok, we⟩ := wv
                                    have hwl : wl.length ≤ 65536 := hwl
                                    have HA2 := Lib.hid HA
                                    have HB2 := Lib.hid HB
                                    clear HA HB hm u0
                                    go_wp2_with (fail)
                                    refine HA2.out.mono ?_
                                    rintro e8 W8 ⟨X1, xc1, rfl, oX1, hb8⟩
                                    have S8 := S.below hb8
                                    have ST8 := SU1.more S8
                                    have sX1 : SI W8 (fun g => g ≠ wb.heap.size) X1 (nats wl) := (OI.si oX1).mono (fun g _ hg => by have := ST2.deck.lt; have hg : Wz.heap.size ≤ g := hg; show g ≠ wb.heap.size; omega)
                                    clear y0 y1 v0 v1 HA2 oX1
                                    have y0 := (ST8.fr.cell hgqT hgqb 0).trans Hy0.out
                                    have y1 := (ST8.fr.cell hgqT hgqb 1).trans Hy1.out
                                    have v0 := (ST8.fr.cell hgtl hgtb 0).trans t0
                                    have v1 := (ST8.fr.cell hgtl hgtb 1).trans t1
                                    go_wp2_with (fail)
                                    refine (HB2.out W8 ST8).mono ?_
                                    rintro e9 W9 ⟨X2, xc2, rfl, oX2, hb9⟩
                                    have S9 := S8.below hb9
                                    have sX2 : SI W9 (fun _ => True) X2 (nats wl) := (OI.si oX2).mono (fun _ _ _ => trivial)
                                    have HI := ints_any W9 _ _ X1 X2 xc1 xc2 (nats wl) (nats wl) (sX1.keep (Kept.of_below hb9)) sX2 (by rw [nats_len]; omega) (by rw [nats_len]; omega)
                                    rw [nats_len, decide_eq_true (rfl : nats wl = nats wl)] at HI
                                    have HI2 := Lib.hid HI
                                    clear y0 y1 v0 v1 HB2 oX2 HI
                                    go_wp2_with (fail)
                                    refine HI2.out.mono ?_
                                    rintro e10 W10 ⟨rfl, nd, rfl⟩
                                    go_wp2_with (fail)
                                    go_roundg (gk - 1)
                                    case measure => have := Hi.out; omega
                                    case rel => exact ⟨i + 1, by have := Hi.out; omega, by go_num, S9.below (below_drewN _ _ _)⟩
                                  · obtain ⟨Wz, rfl⟩ : ∃ x, x = wr := ⟨_, rfl⟩
                                    have ST2 := ST1.more (SU1.more S)
                                    go_wp2_with (fail)
                                    go_roundg (gko - 1)
                                    case measure => have := Hj.out; omega
                                    case rel => exact ⟨j + 1, by have := Hj.out; omega, by go_num, ST2⟩
                            · obtain ⟨Wz, rfl⟩ : ∃ x, x = wr := ⟨_, rfl⟩
                              have ST2 := SN1.more (SQ1.more S)
                              go_wp2_with (fail)
                              go_roundg (gkm - 1)
                              case measure => have := Hk.out; omega
                              case rel => exact ⟨k + 1, by have := Hk.out; omega, by go_num, ST2⟩
                  · obtain ⟨Wf, rfl⟩ : ∃ x, x = wr := ⟨_, rfl⟩
                    have hm0 : 0 ≤ kd % 9 := by omega
                    have hm1 : kd % 9 < 9 := by omega
                    have HM0 := mod_any kd 9 Wf (by decide) (by decide)
                    obtain ⟨md, hmd⟩ : ∃ x, x = kd % 9 := ⟨_, rfl⟩
                    rw [← hmd] at hm0 hm1 HM0
                    have HMd := Lib.hid HM0
                    clear HM0 hmd HX sF sU
                    go_wp2_with (fail)
                    refine HMd.out.mono ?_
                    rintro e w' ⟨rfl, rfl⟩
                    obtain ⟨WK, hWK⟩ : ∃ x, x = Wf.alloc (.cells #[.int .i64 kd, .int .i64 (md - 1)] 3) := ⟨_, rfl⟩
                    have hrowK : WK.heap[Wf.heap.size]? = some (.cells #[.int .i64 kd, .int .i64 (md - 1)] 3 (0, 0)) := by rw [hWK]; exact heap_alloc_new Wf _
                    have SK : AS wb WM WK := by rw [hWK]; exact S.below ((Below.refl _ _).alloc (Nat.le_refl _) _)
                    have hkk : ∀ j, j < 2 → ∃ kk : Int, WK.cell? ⟨Wf.heap.size, j, none⟩ = some (.int .i64 kk) := by
                      intro j hj
                      have hj2 : j = 0 ∨ j = 1 := by omega
                      rcases hj2 with rfl | rfl
                      · exact ⟨kd, by rw [cell_of_row WK _ _ _ _ _ hrowK]; rfl⟩
                      · exact ⟨md - 1, by rw [cell_of_row WK _ _ _ _ _ hrowK]; rfl⟩
                    have Hkk := Lib.hid hkk
                    have HWK := Lib.hid hWK
                    obtain ⟨gk2, hgk2⟩ : ∃ x, x = Wf.heap.size := ⟨_, rfl⟩
                    rw [← hgk2] at Hkk
                    have Hgk2 := Lib.hid hgk2
                    clear hkk hWK hgk2 HMd hrowK S
                    go_wp2_with (fail)
                    rw [← HWK.out, ← Hgk2.out]
                    go_loopg [211] 2 (fun g i wr => wr = WK ∧ ∃ j : Nat, j + g = 2 ∧ i = .int .i64 j)
                    case atStart => exact ⟨rfl, 0, rfl, rfl⟩
                    case round =>
                      obtain ⟨rfl, j, hj, rfl⟩ := hrel
                      have Hj := Lib.hid hj
                      clear hj
                      by_cases hjl : j < 2
                      · obtain ⟨kk, z0⟩ := Hkk.out j hjl
                        have a1 := fun W => joins_any kk W
                        have a2 := fun W => refJoins_any kk W
                        have a3 := fun W => gap_any kk W
                        have a4 := fun W => refGap_any kk W
                        have a5 := fun W => oper_any kk W
                        have a6 := fun W => refOper_any kk W
                        generalize joinsB kk = jb at a1 a2
                        generalize gapB kk = gb at a3 a4
                        generalize operB kk = ob at a5 a6
                        have H1 := Lib.hid a1
                        have H2 := Lib.hid a2
                        have H3 := Lib.hid a3
                        have H4 := Lib.hid a4
                        have H5 := Lib.hid a5
                        have H6 := Lib.hid a6
                        clear a1 a2 a3 a4 a5 a6
                        go_wp2_with (fail)
                        refine (H1.out _).mono ?_
                        rintro e w' ⟨rfl, rfl⟩
                        go_wp2_with (fail)
                        refine (H2.out _).mono ?_
                        rintro e w' ⟨rfl, rfl⟩
                        go_wp2_with (fail)
                        refine (H3.out _).mono ?_
                        rintro e w' ⟨rfl, rfl⟩
                        go_wp2_with (fail)
                        refine (H4.out _).mono ?_
                        rintro e w' ⟨rfl, rfl⟩
                        go_wp2_with (fail)
                        refine (H5.out _).mono ?_
                        rintro e w' ⟨rfl, rfl⟩
                        go_wp2_with (fail)
                        refine (H6.out _).mono ?_
                        rintro e w' ⟨rfl, rfl⟩
                        go_wp2_with (fail)
                        go_roundg (gk - 1)
                        case measure => have := Hj.out; omega
                        case rel => exact ⟨rfl, j + 1, by have := Hj.out; omega, by go_num⟩
                      · have HF := Lib.hid (Fin1.out wr SK.bel)
                        go_wp2_with (fail)
                        refine HF.out.mono ?_
                        rintro e w8 ⟨rfl, hb8⟩
                        go_wp2_with (fail)
                        go_ret
                        exact ⟨rfl, hb8⟩
        · have d200 : decide ((200 : Int) < (us.length : Int)) = true := decide_eq_true (by omega)
          go_enter Tryd.func3, Tryd.ntmps3
          go_wp2_with (fail)
          rw [← Hgr.out, ← HW0.out]
          refine (few_any w0 A xs.length c).mono ?_
          rw [hfd]
          rintro e w' ⟨rfl, rfl⟩
          have n0 : w0.cell? ⟨gr, 0, none⟩ = some (.slice R1 rn.length d1) := by rw [HW0.out]; exact m0
          have n1 : w0.cell? ⟨gr, 1, none⟩ = some (.slice R2 rd.length d2) := by rw [HW0.out]; exact m1
          clear m0 m1
          go_wp2_with (fail)
          refine HLt.out.mono ?_
          rintro e w1 ⟨rfl, hb1⟩
          go_wp2_with (fail)
          refine (Fin.out w1 hb1).mono ?_
          rintro e w8 ⟨rfl, hb8⟩
          go_wp2_with (fail)
          go_ret
          exact ⟨rfl, hb8⟩
      · have d100 : decide ((100 : Int) < (s.size : Int)) = true := decide_eq_true (by omega)
        go_enter Tryd.func3, Tryd.ntmps3
        go_wp2_with (fail)
        rw [← Hgr.out, ← HW0.out]
        refine (few_any w0 A xs.length c).mono ?_
        rw [hfd]
        rintro e w' ⟨rfl, rfl⟩
        have n0 : w0.cell? ⟨gr, 0, none⟩ = some (.slice R1 rn.length d1) := by rw [HW0.out]; exact m0
        have n1 : w0.cell? ⟨gr, 1, none⟩ = some (.slice R2 rd.length d2) := by rw [HW0.out]; exact m1
        clear m0 m1
        go_wp2_with (fail)
        refine HLt.out.mono ?_
        rintro e w1 ⟨rfl, hb1⟩
        go_wp2_with (fail)
        refine (Fin.out w1 hb1).mono ?_
        rintro e w8 ⟨rfl, hb8⟩
        go_wp2_with (fail)
        go_ret
        exact ⟨rfl, hb8⟩
    · have hli : lightB rn rd = false := by simpa using hli
      rw [hli] at HLt
      go_enter Tryd.func3, Tryd.ntmps3
      go_wp2_with (fail)
      rw [← Hgr.out, ← HW0.out]
      refine (few_any w0 A xs.length c).mono ?_
      rw [hfd]
      rintro e w' ⟨rfl, rfl⟩
      have n0 : w0.cell? ⟨gr, 0, none⟩ = some (.slice R1 rn.length d1) := by rw [HW0.out]; exact m0
      have n1 : w0.cell? ⟨gr, 1, none⟩ = some (.slice R2 rd.length d2) := by rw [HW0.out]; exact m1
      clear m0 m1
      go_wp2_with (fail)
      refine HLt.out.mono ?_
      rintro e w1 ⟨rfl, hb1⟩
      go_wp2_with (fail)
      refine (Fin.out w1 hb1).mono ?_
      rintro e w8 ⟨rfl, hb8⟩
      go_wp2_with (fail)
      go_ret
      exact ⟨rfl, hb8⟩
  · have hfd : decide ((xs.length : Int) ≤ 400) = false := decide_eq_false (by omega)
    go_enter Tryd.func3, Tryd.ntmps3
    go_wp2_with (fail)
    rw [← Hgr.out, ← HW0.out]
    refine (few_any w0 A xs.length c).mono ?_
    rw [hfd]
    rintro e w' ⟨rfl, rfl⟩
    clear m0 m1
    go_wp2_with (fail)
    refine (Fin.out w0 (Below.refl _ _)).mono ?_
    rintro e w8 ⟨rfl, hb8⟩
    go_wp2_with (fail)
    go_ret
    exact ⟨rfl, hb8⟩
end Go.Proofs.YtgpcojmdfmngeaaDoor

/-
  The law ColourAnswers, walked: the inputs that it takes (under way).
-/
import Derived.Test.YtgpcojmdfmngeaaDoorAns
import Derived.Test.YtgpcojmdfmngeaaDoorNar
import Derived.Test.YtgpcojmdfmngeaaDoorSm07
import Derived.Test.YtgpcojmdfmngeaaDoorMkf
import Derived.Test.YtgpcojmdfmngeaaDoorRo06
import Derived.Test.YtgpcojmdfmngeaaDoorMkU
import Derived.Test.YtgpcojmdfmngeaaDoorGf
import Derived.Test.YtgpcojmdfmngeaaDoorGa
namespace Go.Proofs.YtgpcojmdfmngeaaDoor
open Go.RowKit
set_option maxHeartbeats 400000
set_option maxRecDepth 100000

theorem Fr.kept7 {bd : Nat} {a b : World} (h : Fr a.heap.size bd a b) : Kept (fun g => g ≠ bd) a b := ⟨h.size, fun k hk hl => h.block k hl hk⟩
theorem AS.oldn7 {w WM W : World} {A1 A2 : Option Addr} {ns : List Node} {ds : List Dev} (h : AS w WM W) (hs : NetIn WM (Old w WM) A1 A2 ns ds) : NetIn W (Old w W) A1 A2 ns ds := (hs.keep h.kept).mono (fun _ hl hg => ⟨hg.1, hl⟩)
set_option maxHeartbeats 16000000 in
theorem colourAnswers_ok (w : World) (h : TabC w) (ht : Tab w) (A : Option Addr) (c : Nat) (xs : List Int) (hs : SI w (fun _ => True) A xs) (Aa : Option Addr) (ca : Nat) (la : List Int) (hsa : SI w (fun _ => True) Aa la)
    (R1 R2 : Option Addr) (d1 d2 : Nat) (rn : List Node) (rd : List Dev) (hr : NetIn w (fun _ => True) R1 R2 rn rd) (hr1 : rn.length ≤ maxLen) (hr2 : rd.length ≤ maxLen) (a b : Int) (hf : xs.length ≤ 400) (h100 : la.length ≤ 100) (hli : lightB rn rd = true) :
    Calls Tryd.prog 5 #[.slice A xs.length c, .slice Aa la.length ca, .agg #[.slice R1 rn.length d1, .slice R2 rd.length d2], .int .i64 a, .int .i64 b] w (RetT w) := by
  obtain ⟨w0, hw0⟩ : ∃ x, x = w.alloc (.cells #[.slice R1 rn.length d1, .slice R2 rd.length d2] 26) := ⟨_, rfl⟩
  have hb0 : Below w.heap.size w w0 := by rw [hw0]; exact (Below.refl _ _).alloc (Nat.le_refl _) _
  have hbox0 : w0.heap[w.heap.size]? = some (.cells #[.slice R1 rn.length d1, .slice R2 rd.length d2] 26 (0, 0)) := by rw [hw0]; exact heap_alloc_new w _
  have hgb : w.heap.size < w0.heap.size := (Array.getElem?_eq_some_iff.1 hbox0).1
  have m0 : w0.cell? ⟨w.heap.size, 0, none⟩ = some (.slice R1 rn.length d1) := by rw [cell_of_row w0 _ 0 _ _ _ hbox0]; rfl
  have m1 : w0.cell? ⟨w.heap.size, 1, none⟩ = some (.slice R2 rd.length d2) := by rw [cell_of_row w0 _ 1 _ _ _ hbox0]; rfl
  have h0 := h.below hb0
  have ht0 := ht.below hb0
  have hs0 := hs.keep (Kept.of_below hb0)
  have hsa0 := hsa.keep (Kept.of_below hb0)
  have hr0 := hr.below hb0
  have HW0 := Lib.hid hw0
  have Hbox0 := Lib.hid hbox0
  rw [hw0] at m0 m1
  clear hw0 hbox0
  obtain ⟨gr, hgr⟩ : ∃ x, x = w.heap.size := ⟨_, rfl⟩
  rw [← hgr] at m0 m1 hgb
  have Hgr := Lib.hid hgr
  clear hgr
  have Fin : Hid (∀ W : World, Below w0.heap.size w0 W → Calls Tryd.prog 63 #[] W (fun e w' => e = .returned (.bool true) ∧ Below w.heap.size w w')) := Lib.hid (fun W hb =>
    (awake07 W (h0.below hb) (ht0.below hb)).mono fun e w' he => ⟨he.1, hb0.trans ((hb.mono hb0.size).trans (he.2.mono (by have := hb0.size; have := hb.size; omega)))⟩)
  have hfd : decide ((xs.length : Int) ≤ 400) = true := decide_eq_true (by omega)
  have d100 : decide ((100 : Int) < (la.length : Int)) = false := decide_eq_false (by omega)
  have HLt := Lib.hid (light_any w0 _ R1 R2 d1 d2 rn rd hr0 hr1 hr2)
  have Hlen := Lib.hid (@light_len rn rd)
  rw [hli] at HLt
  obtain ⟨hrn, hrd⟩ := Hlen.out hli
  go_enter Tryd.func5, Tryd.ntmps5
  go_wp2_with (fail)
  rw [← Hgr.out, ← HW0.out]
  refine (few_any w0 A xs.length c).mono ?_
  rw [hfd]
  rintro e w' ⟨rfl, rfl⟩
  have n0 : w0.cell? ⟨gr, 0, none⟩ = some (.slice R1 rn.length d1) := by rw [HW0.out]; exact m0
  have n1 : w0.cell? ⟨gr, 1, none⟩ = some (.slice R2 rd.length d2) := by rw [HW0.out]; exact m1
  clear m0 m1
  go_wp2_with (fail)
  refine HLt.out.mono ?_
  rintro e wb ⟨rfl, hb1⟩
  have hs1 := hs0.keep (Kept.of_below hb1)
  have hsa1 := hsa0.keep (Kept.of_below hb1)
  have hbox1 : wb.heap[gr]? = some (.cells #[.slice R1 rn.length d1, .slice R2 rd.length d2] 26 (0, 0)) := by
    have hq := Hbox0.out
    rw [← Hgr.out] at hq
    exact (hb1.block gr hgb).trans hq
  have h1 := h0.below hb1
  have ht1 := ht0.below hb1
  have hr1' := hr0.below hb1
  have hgb1 : gr < wb.heap.size := by have := hb1.size; omega
  have Fin1 : Hid (∀ W : World, Below wb.heap.size wb W → Calls Tryd.prog 63 #[] W (fun e w' => e = .returned (.bool true) ∧ Below w.heap.size w w')) := Lib.hid (fun W hb => Fin.out W (hb1.trans (hb.mono hb1.size)))
  have Hbox1 := Lib.hid hbox1
  clear n0 n1 hs0 hsa0 h0 ht0 hr0 HLt Fin hb1 hgb hbox1 Hbox0 HW0 hb0 w0
  go_wp2_with (fail)
  refine (new_any wb _ A c xs hs1 hf).mono ?_
  rintro e w2 ⟨rfl, hd2, hb2, hz2⟩
  have Hz2 := Lib.hid hz2
  clear hz2
  go_wp2_with (fail)
  refine (network_any w2 wb.heap.size hd2 7 12 (by decide) (by decide) (by decide) (by decide)).mono ?_
  rintro e w3 ⟨A1, c1, A2, c2, ns, ds, rfl, ho1, ho2, hd3, hg3, hgood⟩
  have L := LS.start hd2 hb2 Hz2.out ho1 ho2 hd3 hg3 hgood
  have hnl : ns.length ≤ 7 := hgood.most
  have hdl : ds.length ≤ 12 := hgood.few
  obtain ⟨W5, hW⟩ : ∃ W, W = w3.alloc (.cells #[.slice A1 ns.length c1, .slice A2 ds.length c2] 26) := ⟨_, rfl⟩
  rw [← hW] at L
  have HW := Lib.hid hW
  clear hd2 hb2 Hz2 ho1 ho2 hd3 hg3 hW
  obtain ⟨gn, hgn⟩ : ∃ x, x = w3.heap.size := ⟨_, rfl⟩
  rw [← hgn] at L
  have Hgn := Lib.hid hgn
  clear hgn
  have n0 := L.n0
  have n1 := L.n1
  have S5 := AS.start L.deck L.bel
  have hgnb : gn ≠ wb.heap.size := by have := L.gne; omega
  have hgnl : gn < W5.heap.size := World.block_lt_of_cell? W5 _ n0
  have LOld := Lib.hid (L.net.mono (T := Old wb W5) (fun g hl hg => ⟨by omega, hl⟩))
  have hms := Lib.hid (masks_few W5 wb.heap.size S5.deck A1 ns.length c1 A2 c2 ds (fun g => g ≠ wb.heap.size) (fun b hb => hb) ((LOld.out.devs).mono (fun g _ hg => hg.1)) (by omega) 6 (by decide))
  clear hs1 L
  go_wp2_with (fail)
  rw [← HW.out, ← Hgn.out]
  refine hms.out.mono ?_
  rintro e W6 ⟨Am, mc, ml, rfl, hml, _, _, ho6, hd6, hf6⟩
  have S6 := S5.frd hf6 hd6
  have sm6 : SI W6 (fun g => g ≠ wb.heap.size) Am ml := (OI.si ho6).mono (fun g _ hg => by have := S5.deck.lt; have hg : W5.heap.size ≤ g := hg; show g ≠ wb.heap.size; omega)
  have n0' := (S6.fr.cell hgnl hgnb 0).trans n0
  have n1' := (S6.fr.cell hgnl hgnb 1).trans n1
  have hbox6 := (S6.bel.block gr hgb1).trans Hbox1.out
  have p0 : W6.cell? ⟨gr, 0, none⟩ = some (.slice R1 rn.length d1) := by rw [cell_of_row W6 _ 0 _ _ _ hbox6]; rfl
  have p1 : W6.cell? ⟨gr, 1, none⟩ = some (.slice R2 rd.length d2) := by rw [cell_of_row W6 _ 1 _ _ _ hbox6]; rfl
  have hml12 : ml.length ≤ 12 := by omega
  have sa6 : SI W6 (fun g => g ≠ wb.heap.size) Aa la := (hsa1.mono (T := fun g => g ≠ wb.heap.size) (fun g hl _ => by show g ≠ wb.heap.size; omega)).keep ⟨S6.bel.size, fun b _ hl => S6.bel.block b hl⟩
  have hn6 := (LOld.out.keep S6.kept).mono (T := Old wb W6) (fun g hl hg => ⟨hg.1, hl⟩)
  have hr6 : NetIn W6 (Old wb W6) R1 R2 rn rd := Old.net hr1' S6.bel
  clear hms HW Hgn hml ho6 hd6 hf6 n0 n1 hbox6 Hbox1 hr1' LOld hsa1 S5 w3 w2
  obtain ⟨WM, hWM⟩ : ∃ x, x = W6.alloc (.cells #[.slice A1 ns.length c1, .slice A2 ds.length c2, .slice R1 rn.length d1, .slice R2 rd.length d2] 26) := ⟨_, rfl⟩
  have hrow : WM.heap[W6.heap.size]? = some (.cells #[.slice A1 ns.length c1, .slice A2 ds.length c2, .slice R1 rn.length d1, .slice R2 rd.length d2] 26 (0, 0)) := by rw [hWM]; exact heap_alloc_new W6 _
  have hbM : Below W6.heap.size W6 WM := by rw [hWM]; exact (Below.refl _ _).alloc (Nat.le_refl _) _
  have S6M := S6.below hbM
  have SM := AS.start S6M.deck S6M.bel
  have S66 := AS.start S6.deck S6.bel
  have S6x := S66.below hbM
  have hnM := S6x.oldn7 hn6
  have hrM := S6x.oldn7 hr6
  have hsz6 := hbM.size
  have HWM := Lib.hid hWM
  obtain ⟨gx, hgx'⟩ : ∃ x, x = W6.heap.size := ⟨_, rfl⟩
  rw [← hgx'] at hrow
  have hgx : gx ≠ wb.heap.size := by have := S6.deck.lt; omega
  have hgxl : gx < WM.heap.size := (Array.getElem?_eq_some_iff.1 hrow).1
  have Hgx := Lib.hid hgx'
  have hx : ∀ k, k < 2 → ∃ (B1 : Option Addr) (b1 : Nat) (bn : List Node) (B2 : Option Addr) (b2 : Nat) (be : List Dev), WM.cell? ⟨gx, k * 2, none⟩ = some (.slice B1 bn.length b1) ∧ WM.cell? ⟨gx, k * 2 + 1, none⟩ = some (.slice B2 be.length b2) ∧ NetIn WM (Old wb WM) B1 B2 bn be ∧ bn.length ≤ 100 ∧ be.length ≤ 200 := by
    intro k hk
    have hk2 : k = 0 ∨ k = 1 := by omega
    rcases hk2 with rfl | rfl
    · exact ⟨A1, c1, ns, A2, c2, ds, by rw [cell_of_row WM _ _ _ _ _ hrow]; rfl, by rw [cell_of_row WM _ _ _ _ _ hrow]; rfl, hnM, by omega, by omega⟩
    · exact ⟨R1, d1, rn, R2, d2, rd, by rw [cell_of_row WM _ _ _ _ _ hrow]; rfl, by rw [cell_of_row WM _ _ _ _ _ hrow]; rfl, hrM, by omega, by omega⟩
  have HX := Lib.hid hx
  have smM : SI WM (Old wb WM) Am ml := (sm6.keep (Kept.of_below hbM)).mono (fun g hl hg => ⟨hg, hl⟩)
  have saM : SI WM (Old wb WM) Aa la := (sa6.keep (Kept.of_below hbM)).mono (fun g hl hg => ⟨hg, hl⟩)
  have M0 := Lib.hid (show WM.cell? ⟨gn, 0, none⟩ = some (.slice A1 ns.length c1) ∧ WM.cell? ⟨gn, 1, none⟩ = some (.slice A2 ds.length c2) from ⟨(S6M.fr.cell hgnl hgnb 0).trans (by rw [← n0', S6.fr.cell hgnl hgnb 0]), (S6M.fr.cell hgnl hgnb 1).trans (by rw [← n1', S6.fr.cell hgnl hgnb 1])⟩)
  have hgnM : gn < WM.heap.size := by have := S6M.size; omega
  clear hx hrow hWM hgx' hbM hn6 hr6 sm6 sa6 S66 S6x S6M hsz6
  go_wp2_with (fail)
  rw [← HWM.out, ← Hgx.out]
  clear HWM Hgx n0' n1' p0 p1 S6
  go_loopg [65] 2 (fun g i wr => ∃ k : Nat, k + g = 2 ∧ i = .int .i64 k ∧ AS wb WM wr)
  case atStart => exact ⟨0, rfl, rfl, SM⟩
  case round =>
    clear SM
    obtain ⟨k, hk, rfl, S⟩ := hrel
    have Hk := Lib.hid hk
    clear hk
    obtain ⟨gkm, rfl⟩ : ∃ x : Nat, x = gk := ⟨_, rfl⟩
    by_cases hlt : k < 2
    · obtain ⟨B1, b1, bn, B2, b2, be, q0, q1, hnk, l1, l2⟩ := HX.out k hlt
      have c0 := (S.fr.cell hgxl hgx (k * 2)).trans q0
      have c1' := (S.fr.cell hgxl hgx (k * 2 + 1)).trans q1
      obtain ⟨Wr, rfl⟩ : ∃ x, x = wr := ⟨_, rfl⟩
      obtain ⟨WN, hWN⟩ : ∃ x, x = Wr.alloc (.cells #[.slice B1 bn.length b1, .slice B2 be.length b2] 26) := ⟨_, rfl⟩
      have SN1 : AS wb WM WN := by rw [hWN]; exact S.below ((Below.refl _ _).alloc (Nat.le_refl _) _)
      have SN := AS.start SN1.deck SN1.bel
      have hrowN : WN.heap[Wr.heap.size]? = some (.cells #[.slice B1 bn.length b1, .slice B2 be.length b2] 26 (0, 0)) := by rw [hWN]; exact heap_alloc_new Wr _
      have hgqb : Wr.heap.size ≠ wb.heap.size := by have := S.deck.lt; omega
      have hgql : Wr.heap.size < WN.heap.size := (Array.getElem?_eq_some_iff.1 hrowN).1
      have hnN := SN1.oldn7 hnk
      have hnnN := SN1.oldn7 hnM
      have smN : SI WN (Old wb WN) Am ml := (smM.keep SN1.kept).mono (fun g hl hg => ⟨hg.1, hl⟩)
      have saN : SI WN (Old wb WN) Aa la := (saM.keep SN1.kept).mono (fun g hl hg => ⟨hg.1, hl⟩)
      have x0 : WN.cell? ⟨Wr.heap.size, 0, none⟩ = some (.slice B1 bn.length b1) := by rw [cell_of_row WN _ 0 _ _ _ hrowN]; rfl
      have x1 : WN.cell? ⟨Wr.heap.size, 1, none⟩ = some (.slice B2 be.length b2) := by rw [cell_of_row WN _ 1 _ _ _ hrowN]; rfl
      have y0 := (SN1.fr.cell hgnM hgnb 0).trans M0.out.1
      have y1 := (SN1.fr.cell hgnM hgnb 1).trans M0.out.2
      have hgnl : gn < WN.heap.size := by have := SN1.size; omega
      have HWN := Lib.hid hWN
      obtain ⟨gq, hgq⟩ : ∃ x, x = Wr.heap.size := ⟨_, rfl⟩
      rw [← hgq] at hgqb hgql x0 x1
      have Hgq := Lib.hid hgq
      clear q0 q1 hnk hrowN hgq hWN S
      go_upto_region 9 with (fail)
      rw [← HWN.out, ← Hgq.out]
      clear c0 c1'
      go_cut [80, 81, 82] (fun v80 v81 v82 wx => v81 = .int .i64 5 ∧ v82 = .int .i64 0 ∧ AS wb WN wx ∧ ∃ (gy : Nat) (X3 : Option Addr) (n3 : Nat) (l3 : List Int) (X6 : Option Addr) (n6 : Nat) (l6 : List Int) (X9 : Option Addr) (n9 : Nat) (l9 : List Int), v80 = .slice (some ⟨gy, 0, none⟩) 5 5 ∧ gy ≠ wb.heap.size ∧ wx.heap[gy]? = some (.cells #[.slice Aa la.length ca, .slice Am ml.length mc, .slice X3 l3.length n3, .slice X6 l6.length n6, .slice X9 l9.length n9] 22 (0, 0)) ∧ l3.length ≤ 200 ∧ l6.length ≤ 200 ∧ l9.length ≤ 200 ∧ SI wx (fun g => g ≠ wb.heap.size) X3 l3 ∧ SI wx (fun g => g ≠ wb.heap.size) X6 l6 ∧ SI wx (fun g => g ≠ wb.heap.size) X9 l9)
      case first =>
        clear HX saM smM hnM hrM M0 Hk h1 ht1 Fin1
        refine wp_region_ext1 (by kernel_rfl) 14 [69, 70, 71, 72, 73, 74, 75, 76, 77, 78, 79, 80, 81, 82] (fun w' => AS wb WN w') (fun a b => Fr a.heap.size wb.heap.size a b) (fun d vv w' => if d = 69 then vv = .slice Aa la.length ca else if d = 70 then vv = .slice Am ml.length mc else if d = 71 then vv = .pointer (some ⟨wb.heap.size, 0, none⟩) else if d = 72 then vv = .slice Am ml.length mc else if d = 74 then vv = .pointer (some ⟨wb.heap.size, 0, none⟩) else if d = 75 then vv = .agg #[.slice A1 ns.length c1, .slice A2 ds.length c2] else if d = 77 then vv = .pointer (some ⟨wb.heap.size, 0, none⟩) else if d = 78 then vv = .agg #[.slice B1 bn.length b1, .slice B2 be.length b2] else if d = 81 then vv = .int .i64 5 else if d = 82 then vv = .int .i64 0 else if d = 73 then ∃ (X : Option Addr) (n : Nat) (l : List Int), vv = .slice X l.length n ∧ l.length ≤ 200 ∧ SI w' (fun g => g ≠ wb.heap.size) X l else if d = 76 then ∃ (X : Option Addr) (n : Nat) (l : List Int), vv = .slice X l.length n ∧ l.length ≤ 200 ∧ SI w' (fun g => g ≠ wb.heap.size) X l else if d = 79 then ∃ (X : Option Addr) (n : Nat) (l : List Int), vv = .slice X l.length n ∧ l.length ≤ 200 ∧ SI w' (fun g => g ≠ wb.heap.size) X l else if d = 80 then ∃ (gy : Nat) (X3 : Option Addr) (n3 : Nat) (l3 : List Int) (X6 : Option Addr) (n6 : Nat) (l6 : List Int) (X9 : Option Addr) (n9 : Nat) (l9 : List Int), vv = .slice (some ⟨gy, 0, none⟩) 5 5 ∧ gy ≠ wb.heap.size ∧ w'.heap[gy]? = some (.cells #[.slice Aa la.length ca, .slice Am ml.length mc, .slice X3 l3.length n3, .slice X6 l6.length n6, .slice X9 l9.length n9] 22 (0, 0)) ∧ l3.length ≤ 200 ∧ l6.length ≤ 200 ∧ l9.length ≤ 200 ∧ SI w' (fun g => g ≠ wb.heap.size) X3 l3 ∧ SI w' (fun g => g ≠ wb.heap.size) X6 l6 ∧ SI w' (fun g => g ≠ wb.heap.size) X9 l9 else False) (by kernel_rfl) (SN.drew) (fun d v a b hC hE hT => by
            have key : (∃ (X : Option Addr) (n : Nat) (l : List Int), v = .slice X l.length n ∧ l.length ≤ 200 ∧ SI a (fun g => g ≠ wb.heap.size) X l) → ∃ (X : Option Addr) (n : Nat) (l : List Int), v = .slice X l.length n ∧ l.length ≤ 200 ∧ SI b (fun g => g ≠ wb.heap.size) X l := fun ⟨X, n, l, e1, e2, e3⟩ => ⟨X, n, l, e1, e2, e3.keep ⟨hE.size, fun k hk hl => hE.block k hl hk⟩⟩
            by_cases h73 : d = 73
            · subst h73; exact key hT
            by_cases h76 : d = 76
            · subst h76; exact key hT
            by_cases h79 : d = 79
            · subst h79; exact key hT
            by_cases h80 : d = 80
            · subst h80
              obtain ⟨gy, X3, n3, l3, X6, n6, l6, X9, n9, l9, e1, e2, e3, p3, p6, p9, q3, q6, q9⟩ := hT
              exact ⟨gy, X3, n3, l3, X6, n6, l6, X9, n9, l9, e1, e2, (hE.block gy (Array.getElem?_eq_some_iff.1 e3).1 e2).trans e3, p3, p6, p9, q3.keep ⟨hE.size, fun k hk hl => hE.block k hl hk⟩, q6.keep ⟨hE.size, fun k hk hl => hE.block k hl hk⟩, q9.keep ⟨hE.size, fun k hk hl => hE.block k hl hk⟩⟩
            simp only [if_neg h73, if_neg h76, if_neg h79, if_neg h80] at hT ⊢
            exact hT) ?_ ?_
        · intro i o d hi ho hd f w1 hC hdep K hK
          have hi' : i = 0 ∨ i = 1 ∨ i = 2 ∨ i = 3 ∨ i = 4 ∨ i = 5 ∨ i = 6 ∨ i = 7 ∨ i = 8 ∨ i = 9 ∨ i = 10 ∨ i = 11 ∨ i = 12 ∨ i = 13 := by omega
          rcases hi' with rfl | rfl | rfl | rfl | rfl | rfl | rfl | rfl | rfl | rfl | rfl | rfl | rfl | rfl
          · simp only [List.getElem?_toArray, List.getElem?_cons_zero, Option.some.injEq] at ho
            subst ho
            simp only [Option.some.injEq] at hd
            subst hd
            generalize hA : fr _ _ _ f = A at hK ⊢
            have e1 : A.tmps[1]?.getD undef = .slice Aa la.length ca := by rw [← hA]; exact fr_out _ _ _ _ 1 _ (by decide) rfl
            clear hA hdep
            go_simp
            exact hK _ _ (Fr.refl _ _ _) hC rfl
          · simp only [List.getElem?_toArray, List.getElem?_cons_zero, List.getElem?_cons_succ, Option.some.injEq] at ho
            subst ho
            simp only [Option.some.injEq] at hd
            subst hd
            generalize hA : fr _ _ _ f = A at hK ⊢
            have e13 : A.tmps[13]?.getD undef = .slice Am ml.length mc := by rw [← hA]; exact fr_out _ _ _ _ 13 _ (by decide) rfl
            clear hA hdep
            go_simp
            exact hK _ _ (Fr.refl _ _ _) hC rfl
          · simp only [List.getElem?_toArray, List.getElem?_cons_zero, List.getElem?_cons_succ, Option.some.injEq] at ho
            subst ho
            simp only [Option.some.injEq] at hd
            subst hd
            generalize hA : fr _ _ _ f = A at hK ⊢
            have e11 : A.tmps[11]?.getD undef = .pointer (some ⟨wb.heap.size, 0, none⟩) := by rw [← hA]; exact fr_out _ _ _ _ 11 _ (by decide) rfl
            clear hA hdep
            go_simp
            exact hK _ _ (Fr.refl _ _ _) hC rfl
          · simp only [List.getElem?_toArray, List.getElem?_cons_zero, List.getElem?_cons_succ, Option.some.injEq] at ho
            subst ho
            simp only [Option.some.injEq] at hd
            subst hd
            generalize hA : fr _ _ _ f = A at hK ⊢
            have e13 : A.tmps[13]?.getD undef = .slice Am ml.length mc := by rw [← hA]; exact fr_out _ _ _ _ 13 _ (by decide) rfl
            clear hA hdep
            go_simp
            exact hK _ _ (Fr.refl _ _ _) hC rfl
          · simp only [List.getElem?_toArray, List.getElem?_cons_zero, List.getElem?_cons_succ, Option.some.injEq] at ho
            subst ho
            simp only [Option.some.injEq] at hd
            subst hd
            have h71 : f 71 = .pointer (some ⟨wb.heap.size, 0, none⟩) := hdep { on := 2, ground := .data } (by simp) rfl 71 rfl
            have h72 : f 72 = .slice Am ml.length mc := hdep { on := 3, ground := .data } (by simp) rfl 72 rfl
            generalize hA : fr _ _ _ f = A at hK ⊢
            have e71 : A.tmps[71]?.getD undef = f 71 := by rw [← hA]; exact fr_in _ _ _ _ 71 (by decide) (by simp)
            have e72 : A.tmps[72]?.getD undef = f 72 := by rw [← hA]; exact fr_in _ _ _ _ 72 (by decide) (by simp)
            clear hA hdep
            rw [h71] at e71
            clear h71
            rw [h72] at e72
            clear h72
            go_simp
            refine (within_any w1 wb.heap.size hC.deck (Old wb WN) (fun b hb => hb.1) Am mc ml (smN.keep hC.kept) (by omega)).mono ?_
            rintro e' w2 ⟨X, n, l, rfl, e1, _, o1, hd2, hf2⟩
            exact hK _ _ hf2 (hC.frd hf2 hd2) ⟨X, n, l, rfl, by omega, (OI.si o1).mono (fun g _ hg => by have := hC.deck.lt; have hg : w1.heap.size ≤ g := hg; show g ≠ wb.heap.size; omega)⟩
          · simp only [List.getElem?_toArray, List.getElem?_cons_zero, List.getElem?_cons_succ, Option.some.injEq] at ho
            subst ho
            simp only [Option.some.injEq] at hd
            subst hd
            generalize hA : fr _ _ _ f = A at hK ⊢
            have e11 : A.tmps[11]?.getD undef = .pointer (some ⟨wb.heap.size, 0, none⟩) := by rw [← hA]; exact fr_out _ _ _ _ 11 _ (by decide) rfl
            clear hA hdep
            go_simp
            exact hK _ _ (Fr.refl _ _ _) hC rfl
          · simp only [List.getElem?_toArray, List.getElem?_cons_zero, List.getElem?_cons_succ, Option.some.injEq] at ho
            subst ho
            simp only [Option.some.injEq] at hd
            subst hd
            generalize hA : fr _ _ _ f = A at hK ⊢
            have e12 : A.tmps[12]?.getD undef = .pointer (some ⟨gn, 0, none⟩) := by rw [← hA]; exact fr_out _ _ _ _ 12 _ (by decide) rfl
            clear hA hdep
            have hcell0 := (hC.fr.cell hgnl hgnb 0).trans y0
            have hcell1 := (hC.fr.cell hgnl hgnb 1).trans y1
            go_simp
            exact hK _ _ (Fr.refl _ _ _) hC rfl
          · simp only [List.getElem?_toArray, List.getElem?_cons_zero, List.getElem?_cons_succ, Option.some.injEq] at ho
            subst ho
            simp only [Option.some.injEq] at hd
            subst hd
            have h74 : f 74 = .pointer (some ⟨wb.heap.size, 0, none⟩) := hdep { on := 5, ground := .data } (by simp) rfl 74 rfl
            have h75 : f 75 = .agg #[.slice A1 ns.length c1, .slice A2 ds.length c2] := hdep { on := 6, ground := .data } (by simp) rfl 75 rfl
            generalize hA : fr _ _ _ f = A at hK ⊢
            have e74 : A.tmps[74]?.getD undef = f 74 := by rw [← hA]; exact fr_in _ _ _ _ 74 (by decide) (by simp)
            have e75 : A.tmps[75]?.getD undef = f 75 := by rw [← hA]; exact fr_in _ _ _ _ 75 (by decide) (by simp)
            clear hA hdep
            rw [h74] at e74
            clear h74
            rw [h75] at e75
            clear h75
            go_simp
            refine (state_far w1 wb.heap.size hC.deck A1 ns.length c1 A2 c2 ds (Old wb WN) (fun b hb => hb.1) (hnnN.devs.keep hC.kept) (by omega)).mono ?_
            rintro e' w2 ⟨X, n, l, rfl, e1, _, o1, hd2, hf2⟩
            exact hK _ _ hf2 (hC.frd hf2 hd2) ⟨X, n, l, rfl, by omega, (OI.si o1).mono (fun g _ hg => by have := hC.deck.lt; have hg : w1.heap.size ≤ g := hg; show g ≠ wb.heap.size; omega)⟩
          · simp only [List.getElem?_toArray, List.getElem?_cons_zero, List.getElem?_cons_succ, Option.some.injEq] at ho
            subst ho
            simp only [Option.some.injEq] at hd
            subst hd
            generalize hA : fr _ _ _ f = A at hK ⊢
            have e11 : A.tmps[11]?.getD undef = .pointer (some ⟨wb.heap.size, 0, none⟩) := by rw [← hA]; exact fr_out _ _ _ _ 11 _ (by decide) rfl
            clear hA hdep
            go_simp
            exact hK _ _ (Fr.refl _ _ _) hC rfl
          · simp only [List.getElem?_toArray, List.getElem?_cons_zero, List.getElem?_cons_succ, Option.some.injEq] at ho
            subst ho
            simp only [Option.some.injEq] at hd
            subst hd
            generalize hA : fr _ _ _ f = A at hK ⊢
            have e15 : A.tmps[15]?.getD undef = .pointer (some ⟨gq, 0, none⟩) := by rw [← hA]; exact fr_out _ _ _ _ 15 _ (by decide) rfl
            clear hA hdep
            have hcell0 := (hC.fr.cell hgql hgqb 0).trans x0
            have hcell1 := (hC.fr.cell hgql hgqb 1).trans x1
            go_simp
            exact hK _ _ (Fr.refl _ _ _) hC rfl
          · simp only [List.getElem?_toArray, List.getElem?_cons_zero, List.getElem?_cons_succ, Option.some.injEq] at ho
            subst ho
            simp only [Option.some.injEq] at hd
            subst hd
            have h77 : f 77 = .pointer (some ⟨wb.heap.size, 0, none⟩) := hdep { on := 8, ground := .data } (by simp) rfl 77 rfl
            have h78 : f 78 = .agg #[.slice B1 bn.length b1, .slice B2 be.length b2] := hdep { on := 9, ground := .data } (by simp) rfl 78 rfl
            generalize hA : fr _ _ _ f = A at hK ⊢
            have e77 : A.tmps[77]?.getD undef = f 77 := by rw [← hA]; exact fr_in _ _ _ _ 77 (by decide) (by simp)
            have e78 : A.tmps[78]?.getD undef = f 78 := by rw [← hA]; exact fr_in _ _ _ _ 78 (by decide) (by simp)
            clear hA hdep
            rw [h77] at e77
            clear h77
            rw [h78] at e78
            clear h78
            go_simp
            refine (state_far w1 wb.heap.size hC.deck B1 bn.length b1 B2 b2 be (Old wb WN) (fun b hb => hb.1) (hnN.devs.keep hC.kept) (by omega)).mono ?_
            rintro e' w2 ⟨X, n, l, rfl, e1, _, o1, hd2, hf2⟩
            exact hK _ _ hf2 (hC.frd hf2 hd2) ⟨X, n, l, rfl, by omega, (OI.si o1).mono (fun g _ hg => by have := hC.deck.lt; have hg : w1.heap.size ≤ g := hg; show g ≠ wb.heap.size; omega)⟩
          · simp only [List.getElem?_toArray, List.getElem?_cons_zero, List.getElem?_cons_succ, Option.some.injEq] at ho
            subst ho
            simp only [Option.some.injEq] at hd
            subst hd
            have h69 : f 69 = .slice Aa la.length ca := hdep { on := 0, ground := .data } (by simp) rfl 69 rfl
            have h70 : f 70 = .slice Am ml.length mc := hdep { on := 1, ground := .data } (by simp) rfl 70 rfl
            have h73 : ∃ (X : Option Addr) (n : Nat) (l : List Int), f 73 = .slice X l.length n ∧ l.length ≤ 200 ∧ SI w1 (fun g => g ≠ wb.heap.size) X l := hdep { on := 4, ground := .data } (by simp) rfl 73 rfl
            have h76 : ∃ (X : Option Addr) (n : Nat) (l : List Int), f 76 = .slice X l.length n ∧ l.length ≤ 200 ∧ SI w1 (fun g => g ≠ wb.heap.size) X l := hdep { on := 7, ground := .data } (by simp) rfl 76 rfl
            have h79 : ∃ (X : Option Addr) (n : Nat) (l : List Int), f 79 = .slice X l.length n ∧ l.length ≤ 200 ∧ SI w1 (fun g => g ≠ wb.heap.size) X l := hdep { on := 10, ground := .data } (by simp) rfl 79 rfl
            generalize hA : fr _ _ _ f = A at hK ⊢
            have e69 : A.tmps[69]?.getD undef = f 69 := by rw [← hA]; exact fr_in _ _ _ _ 69 (by decide) (by simp)
            have e70 : A.tmps[70]?.getD undef = f 70 := by rw [← hA]; exact fr_in _ _ _ _ 70 (by decide) (by simp)
            have e73 : A.tmps[73]?.getD undef = f 73 := by rw [← hA]; exact fr_in _ _ _ _ 73 (by decide) (by simp)
            have e76 : A.tmps[76]?.getD undef = f 76 := by rw [← hA]; exact fr_in _ _ _ _ 76 (by decide) (by simp)
            have e79 : A.tmps[79]?.getD undef = f 79 := by rw [← hA]; exact fr_in _ _ _ _ 79 (by decide) (by simp)
            clear hA hdep
            rw [h69] at e69
            clear h69
            rw [h70] at e70
            clear h70
            obtain ⟨X3, n3, l3, h73, p3, q3⟩ := h73
            rw [h73] at e73
            have Hf73 := Lib.hid h73
            clear h73
            obtain ⟨X6, n6, l6, h76, p6, q6⟩ := h76
            rw [h76] at e76
            have Hf76 := Lib.hid h76
            clear h76
            obtain ⟨X9, n9, l9, h79, p9, q9⟩ := h79
            rw [h79] at e79
            have Hf79 := Lib.hid h79
            clear h79
            go_simp
            have hbz := (Below.refl w1.heap.size w1).alloc (Nat.le_refl _) (.cells #[.slice Aa la.length ca, .slice Am ml.length mc, .slice X3 l3.length n3, .slice X6 l6.length n6, .slice X9 l9.length n9] 22)
            exact hK _ _ (Fr.of_below hbz) (hC.below hbz) ⟨w1.heap.size, X3, n3, l3, X6, n6, l6, X9, n9, l9, rfl, by have := hC.deck.lt; omega, heap_alloc_new w1 _, p3, p6, p9, q3.keep (Kept.of_below hbz), q6.keep (Kept.of_below hbz), q9.keep (Kept.of_below hbz)⟩
          · simp only [List.getElem?_toArray, List.getElem?_cons_zero, List.getElem?_cons_succ, Option.some.injEq] at ho
            subst ho
            simp only [Option.some.injEq] at hd
            subst hd
            have h80 : ∃ (gy : Nat) (X3 : Option Addr) (n3 : Nat) (l3 : List Int) (X6 : Option Addr) (n6 : Nat) (l6 : List Int) (X9 : Option Addr) (n9 : Nat) (l9 : List Int), f 80 = .slice (some ⟨gy, 0, none⟩) 5 5 ∧ gy ≠ wb.heap.size ∧ w1.heap[gy]? = some (.cells #[.slice Aa la.length ca, .slice Am ml.length mc, .slice X3 l3.length n3, .slice X6 l6.length n6, .slice X9 l9.length n9] 22 (0, 0)) ∧ l3.length ≤ 200 ∧ l6.length ≤ 200 ∧ l9.length ≤ 200 ∧ SI w1 (fun g => g ≠ wb.heap.size) X3 l3 ∧ SI w1 (fun g => g ≠ wb.heap.size) X6 l6 ∧ SI w1 (fun g => g ≠ wb.heap.size) X9 l9 := hdep { on := 11, ground := .data } (by simp) rfl 80 rfl
            generalize hA : fr _ _ _ f = A at hK ⊢
            have e80 : A.tmps[80]?.getD undef = f 80 := by rw [← hA]; exact fr_in _ _ _ _ 80 (by decide) (by simp)
            clear hA hdep
            obtain ⟨gy, X3, n3, l3, X6, n6, l6, X9, n9, l9, h80, q0⟩ := h80
            rw [h80] at e80
            have Hf80 := Lib.hid h80
            clear h80
            go_simp
            exact hK _ _ (Fr.refl _ _ _) hC rfl
          · simp only [List.getElem?_toArray, List.getElem?_cons_zero, List.getElem?_cons_succ, Option.some.injEq] at ho
            subst ho
            simp only [Option.some.injEq] at hd
            subst hd
            generalize hA : fr _ _ _ f = A at hK ⊢
            clear hA hdep
            go_simp
            exact hK _ _ (Fr.refl _ _ _) hC rfl
        · intro f w1 hC hall
          have q0 : ∃ (gy : Nat) (X3 : Option Addr) (n3 : Nat) (l3 : List Int) (X6 : Option Addr) (n6 : Nat) (l6 : List Int) (X9 : Option Addr) (n9 : Nat) (l9 : List Int), f 80 = .slice (some ⟨gy, 0, none⟩) 5 5 ∧ gy ≠ wb.heap.size ∧ w1.heap[gy]? = some (.cells #[.slice Aa la.length ca, .slice Am ml.length mc, .slice X3 l3.length n3, .slice X6 l6.length n6, .slice X9 l9.length n9] 22 (0, 0)) ∧ l3.length ≤ 200 ∧ l6.length ≤ 200 ∧ l9.length ≤ 200 ∧ SI w1 (fun g => g ≠ wb.heap.size) X3 l3 ∧ SI w1 (fun g => g ≠ wb.heap.size) X6 l6 ∧ SI w1 (fun g => g ≠ wb.heap.size) X9 l9 := hall 11 80 (by decide) rfl
          have q1 : f 81 = .int .i64 5 := hall 12 81 (by decide) rfl
          have q2 : f 82 = .int .i64 0 := hall 13 82 (by decide) rfl
          have Q0 := Lib.hid q0
          have Q1 := Lib.hid q1
          have Q2 := Lib.hid q2
          clear hall q0 q1 q2
          simp only [fr, upd, List.mapIdx_cons, List.mapIdx_nil]
          simp
          go_wp2_with fail
          go_meet
          case rel => exact ⟨Q1.out, Q2.out, hC, Q0.out⟩
      case rest =>
        obtain ⟨WP, rfl⟩ : ∃ x, x = wc := ⟨_, rfl⟩
        obtain ⟨rfl, rfl, SP1, gy, X3, n3, l3, X6, n6, l6, X9, n9, l9, rfl, hgy, hrowP, p3, p6, p9, q3, q6, q9⟩ := hcut
        have SP := AS.start SP1.deck SP1.bel
        have saP : SI WP (Old wb WP) Aa la := (saN.keep SP1.kept).mono (fun g hl hg => ⟨hg.1, hl⟩)
        have smP : SI WP (Old wb WP) Am ml := (smN.keep SP1.kept).mono (fun g hl hg => ⟨hg.1, hl⟩)
        have hnP := SP1.oldn7 hnN
        have hgyl : gy < WP.heap.size := (Array.getElem?_eq_some_iff.1 hrowP).1
        have hgqP : gq < WP.heap.size := by have := SP1.size; omega
        have X0 := Lib.hid ((SP1.fr.cell hgql hgqb 0).trans x0)
        have X1 := Lib.hid ((SP1.fr.cell hgql hgqb 1).trans x1)
        have HY : Hid (∀ i, i < 5 → ∃ (Y : Option Addr) (yc : Nat) (yl : List Int), WP.cell? ⟨gy, i, none⟩ = some (.slice Y yl.length yc) ∧ SI WP (Old wb WP) Y yl ∧ yl.length ≤ 200) := Lib.hid (by
          intro i hi
          have hi5 : i = 0 ∨ i = 1 ∨ i = 2 ∨ i = 3 ∨ i = 4 := by omega
          rcases hi5 with rfl | rfl | rfl | rfl | rfl
          · exact ⟨Aa, ca, la, by rw [cell_of_row WP _ _ _ _ _ hrowP]; rfl, saP, by omega⟩
          · exact ⟨Am, mc, ml, by rw [cell_of_row WP _ _ _ _ _ hrowP]; rfl, smP, by omega⟩
          · exact ⟨X3, n3, l3, by rw [cell_of_row WP _ _ _ _ _ hrowP]; rfl, q3.mono (fun g hl hg => ⟨hg, hl⟩), by omega⟩
          · exact ⟨X6, n6, l6, by rw [cell_of_row WP _ _ _ _ _ hrowP]; rfl, q6.mono (fun g hl hg => ⟨hg, hl⟩), by omega⟩
          · exact ⟨X9, n9, l9, by rw [cell_of_row WP _ _ _ _ _ hrowP]; rfl, q9.mono (fun g hl hg => ⟨hg, hl⟩), by omega⟩)
        have SPm := SN1.more SP1
        clear hrowP p3 p6 p9 q3 q6 q9 saP smP saN smN hnnN hnN x0 x1 y0 y1 hgql SN SN1 SP1 HWN Hgq hgnl
        go_wp2_with (fail)
        go_loopg [82] 5 (fun g i wr => ∃ i5 : Nat, i5 + g = 5 ∧ i = .int .i64 i5 ∧ AS wb WP wr)
        case atStart => exact ⟨0, rfl, rfl, SP⟩
        case round =>
          clear SP
          obtain ⟨i5, hi, rfl, E0⟩ := hrel
          have Hi := Lib.hid hi
          clear hi
          obtain ⟨gk5, rfl⟩ : ∃ x : Nat, x = gk := ⟨_, rfl⟩
          by_cases hlt5 : i5 < 5
          · obtain ⟨Y, yc, yl, q1, sy, hyl⟩ := HY.out i5 hlt5
            have q2 := (E0.fr.cell hgyl hgy i5).trans q1
            obtain ⟨Z0, rfl⟩ : ∃ x, x = wr := ⟨_, rfl⟩
            obtain ⟨pp, pe, HPa, hpp⟩ : ∃ (pp : List Int) (pe : Int), Hid ((∀ W, AS wb WP W → Calls Tryd.prog 65 #[.agg #[.slice B1 bn.length b1, .slice B2 be.length b2], .slice Y yl.length yc] W fun e w' => ∃ A c, e = .returned (.tuple #[.slice A pp.length c, .int .i64 pe]) ∧ OI w' (fun g => W.heap.size ≤ g) A c pp ∧ Below W.heap.size W w') ∧ ∀ W, AS wb WP W → Calls Tryd.prog 66 #[.agg #[.slice B1 bn.length b1, .slice B2 be.length b2], .slice Y yl.length yc] W fun e w' => ∃ A c, e = .returned (.tuple #[.slice A pp.length c, .int .i64 pe]) ∧ OI w' (fun g => W.heap.size ≤ g) A c pp ∧ Below W.heap.size W w') ∧ pp.length ≤ 100 :=
              ⟨(partsE bn be yl).1, (partsE bn be yl).2, Lib.hid ⟨fun W hW => Parts_any W (h1.below hW.bel) (ht1.below hW.bel) _ B1 B2 b1 b2 bn be (hW.net hnP) (by omega) (by omega) Y yc yl (hW.sv sy) (by omega), fun W hW => refParts_any W _ B1 B2 b1 b2 bn be (hW.net hnP) (by omega) (by omega) Y yc yl (hW.sv sy) (by omega)⟩, by unfold partsE; split <;> simp [partsL_len]; omega⟩
            obtain ⟨cc, ce, HCo, hcc⟩ : ∃ (cc : List Int) (ce : Int), Hid ((∀ W, AS wb WP W → Calls Tryd.prog 67 #[.agg #[.slice B1 bn.length b1, .slice B2 be.length b2], .slice Y yl.length yc] W fun e w' => ∃ A c, e = .returned (.tuple #[.slice A cc.length c, .int .i64 ce]) ∧ OI w' (fun g => W.heap.size ≤ g) A c cc ∧ Below W.heap.size W w') ∧ ∀ W, AS wb WP W → Calls Tryd.prog 68 #[.agg #[.slice B1 bn.length b1, .slice B2 be.length b2], .slice Y yl.length yc] W fun e w' => ∃ A c, e = .returned (.tuple #[.slice A cc.length c, .int .i64 ce]) ∧ OI w' (fun g => W.heap.size ≤ g) A c cc ∧ Below W.heap.size W w') ∧ cc.length ≤ 100 :=
              ⟨(coloursE bn be yl).1, (coloursE bn be yl).2, Lib.hid ⟨fun W hW => Colours_any W (h1.below hW.bel) (ht1.below hW.bel) _ B1 B2 b1 b2 bn be (hW.net hnP) (by omega) (by omega) Y yc yl (hW.sv sy) (by omega), fun W hW => refColours_any W _ B1 B2 b1 b2 bn be (hW.net hnP) (by omega) (by omega) Y yc yl (hW.sv sy) (by omega)⟩, by have := coloursE_len bn be yl; omega⟩
            obtain ⟨zz, ze, HSh, hzz⟩ : ∃ (zz : List Shd) (ze : Int), Hid ((∀ W, AS wb WP W → Calls Tryd.prog 69 #[.agg #[.slice B1 bn.length b1, .slice B2 be.length b2], .slice Y yl.length yc] W fun e w' => ∃ A c, e = .returned (.tuple #[.slice A zz.length c, .int .i64 ze]) ∧ OS w' (fun g => W.heap.size ≤ g) A c zz ∧ Below W.heap.size W w') ∧ ∀ W, AS wb WP W → Calls Tryd.prog 70 #[.agg #[.slice B1 bn.length b1, .slice B2 be.length b2], .slice Y yl.length yc] W fun e w' => ∃ A c, e = .returned (.tuple #[.slice A zz.length c, .int .i64 ze]) ∧ OS w' (fun g => W.heap.size ≤ g) A c zz ∧ Below W.heap.size W w') ∧ zz.length ≤ 100 :=
              ⟨(shadesE bn be yl).1, (shadesE bn be yl).2, Lib.hid ⟨fun W hW => Shades_any W (h1.below hW.bel) (ht1.below hW.bel) _ B1 B2 b1 b2 bn be (hW.net hnP) (by omega) (by omega) Y yc yl (hW.sv sy) (by omega), fun W hW => refShades_any W _ B1 B2 b1 b2 bn be (hW.net hnP) (by omega) (by omega) Y yc yl (hW.sv sy) (by omega)⟩, by unfold shadesE; split <;> simp [shadeL, colL_len, partsL_len]; omega⟩
            obtain ⟨ff, fe, HFa, hff⟩ : ∃ (ff : List Int) (fe : Int), Hid ((∀ W, AS wb WP W → Calls Tryd.prog 71 #[.agg #[.slice B1 bn.length b1, .slice B2 be.length b2], .slice Y yl.length yc] W fun e w' => ∃ A c, e = .returned (.tuple #[.slice A ff.length c, .int .i64 fe]) ∧ OI w' (fun g => W.heap.size ≤ g) A c ff ∧ Below W.heap.size W w') ∧ ∀ W, AS wb WP W → Calls Tryd.prog 72 #[.agg #[.slice B1 bn.length b1, .slice B2 be.length b2], .slice Y yl.length yc] W fun e w' => ∃ A c, e = .returned (.tuple #[.slice A ff.length c, .int .i64 fe]) ∧ OI w' (fun g => W.heap.size ≤ g) A c ff ∧ Below W.heap.size W w') ∧ ff.length ≤ 100 :=
              ⟨(faultsE bn be yl).1, (faultsE bn be yl).2, Lib.hid ⟨fun W hW => Faults_any W (h1.below hW.bel) (ht1.below hW.bel) _ B1 B2 b1 b2 bn be (hW.net hnP) (by omega) (by omega) Y yc yl (hW.sv sy) (by omega), fun W hW => refFaults_any W _ B1 B2 b1 b2 bn be (hW.net hnP) (by omega) (by omega) Y yc yl (hW.sv sy) (by omega)⟩, by have := coloursE_len bn be yl; have := flt_len (coloursE bn be yl).1 0; unfold faultsE; simp only; omega⟩
            clear q1
            have z0 := (E0.fr.cell hgqP hgqb 0).trans X0.out
            have z1 := (E0.fr.cell hgqP hgqb 1).trans X1.out
            go_wp2_with (fail)
            clear z0 z1 q2
            refine (HPa.out.1 Z0 E0).mono ?_
            rintro e Z1 ⟨V1, vc1, rfl, ho1, hb1⟩
            have E1 := E0.below hb1
            have s1 := (OV.sv ho1).mono (T := fun _ => True) (fun _ _ _ => trivial)
            clear E0 ho1 hb1
            have z0 := (E1.fr.cell hgqP hgqb 0).trans X0.out
            have z1 := (E1.fr.cell hgqP hgqb 1).trans X1.out
            go_wp2_with (fail)
            clear z0 z1
            refine (HPa.out.2 Z1 E1).mono ?_
            rintro e Z2 ⟨V2, vc2, rfl, ho2, hb2⟩
            have E2 := E1.below hb2
            have s1 := s1.keep (Kept.of_below hb2)
            have s2 := (OV.sv ho2).mono (T := fun _ => True) (fun _ _ _ => trivial)
            clear E1 ho2 hb2
            have z0 := (E2.fr.cell hgqP hgqb 0).trans X0.out
            have z1 := (E2.fr.cell hgqP hgqb 1).trans X1.out
            go_wp2_with (fail)
            clear z0 z1
            refine (HCo.out.1 Z2 E2).mono ?_
            rintro e Z3 ⟨V3, vc3, rfl, ho3, hb3⟩
            have E3 := E2.below hb3
            have s1 := s1.keep (Kept.of_below hb3)
            have s2 := s2.keep (Kept.of_below hb3)
            have s3 := (OV.sv ho3).mono (T := fun _ => True) (fun _ _ _ => trivial)
            clear E2 ho3 hb3
            have z0 := (E3.fr.cell hgqP hgqb 0).trans X0.out
            have z1 := (E3.fr.cell hgqP hgqb 1).trans X1.out
            go_wp2_with (fail)
            clear z0 z1
            refine (HCo.out.2 Z3 E3).mono ?_
            rintro e Z4 ⟨V4, vc4, rfl, ho4, hb4⟩
            have E4 := E3.below hb4
            have s1 := s1.keep (Kept.of_below hb4)
            have s2 := s2.keep (Kept.of_below hb4)
            have s3 := s3.keep (Kept.of_below hb4)
            have s4 := (OV.sv ho4).mono (T := fun _ => True) (fun _ _ _ => trivial)
            clear E3 ho4 hb4
            have z0 := (E4.fr.cell hgqP hgqb 0).trans X0.out
            have z1 := (E4.fr.cell hgqP hgqb 1).trans X1.out
            go_wp2_with (fail)
            clear z0 z1
            refine (HSh.out.1 Z4 E4).mono ?_
            rintro e Z5 ⟨V5, vc5, rfl, ho5, hb5⟩
            have E5 := E4.below hb5
            have s1 := s1.keep (Kept.of_below hb5)
            have s2 := s2.keep (Kept.of_below hb5)
            have s3 := s3.keep (Kept.of_below hb5)
            have s4 := s4.keep (Kept.of_below hb5)
            have s5 := (OV.sv ho5).mono (T := fun _ => True) (fun _ _ _ => trivial)
            clear E4 ho5 hb5
            have z0 := (E5.fr.cell hgqP hgqb 0).trans X0.out
            have z1 := (E5.fr.cell hgqP hgqb 1).trans X1.out
            go_wp2_with (fail)
            clear z0 z1
            refine (HSh.out.2 Z5 E5).mono ?_
            rintro e Z6 ⟨V6, vc6, rfl, ho6, hb6⟩
            have E6 := E5.below hb6
            have s1 := s1.keep (Kept.of_below hb6)
            have s2 := s2.keep (Kept.of_below hb6)
            have s3 := s3.keep (Kept.of_below hb6)
            have s4 := s4.keep (Kept.of_below hb6)
            have s5 := s5.keep (Kept.of_below hb6)
            have s6 := (OV.sv ho6).mono (T := fun _ => True) (fun _ _ _ => trivial)
            clear E5 ho6 hb6
            have z0 := (E6.fr.cell hgqP hgqb 0).trans X0.out
            have z1 := (E6.fr.cell hgqP hgqb 1).trans X1.out
            go_wp2_with (fail)
            clear z0 z1
            refine (HFa.out.1 Z6 E6).mono ?_
            rintro e Z7 ⟨V7, vc7, rfl, ho7, hb7⟩
            have E7 := E6.below hb7
            have s1 := s1.keep (Kept.of_below hb7)
            have s2 := s2.keep (Kept.of_below hb7)
            have s3 := s3.keep (Kept.of_below hb7)
            have s4 := s4.keep (Kept.of_below hb7)
            have s5 := s5.keep (Kept.of_below hb7)
            have s6 := s6.keep (Kept.of_below hb7)
            have s7 := (OV.sv ho7).mono (T := fun _ => True) (fun _ _ _ => trivial)
            clear E6 ho7 hb7
            have z0 := (E7.fr.cell hgqP hgqb 0).trans X0.out
            have z1 := (E7.fr.cell hgqP hgqb 1).trans X1.out
            go_wp2_with (fail)
            clear z0 z1
            refine (HFa.out.2 Z7 E7).mono ?_
            rintro e Z8 ⟨V8, vc8, rfl, ho8, hb8⟩
            have E8 := E7.below hb8
            have s1 := s1.keep (Kept.of_below hb8)
            have s2 := s2.keep (Kept.of_below hb8)
            have s3 := s3.keep (Kept.of_below hb8)
            have s4 := s4.keep (Kept.of_below hb8)
            have s5 := s5.keep (Kept.of_below hb8)
            have s6 := s6.keep (Kept.of_below hb8)
            have s7 := s7.keep (Kept.of_below hb8)
            have s8 := (OV.sv ho8).mono (T := fun _ => True) (fun _ _ _ => trivial)
            clear E7 ho8 hb8
            clear HPa HCo HSh HFa
            go_wp2_with (fail)
            refine (ints_b Z8 _ _ V1 V2 vc1 vc2 pp pp s1 s2 (by omega) (by omega)).mono ?_
            rintro e Z9 ⟨rfl, hb9⟩
            rw [show decide (pp = pp) = true from decide_eq_true rfl]
            have E9 := E8.below hb9
            have s3 := s3.keep (Kept.of_below hb9)
            have s4 := s4.keep (Kept.of_below hb9)
            have s5 := s5.keep (Kept.of_below hb9)
            have s6 := s6.keep (Kept.of_below hb9)
            have s7 := s7.keep (Kept.of_below hb9)
            have s8 := s8.keep (Kept.of_below hb9)
            clear E8 hb9 s1 s2 hpp
            go_wp2_with (fail)
            refine (ints_b Z9 _ _ V3 V4 vc3 vc4 cc cc s3 s4 (by omega) (by omega)).mono ?_
            rintro e Z10 ⟨rfl, hb10⟩
            rw [show decide (cc = cc) = true from decide_eq_true rfl]
            have E10 := E9.below hb10
            have s5 := s5.keep (Kept.of_below hb10)
            have s6 := s6.keep (Kept.of_below hb10)
            have s7 := s7.keep (Kept.of_below hb10)
            have s8 := s8.keep (Kept.of_below hb10)
            clear E9 hb10 s3 s4 hcc
            go_wp2_with (fail)
            refine (same_any Z10 _ _ V5 V6 vc5 vc6 zz s5 s6 (by omega)).mono ?_
            rintro e Z11 ⟨rfl, hb11⟩
            have E11 := E10.below hb11
            have s7 := s7.keep (Kept.of_below hb11)
            have s8 := s8.keep (Kept.of_below hb11)
            clear E10 hb11 s5 s6 hzz
            go_wp2_with (fail)
            refine (ints_b Z11 _ _ V7 V8 vc7 vc8 ff ff s7 s8 (by omega) (by omega)).mono ?_
            rintro e Z12 ⟨rfl, hb12⟩
            rw [show decide (ff = ff) = true from decide_eq_true rfl]
            have E12 := E11.below hb12
            clear E11 hb12 s7 s8 hff
            go_wp2_with (fail)
            refine (next_any Z12 wb.heap.size E12.deck 7 (by decide)).mono ?_
            rintro e Z13 ⟨r1, rfl, hq1, hq2, hdx, hgx2, hq3⟩
            have E13 := E12.next hgx2 hdx
            clear hq1 hq2 hq3 hdx hgx2 E12
            go_wp2_with (fail)
            refine (next_any Z13 wb.heap.size E13.deck 8 (by decide)).mono ?_
            rintro e Z14 ⟨r2, rfl, hq1, hq2, hdx, hgx2, hq3⟩
            have E14 := E13.next hgx2 hdx
            clear hq1 hq2 hq3 hdx hgx2 E13
            obtain ⟨WQ, hWQ⟩ : ∃ x, x = Z14.alloc (.cells #[.int .i64 a, .int .i64 b, .int .i64 r1, .int .i64 r2] 41) := ⟨_, rfl⟩
            have hrowQ : WQ.heap[Z14.heap.size]? = some (.cells #[.int .i64 a, .int .i64 b, .int .i64 r1, .int .i64 r2] 41 (0, 0)) := by rw [hWQ]; exact heap_alloc_new Z14 _
            have SQ1 : AS wb WP WQ := by rw [hWQ]; exact E14.below ((Below.refl _ _).alloc (Nat.le_refl _) _)
            have SQ := AS.start SQ1.deck SQ1.bel
            have hgpb : Z14.heap.size ≠ wb.heap.size := by have := E14.deck.lt; omega
            have hgpl : Z14.heap.size < WQ.heap.size := (Array.getElem?_eq_some_iff.1 hrowQ).1
            have HWQ := Lib.hid hWQ
            obtain ⟨gp, hgp⟩ : ∃ x, x = Z14.heap.size := ⟨_, rfl⟩
            rw [← hgp] at hrowQ hgpb hgpl
            have Hgp := Lib.hid hgp
            clear hWQ hgp E14
            go_wp2_with (fail)
            rw [← HWQ.out, ← Hgp.out]
            clear HWQ Hgp
            have Hpq : Hid (∀ j, j < 2 → ∃ p q : Int, WQ.cell? ⟨gp, j * 2, none⟩ = some (.int .i64 p) ∧ WQ.cell? ⟨gp, j * 2 + 1, none⟩ = some (.int .i64 q)) := Lib.hid (by
              intro j hj
              have hj2 : j = 0 ∨ j = 1 := by omega
              rcases hj2 with rfl | rfl
              · exact ⟨a, b, by rw [cell_of_row WQ _ _ _ _ _ hrowQ]; rfl, by rw [cell_of_row WQ _ _ _ _ _ hrowQ]; rfl⟩
              · exact ⟨r1, r2, by rw [cell_of_row WQ _ _ _ _ _ hrowQ]; rfl, by rw [cell_of_row WQ _ _ _ _ _ hrowQ]; rfl⟩)
            clear hrowQ
            go_loopg [186] 2 (fun g i wr => ∃ j : Nat, j + g = 2 ∧ i = .int .i64 j ∧ AS wb WQ wr)
            case atStart => exact ⟨0, rfl, rfl, SQ⟩
            case round =>
              clear SQ
              obtain ⟨j, hj, rfl, S⟩ := hrel
              have Hj := Lib.hid hj
              clear hj
              obtain ⟨gkj, rfl⟩ : ∃ x : Nat, x = gk := ⟨_, rfl⟩
              by_cases hltj : j < 2
              · obtain ⟨p, q, u0, u1⟩ := Hpq.out j hltj
                have z0 := (S.fr.cell hgpl hgpb (j * 2)).trans u0
                have z1 := (S.fr.cell hgpl hgpb (j * 2 + 1)).trans u1
                obtain ⟨Wr2, rfl⟩ : ∃ x, x = wr := ⟨_, rfl⟩
                obtain ⟨WT, hWT⟩ : ∃ x, x = Wr2.alloc (.cells #[.int .i64 p, .int .i64 q] 41) := ⟨_, rfl⟩
                have ST1 : AS wb WQ WT := by rw [hWT]; exact S.below ((Below.refl _ _).alloc (Nat.le_refl _) _)
                have ST := AS.start ST1.deck ST1.bel
                have hrowT : WT.heap[Wr2.heap.size]? = some (.cells #[.int .i64 p, .int .i64 q] 41 (0, 0)) := by rw [hWT]; exact heap_alloc_new Wr2 _
                have hgtb : Wr2.heap.size ≠ wb.heap.size := by have := S.deck.lt; omega
                have hgtl : Wr2.heap.size < WT.heap.size := (Array.getElem?_eq_some_iff.1 hrowT).1
                have t0 : WT.cell? ⟨Wr2.heap.size, 0, none⟩ = some (.int .i64 p) := by rw [cell_of_row WT _ 0 _ _ _ hrowT]; rfl
                have t1 : WT.cell? ⟨Wr2.heap.size, 1, none⟩ = some (.int .i64 q) := by rw [cell_of_row WT _ 1 _ _ _ hrowT]; rfl
                have SPT := SQ1.more ST1
                have y0 := (SPT.fr.cell hgqP hgqb 0).trans X0.out
                have y1 := (SPT.fr.cell hgqP hgqb 1).trans X1.out
                obtain ⟨jb, je, HJo⟩ : ∃ (jb : Bool) (je : Int), Hid ((∀ W, AS wb WP W → Calls Tryd.prog 74 #[.agg #[.slice B1 bn.length b1, .slice B2 be.length b2], .slice Y yl.length yc, .int .i64 p, .int .i64 q] W fun e w' => e = .returned (.tuple #[.bool jb, .int .i64 je]) ∧ Below W.heap.size W w') ∧ ∀ W, AS wb WP W → Calls Tryd.prog 75 #[.agg #[.slice B1 bn.length b1, .slice B2 be.length b2], .slice Y yl.length yc, .int .i64 p, .int .i64 q] W fun e w' => e = .returned (.tuple #[.bool jb, .int .i64 je]) ∧ Below W.heap.size W w') :=
                  ⟨(joinedE bn be yl p q).1, (joinedE bn be yl p q).2, Lib.hid ⟨fun W hW => Joined_any W (h1.below hW.bel) (ht1.below hW.bel) _ B1 B2 b1 b2 bn be (hW.net hnP) (by omega) (by omega) Y yc yl (hW.sv sy) (by omega) p q, fun W hW => refJoined_any W _ B1 B2 b1 b2 bn be (hW.net hnP) (by omega) (by omega) Y yc yl (hW.sv sy) (by omega) p q⟩⟩
                have HWT := Lib.hid hWT
                obtain ⟨gt, hgt⟩ : ∃ x, x = Wr2.heap.size := ⟨_, rfl⟩
                rw [← hgt] at hgtb hgtl t0 t1
                have Hgt := Lib.hid hgt
                clear hrowT hWT hgt S u0 u1
                go_upto_region 25 with (fail)
                rw [← HWT.out, ← Hgt.out]
                clear z0 z1
                go_wp2_with (fail)
                refine (HJo.out.1 WT SPT).mono ?_
                rintro e Y1 ⟨rfl, hbj1⟩
                have T1 := ST.below hbj1
                have ET1 := SPT.below hbj1
                have y0 := (ET1.fr.cell hgqP hgqb 0).trans X0.out
                have y1 := (ET1.fr.cell hgqP hgqb 1).trans X1.out
                have v0 := (T1.fr.cell hgtl hgtb 0).trans t0
                have v1 := (T1.fr.cell hgtl hgtb 1).trans t1
                go_wp2_with (fail)
                clear y0 y1 v0 v1
                refine (HJo.out.2 Y1 ET1).mono ?_
                rintro e Y2 ⟨rfl, hbj2⟩
                have T2 := T1.below hbj2
                have F2 := ST1.more T2
                clear HJo HWT Hgt T1 ET1 SPT hbj1 hbj2 t0 t1 ST T2
                cases jb
                · go_wp2_with (fail)
                  go_roundg (gkj - 1)
                  case measure => have := Hj.out; omega
                  case rel => exact ⟨j + 1, by have := Hj.out; omega, by go_num, F2⟩
                · go_wp2_with (fail)
                  go_roundg (gkj - 1)
                  case measure => have := Hj.out; omega
                  case rel => exact ⟨j + 1, by have := Hj.out; omega, by go_num, F2⟩
              · obtain ⟨Ze, rfl⟩ : ∃ x, x = wr := ⟨_, rfl⟩
                have SE := SQ1.more S
                clear Hj S Hpq
                go_wp2_with (fail)
                go_roundg (gk5 - 1)
                case measure => have := Hi.out; omega
                case rel => exact ⟨i5 + 1, by have := Hi.out; omega, by go_num, SE⟩
          · obtain ⟨Ze, rfl⟩ : ∃ x, x = wr := ⟨_, rfl⟩
            have SE := SPm.more E0
            clear Hi E0 HY
            go_wp2_with (fail)
            go_roundg (gkm - 1)
            case measure => have := Hk.out; omega
            case rel => exact ⟨k + 1, by have := Hk.out; omega, by go_num, SE⟩
    · go_wp2_with (fail)
      refine (Fin1.out wr S.bel).mono ?_
      rintro e w8 ⟨rfl, hb8⟩
      go_wp2_with (fail)
      go_ret
      exact ⟨rfl, hb8⟩
end Go.Proofs.YtgpcojmdfmngeaaDoor

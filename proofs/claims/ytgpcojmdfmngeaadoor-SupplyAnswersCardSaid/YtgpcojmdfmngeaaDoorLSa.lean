/-
  The law SupplyAnswers, walked: the inputs that it takes, up to the round of the loop over states.
-/
import Derived.Test.YtgpcojmdfmngeaaDoorAns
import Derived.Test.YtgpcojmdfmngeaaDoorNar
import Derived.Test.YtgpcojmdfmngeaaDoorMkf
import Derived.Test.YtgpcojmdfmngeaaDoorRo06
import Derived.Test.YtgpcojmdfmngeaaDoorMkU
import Derived.Test.YtgpcojmdfmngeaaDoorGf
import Derived.Test.YtgpcojmdfmngeaaDoorR11c
import Derived.Test.YtgpcojmdfmngeaaDoorR11d
import Derived.Test.YtgpcojmdfmngeaaDoorSwy
import Derived.Test.YtgpcojmdfmngeaaDoorGa
namespace Go.Proofs.YtgpcojmdfmngeaaDoor
open Go.RowKit
set_option maxHeartbeats 400000
set_option maxRecDepth 100000

theorem Fr.kept11 {bd : Nat} {a b : World} (h : Fr a.heap.size bd a b) : Kept (fun g => g ≠ bd) a b := ⟨h.size, fun k hk hl => h.block k hl hk⟩
theorem AS.oldn11 {w WM W : World} {A1 A2 : Option Addr} {ns : List Node} {ds : List Dev} (h : AS w WM W) (hs : NetIn WM (Old w WM) A1 A2 ns ds) : NetIn W (Old w W) A1 A2 ns ds := (hs.keep h.kept).mono (fun _ hl hg => ⟨hg.1, hl⟩)
theorem AS.oldi11 {w WM W : World} {A : Option Addr} {xs : List Int} (h : AS w WM W) (hs : SI WM (Old w WM) A xs) : SI W (Old w W) A xs := (hs.keep h.kept).mono (fun _ hl hg => ⟨hg.1, hl⟩)
theorem sway_all (ns : List Node) (ds : List Dev) (st : List Int) (v : Int) : (swayL ns ds st v).1.length ≤ 33 := by
  by_cases h0 : maskC isPos ns ds st = 0
  · obtain ⟨hc, hl, hp⟩ := maskC_zero h0
    have hp2 : ∀ x ∈ st, x = 1 ∨ x = 2 := fun x hx => by
      have := List.all_eq_true.1 hp x hx
      simp [isPos] at this
      omega
    by_cases h1 : existsB ns.length v = false
    · unfold swayL
      rw [if_neg (not_not_intro h0), if_pos h1]
      simp
    · obtain ⟨k, rfl, hk⟩ := exists_pos (by simpa using h1)
      obtain ⟨l, ok, e, _, _, _, h33⟩ := sway_ok hc hl hp2 hk
      rw [e]
      exact h33
  · unfold swayL
    rw [if_pos h0]
    simp
theorem alone_len (ns : List Node) (ds : List Dev) (st : List Int) : (aloneE ns ds st).1.length ≤ st.length := by
  unfold aloneE
  split
  · simp
  · exact supN_len _ _
theorem lostE_len (ns : List Node) (ds : List Dev) (s t : List Int) : (lostE ns ds s t).1.length ≤ ns.length := by
  unfold lostE
  split
  · simp
  · split
    · simp
    · exact Nat.le_trans (lostL_len _ _) (supL_len ns ds s)
set_option maxHeartbeats 16000000 in
noncomputable def supplyRed (w : World) (h : TabC w) (ht : Tab w) (A : Option Addr) (c : Nat) (xs : List Int) (hs : SI w (fun _ => True) A xs) (Aa : Option Addr) (ca : Nat) (la : List Int) (hsa : SI w (fun _ => True) Aa la)
    (R1 R2 : Option Addr) (d1 d2 : Nat) (rn : List Node) (rd : List Dev) (hr : NetIn w (fun _ => True) R1 R2 rn rd) (hr1 : rn.length ≤ maxLen) (hr2 : rd.length ≤ maxLen) (v : Int) (hf : xs.length ≤ 400) (h100 : la.length ≤ 100) (hli : lightB rn rd = true) :
    { Q : Prop // Hid Q → Calls Tryd.prog 8 #[.slice A xs.length c, .slice Aa la.length ca, .agg #[.slice R1 rn.length d1, .slice R2 rd.length d2], .int .i64 v] w (RetT w) } := by
  apply Subtype.mk
  case property =>
    intro hq
    obtain ⟨w0, hw0⟩ : ∃ x, x = w.alloc (.cells #[.slice R1 rn.length d1, .slice R2 rd.length d2] 26) := ⟨_, rfl⟩
    have hb0 : Below w.heap.size w w0 := by rw [hw0]; exact (Below.refl _ _).alloc (Nat.le_refl _) _
    have hbox0 : w0.heap[w.heap.size]? = some (.cells #[.slice R1 rn.length d1, .slice R2 rd.length d2] 26 (0, 0)) := by rw [hw0]; exact heap_alloc_new w _
    have hgb : w.heap.size < w0.heap.size := (Array.getElem?_eq_some_iff.1 hbox0).1
    have m0 : w0.cell? ⟨w.heap.size, 0, none⟩ = some (.slice R1 rn.length d1) := by rw [cell_of_row w0 _ 0 _ _ _ hbox0]; rfl
    have m1 : w0.cell? ⟨w.heap.size, 1, none⟩ = some (.slice R2 rd.length d2) := by rw [cell_of_row w0 _ 1 _ _ _ hbox0]; rfl
    have h0 := h.below hb0
    have ht0 := ht.below hb0
    have hs0 := hs.keep (Kept.of_below hb0)
    have hsa0 := hsa.keep (Kept.of_below hb0)
    have hr0 := hr.below hb0
    have HW0 := Lib.hid hw0
    have Hbox0 := Lib.hid hbox0
    rw [hw0] at m0 m1
    clear hw0 hbox0
    obtain ⟨gr, hgr⟩ : ∃ x, x = w.heap.size := ⟨_, rfl⟩
    rw [← hgr] at m0 m1 hgb
    have Hgr := Lib.hid hgr
    clear hgr
    have Fin : Hid (∀ W : World, Below w0.heap.size w0 W → Calls Tryd.prog 76 #[] W (fun e w' => e = .returned (.bool true) ∧ Below w.heap.size w w')) := Lib.hid (fun W hb =>
      (awake11 W (h0.below hb) (ht0.below hb)).mono fun e w' he => ⟨he.1, hb0.trans ((hb.mono hb0.size).trans (he.2.mono (by have := hb0.size; have := hb.size; omega)))⟩)
    have hfd : decide ((xs.length : Int) ≤ 400) = true := decide_eq_true (by omega)
    have d100 : decide ((100 : Int) < (la.length : Int)) = false := decide_eq_false (by omega)
    have HLt := Lib.hid (light_any w0 _ R1 R2 d1 d2 rn rd hr0 hr1 hr2)
    have Hlen := Lib.hid (@light_len rn rd)
    rw [hli] at HLt
    obtain ⟨hrn, hrd⟩ := Hlen.out hli
    go_enter Tryd.func8, Tryd.ntmps8
    go_wp2_with (fail)
    rw [← Hgr.out, ← HW0.out]
    refine (few_any w0 A xs.length c).mono ?_
    rw [hfd]
    rintro e w' ⟨rfl, rfl⟩
    have n0 : w0.cell? ⟨gr, 0, none⟩ = some (.slice R1 rn.length d1) := by rw [HW0.out]; exact m0
    have n1 : w0.cell? ⟨gr, 1, none⟩ = some (.slice R2 rd.length d2) := by rw [HW0.out]; exact m1
    clear m0 m1
    go_wp2_with (fail)
    refine HLt.out.mono ?_
    rintro e wb ⟨rfl, hb1⟩
    have hs1 := hs0.keep (Kept.of_below hb1)
    have hsa1 := hsa0.keep (Kept.of_below hb1)
    have hbox1 : wb.heap[gr]? = some (.cells #[.slice R1 rn.length d1, .slice R2 rd.length d2] 26 (0, 0)) := by
      have hq := Hbox0.out
      rw [← Hgr.out] at hq
      exact (hb1.block gr hgb).trans hq
    have h1 := h0.below hb1
    have ht1 := ht0.below hb1
    have hr1' := hr0.below hb1
    have hgb1 : gr < wb.heap.size := by have := hb1.size; omega
    have Fin1 : Hid (∀ W : World, Below wb.heap.size wb W → Calls Tryd.prog 76 #[] W (fun e w' => e = .returned (.bool true) ∧ Below w.heap.size w w')) := Lib.hid (fun W hb => Fin.out W (hb1.trans (hb.mono hb1.size)))
    have Hbox1 := Lib.hid hbox1
    clear n0 n1 hs0 hsa0 h0 ht0 hr0 HLt Fin hb1 hgb hbox1 Hbox0 HW0 hb0 w0
    go_wp2_with (fail)
    refine (new_any wb _ A c xs hs1 hf).mono ?_
    rintro e w2 ⟨rfl, hd2, hb2, hz2⟩
    have Hz2 := Lib.hid hz2
    clear hz2
    go_wp2_with (fail)
    refine (network_any w2 wb.heap.size hd2 6 10 (by decide) (by decide) (by decide) (by decide)).mono ?_
    rintro e w3 ⟨A1, c1, A2, c2, ns, ds, rfl, ho1, ho2, hd3, hg3, hgood⟩
    have L := LS.start hd2 hb2 Hz2.out ho1 ho2 hd3 hg3 hgood
    have hnl : ns.length ≤ 6 := hgood.most
    have hdl : ds.length ≤ 10 := hgood.few
    obtain ⟨W5, hW⟩ : ∃ W, W = w3.alloc (.cells #[.slice A1 ns.length c1, .slice A2 ds.length c2] 26) := ⟨_, rfl⟩
    rw [← hW] at L
    have HW := Lib.hid hW
    clear hd2 hb2 Hz2 ho1 ho2 hd3 hg3 hW
    obtain ⟨gn, hgn⟩ : ∃ x, x = w3.heap.size := ⟨_, rfl⟩
    rw [← hgn] at L
    have Hgn := Lib.hid hgn
    clear hgn
    have n0 := L.n0
    have n1 := L.n1
    have S5 := AS.start L.deck L.bel
    have hgnb : gn ≠ wb.heap.size := by have := L.gne; omega
    have hgnl : gn < W5.heap.size := World.block_lt_of_cell? W5 _ n0
    have LOld := Lib.hid (L.net.mono (T := Old wb W5) (fun g hl hg => ⟨by omega, hl⟩))
    have hms := Lib.hid (masks_few W5 wb.heap.size S5.deck A1 ns.length c1 A2 c2 ds (fun g => g ≠ wb.heap.size) (fun b hb => hb) ((LOld.out.devs).mono (fun g _ hg => hg.1)) (by omega) 5 (by decide))
    clear hs1 L
    go_wp2_with (fail)
    rw [← HW.out, ← Hgn.out]
    refine hms.out.mono ?_
    rintro e W6 ⟨Am, mc, ml, rfl, hml, _, _, ho6, hd6, hf6⟩
    have S6 := S5.frd hf6 hd6
    have sm6 : SI W6 (fun g => g ≠ wb.heap.size) Am ml := (OI.si ho6).mono (fun g _ hg => by have := S5.deck.lt; have hg : W5.heap.size ≤ g := hg; show g ≠ wb.heap.size; omega)
    have n0' := (S6.fr.cell hgnl hgnb 0).trans n0
    have n1' := (S6.fr.cell hgnl hgnb 1).trans n1
    have hbox6 := (S6.bel.block gr hgb1).trans Hbox1.out
    have p0 : W6.cell? ⟨gr, 0, none⟩ = some (.slice R1 rn.length d1) := by rw [cell_of_row W6 _ 0 _ _ _ hbox6]; rfl
    have p1 : W6.cell? ⟨gr, 1, none⟩ = some (.slice R2 rd.length d2) := by rw [cell_of_row W6 _ 1 _ _ _ hbox6]; rfl
    have hml12 : ml.length ≤ 10 := by omega
    have sa6 : SI W6 (fun g => g ≠ wb.heap.size) Aa la := (hsa1.mono (T := fun g => g ≠ wb.heap.size) (fun g hl _ => by show g ≠ wb.heap.size; omega)).keep ⟨S6.bel.size, fun b _ hl => S6.bel.block b hl⟩
    have hn6 := (LOld.out.keep S6.kept).mono (T := Old wb W6) (fun g hl hg => ⟨hg.1, hl⟩)
    have hr6 : NetIn W6 (Old wb W6) R1 R2 rn rd := Old.net hr1' S6.bel
    clear hms HW Hgn hml ho6 hd6 hf6 n0 n1 hbox6 Hbox1 hr1' LOld hsa1 S5 w3 w2
    obtain ⟨WM, hWM⟩ : ∃ x, x = W6.alloc (.cells #[.slice A1 ns.length c1, .slice A2 ds.length c2, .slice R1 rn.length d1, .slice R2 rd.length d2] 26) := ⟨_, rfl⟩
    have hrow : WM.heap[W6.heap.size]? = some (.cells #[.slice A1 ns.length c1, .slice A2 ds.length c2, .slice R1 rn.length d1, .slice R2 rd.length d2] 26 (0, 0)) := by rw [hWM]; exact heap_alloc_new W6 _
    have hbM : Below W6.heap.size W6 WM := by rw [hWM]; exact (Below.refl _ _).alloc (Nat.le_refl _) _
    have S6M := S6.below hbM
    have SM := AS.start S6M.deck S6M.bel
    have S66 := AS.start S6.deck S6.bel
    have S6x := S66.below hbM
    have hnM := S6x.oldn11 hn6
    have hrM := S6x.oldn11 hr6
    have hsz6 := hbM.size
    have HWM := Lib.hid hWM
    obtain ⟨gx, hgx'⟩ : ∃ x, x = W6.heap.size := ⟨_, rfl⟩
    rw [← hgx'] at hrow
    have hgx : gx ≠ wb.heap.size := by have := S6.deck.lt; omega
    have hgxl : gx < WM.heap.size := (Array.getElem?_eq_some_iff.1 hrow).1
    have Hgx := Lib.hid hgx'
    have hx : ∀ k, k < 2 → ∃ (B1 : Option Addr) (b1 : Nat) (bn : List Node) (B2 : Option Addr) (b2 : Nat) (be : List Dev), WM.cell? ⟨gx, k * 2, none⟩ = some (.slice B1 bn.length b1) ∧ WM.cell? ⟨gx, k * 2 + 1, none⟩ = some (.slice B2 be.length b2) ∧ NetIn WM (Old wb WM) B1 B2 bn be ∧ bn.length ≤ 100 ∧ be.length ≤ 200 := by
      intro k hk
      have hk2 : k = 0 ∨ k = 1 := by omega
      rcases hk2 with rfl | rfl
      · exact ⟨A1, c1, ns, A2, c2, ds, by rw [cell_of_row WM _ _ _ _ _ hrow]; rfl, by rw [cell_of_row WM _ _ _ _ _ hrow]; rfl, hnM, by omega, by omega⟩
      · exact ⟨R1, d1, rn, R2, d2, rd, by rw [cell_of_row WM _ _ _ _ _ hrow]; rfl, by rw [cell_of_row WM _ _ _ _ _ hrow]; rfl, hrM, by omega, by omega⟩
    have HX := Lib.hid hx
    have smM : SI WM (Old wb WM) Am ml := (sm6.keep (Kept.of_below hbM)).mono (fun g hl hg => ⟨hg, hl⟩)
    have saM : SI WM (Old wb WM) Aa la := (sa6.keep (Kept.of_below hbM)).mono (fun g hl hg => ⟨hg, hl⟩)
    have M0 := Lib.hid (show WM.cell? ⟨gn, 0, none⟩ = some (.slice A1 ns.length c1) ∧ WM.cell? ⟨gn, 1, none⟩ = some (.slice A2 ds.length c2) from ⟨(S6M.fr.cell hgnl hgnb 0).trans (by rw [← n0', S6.fr.cell hgnl hgnb 0]), (S6M.fr.cell hgnl hgnb 1).trans (by rw [← n1', S6.fr.cell hgnl hgnb 1])⟩)
    have hgnM : gn < WM.heap.size := by have := S6M.size; omega
    clear hx hrow hWM hgx' hbM hn6 hr6 sm6 sa6 S66 S6x S6M hsz6
    go_wp2_with (fail)
    rw [← HWM.out, ← Hgx.out]
    clear HWM Hgx n0' n1' p0 p1 S6
    go_loopg [74] 2 (fun g i wr => ∃ k : Nat, k + g = 2 ∧ i = .int .i64 k ∧ AS wb WM wr)
    case atStart => exact ⟨0, rfl, rfl, SM⟩
    case round =>
      clear SM
      obtain ⟨k, hk, rfl, S⟩ := hrel
      have Hk := Lib.hid hk
      clear hk
      obtain ⟨gkm, rfl⟩ : ∃ x : Nat, x = gk := ⟨_, rfl⟩
      by_cases hlt : k < 2
      · obtain ⟨B1, b1, bn, B2, b2, be, q0, q1, hnk, l1, l2⟩ := HX.out k hlt
        have c0 := (S.fr.cell hgxl hgx (k * 2)).trans q0
        have c1' := (S.fr.cell hgxl hgx (k * 2 + 1)).trans q1
        obtain ⟨Wr, rfl⟩ : ∃ x, x = wr := ⟨_, rfl⟩
        obtain ⟨WN, hWN⟩ : ∃ x, x = Wr.alloc (.cells #[.slice B1 bn.length b1, .slice B2 be.length b2] 26) := ⟨_, rfl⟩
        have SN1 : AS wb WM WN := by rw [hWN]; exact S.below ((Below.refl _ _).alloc (Nat.le_refl _) _)
        have SN := AS.start SN1.deck SN1.bel
        have hrowN : WN.heap[Wr.heap.size]? = some (.cells #[.slice B1 bn.length b1, .slice B2 be.length b2] 26 (0, 0)) := by rw [hWN]; exact heap_alloc_new Wr _
        have hgqb : Wr.heap.size ≠ wb.heap.size := by have := S.deck.lt; omega
        have hgql : Wr.heap.size < WN.heap.size := (Array.getElem?_eq_some_iff.1 hrowN).1
        have hnN := SN1.oldn11 hnk
        have smN := SN1.oldi11 smM
        have saN := SN1.oldi11 saM
        have x0 : WN.cell? ⟨Wr.heap.size, 0, none⟩ = some (.slice B1 bn.length b1) := by rw [cell_of_row WN _ 0 _ _ _ hrowN]; rfl
        have x1 : WN.cell? ⟨Wr.heap.size, 1, none⟩ = some (.slice B2 be.length b2) := by rw [cell_of_row WN _ 1 _ _ _ hrowN]; rfl
        have HWN := Lib.hid hWN
        obtain ⟨gq, hgq⟩ : ∃ x, x = Wr.heap.size := ⟨_, rfl⟩
        rw [← hgq] at hgqb hgql x0 x1
        have Hgq := Lib.hid hgq
        clear q0 q1 hnk hrowN hgq hWN S
        go_upto_region 9 with (fail)
        rw [← HWN.out, ← Hgq.out]
        clear c0 c1'
        have HSt := Lib.hid (state_far WN wb.heap.size SN.deck B1 bn.length b1 B2 b2 be (Old wb WN) (fun b hb => hb.1) hnN.devs (by omega))
        go_wp2_with (fail)
        refine HSt.out.mono ?_
        rintro e WO ⟨Xo, no, lo, rfl, hlo, _, oO, hdO, hfO⟩
        have SO1 := SN.frd hfO hdO
        have SO := AS.start SO1.deck SO1.bel
        have hnO := SO1.oldn11 hnN
        have smO := SO1.oldi11 smN
        have saO := SO1.oldi11 saN
        have soO : SI WO (Old wb WO) Xo lo := (OI.si oO).mono (fun g hl hg => ⟨by have := SN.deck.lt; have hg : WN.heap.size ≤ g := hg; omega, hl⟩)
        have hgqO : gq < WO.heap.size := by have := SO1.size; omega
        have z0 := (SO1.fr.cell hgql hgqb 0).trans x0
        have z1 := (SO1.fr.cell hgql hgqb 1).trans x1
        have SMO := SN1.more SO1
        have hlo2 : lo.length ≤ 200 := by omega
        clear HSt hlo oO hdO hfO x0 x1 SN SN1 SO1 hnN smN saN HWN Hgq
        obtain ⟨hgql, hgql0⟩ : gq < WO.heap.size ∧ True := ⟨hgqO, trivial⟩
        clear hgqO hgql0
        go_upto_region 10 with (fail)
        go_cut [89, 90, 91] (fun v89 v90 v91 wx => v90 = .int .i64 4 ∧ v91 = .int .i64 0 ∧ AS wb WO wx ∧ ∃ (gy : Nat) (X5 : Option Addr) (n5 : Nat) (l5 : List Int) (X8 : Option Addr) (n8 : Nat) (l8 : List Int), v89 = .slice (some ⟨gy, 0, none⟩) 4 4 ∧ gy ≠ wb.heap.size ∧ wx.heap[gy]? = some (.cells #[.slice Aa la.length ca, .slice Am ml.length mc, .slice X5 l5.length n5, .slice X8 l8.length n8] 22 (0, 0)) ∧ l5.length ≤ 200 ∧ l8.length ≤ 200 ∧ SI wx (fun g => g ≠ wb.heap.size) X5 l5 ∧ SI wx (fun g => g ≠ wb.heap.size) X8 l8)
        case first =>
          clear HX saM smM hnM hrM M0 Hk h1 ht1 Fin1
          refine wp_region_ext1 (by kernel_rfl) 11 [81, 82, 83, 84, 85, 86, 87, 88, 89, 90, 91] (fun w' => AS wb WO w') (fun a b => Fr a.heap.size wb.heap.size a b) (fun d vv w' => if d = 81 then vv = .slice Aa la.length ca else if d = 82 then vv = .slice Am ml.length mc else if d = 83 then vv = .pointer (some ⟨wb.heap.size, 0, none⟩) else if d = 84 then vv = .slice Am ml.length mc else if d = 86 then vv = .pointer (some ⟨wb.heap.size, 0, none⟩) else if d = 87 then vv = .agg #[.slice B1 bn.length b1, .slice B2 be.length b2] else if d = 90 then vv = .int .i64 4 else if d = 91 then vv = .int .i64 0 else if d = 85 then ∃ (X : Option Addr) (n : Nat) (l : List Int), vv = .slice X l.length n ∧ l.length ≤ 200 ∧ SI w' (fun g => g ≠ wb.heap.size) X l else if d = 88 then ∃ (X : Option Addr) (n : Nat) (l : List Int), vv = .slice X l.length n ∧ l.length ≤ 200 ∧ SI w' (fun g => g ≠ wb.heap.size) X l else if d = 89 then ∃ (gy : Nat) (X5 : Option Addr) (n5 : Nat) (l5 : List Int) (X8 : Option Addr) (n8 : Nat) (l8 : List Int), vv = .slice (some ⟨gy, 0, none⟩) 4 4 ∧ gy ≠ wb.heap.size ∧ w'.heap[gy]? = some (.cells #[.slice Aa la.length ca, .slice Am ml.length mc, .slice X5 l5.length n5, .slice X8 l8.length n8] 22 (0, 0)) ∧ l5.length ≤ 200 ∧ l8.length ≤ 200 ∧ SI w' (fun g => g ≠ wb.heap.size) X5 l5 ∧ SI w' (fun g => g ≠ wb.heap.size) X8 l8 else False) (by kernel_rfl) (SO.drew) (fun d v a b hC hE hT => by
              have key : (∃ (X : Option Addr) (n : Nat) (l : List Int), v = .slice X l.length n ∧ l.length ≤ 200 ∧ SI a (fun g => g ≠ wb.heap.size) X l) → ∃ (X : Option Addr) (n : Nat) (l : List Int), v = .slice X l.length n ∧ l.length ≤ 200 ∧ SI b (fun g => g ≠ wb.heap.size) X l := fun ⟨X, n, l, e1, e2, e3⟩ => ⟨X, n, l, e1, e2, e3.keep ⟨hE.size, fun k hk hl => hE.block k hl hk⟩⟩
              by_cases h85 : d = 85
              · subst h85; exact key hT
              by_cases h88 : d = 88
              · subst h88; exact key hT
              by_cases h89 : d = 89
              · subst h89
                obtain ⟨gy, X5, n5, l5, X8, n8, l8, e1, e2, e3, p5, p8, q5, q8⟩ := hT
                exact ⟨gy, X5, n5, l5, X8, n8, l8, e1, e2, (hE.block gy (Array.getElem?_eq_some_iff.1 e3).1 e2).trans e3, p5, p8, q5.keep ⟨hE.size, fun k hk hl => hE.block k hl hk⟩, q8.keep ⟨hE.size, fun k hk hl => hE.block k hl hk⟩⟩
              simp only [if_neg h85, if_neg h88, if_neg h89] at hT ⊢
              exact hT) ?_ ?_
          · intro i o d hi ho hd f w1 hC hdep K hK
            have hi' : i = 0 ∨ i = 1 ∨ i = 2 ∨ i = 3 ∨ i = 4 ∨ i = 5 ∨ i = 6 ∨ i = 7 ∨ i = 8 ∨ i = 9 ∨ i = 10 := by omega
            rcases hi' with rfl | rfl | rfl | rfl | rfl | rfl | rfl | rfl | rfl | rfl | rfl
            · simp only [List.getElem?_toArray, List.getElem?_cons_zero, Option.some.injEq] at ho
              subst ho
              simp only [Option.some.injEq] at hd
              subst hd
              generalize hA : fr _ _ _ f = A at hK ⊢
              have e1 : A.tmps[1]?.getD undef = .slice Aa la.length ca := by rw [← hA]; exact fr_out _ _ _ _ 1 _ (by decide) rfl
              clear hA hdep
              go_simp
              exact hK _ _ (Fr.refl _ _ _) hC rfl
            · simp only [List.getElem?_toArray, List.getElem?_cons_zero, List.getElem?_cons_succ, Option.some.injEq] at ho
              subst ho
              simp only [Option.some.injEq] at hd
              subst hd
              generalize hA : fr _ _ _ f = A at hK ⊢
              have e11 : A.tmps[11]?.getD undef = .slice Am ml.length mc := by rw [← hA]; exact fr_out _ _ _ _ 11 _ (by decide) rfl
              clear hA hdep
              go_simp
              exact hK _ _ (Fr.refl _ _ _) hC rfl
            · simp only [List.getElem?_toArray, List.getElem?_cons_zero, List.getElem?_cons_succ, Option.some.injEq] at ho
              subst ho
              simp only [Option.some.injEq] at hd
              subst hd
              generalize hA : fr _ _ _ f = A at hK ⊢
              have e9 : A.tmps[9]?.getD undef = .pointer (some ⟨wb.heap.size, 0, none⟩) := by rw [← hA]; exact fr_out _ _ _ _ 9 _ (by decide) rfl
              clear hA hdep
              go_simp
              exact hK _ _ (Fr.refl _ _ _) hC rfl
            · simp only [List.getElem?_toArray, List.getElem?_cons_zero, List.getElem?_cons_succ, Option.some.injEq] at ho
              subst ho
              simp only [Option.some.injEq] at hd
              subst hd
              generalize hA : fr _ _ _ f = A at hK ⊢
              have e11 : A.tmps[11]?.getD undef = .slice Am ml.length mc := by rw [← hA]; exact fr_out _ _ _ _ 11 _ (by decide) rfl
              clear hA hdep
              go_simp
              exact hK _ _ (Fr.refl _ _ _) hC rfl
            · simp only [List.getElem?_toArray, List.getElem?_cons_zero, List.getElem?_cons_succ, Option.some.injEq] at ho
              subst ho
              simp only [Option.some.injEq] at hd
              subst hd
              have h83 : f 83 = .pointer (some ⟨wb.heap.size, 0, none⟩) := hdep { on := 2, ground := .data } (by simp) rfl 83 rfl
              have h84 : f 84 = .slice Am ml.length mc := hdep { on := 3, ground := .data } (by simp) rfl 84 rfl
              generalize hA : fr _ _ _ f = A at hK ⊢
              have e83 : A.tmps[83]?.getD undef = f 83 := by rw [← hA]; exact fr_in _ _ _ _ 83 (by decide) (by simp)
              have e84 : A.tmps[84]?.getD undef = f 84 := by rw [← hA]; exact fr_in _ _ _ _ 84 (by decide) (by simp)
              clear hA hdep
              rw [h83] at e83
              clear h83
              rw [h84] at e84
              clear h84
              go_simp
              refine (within_any w1 wb.heap.size hC.deck (Old wb WO) (fun b hb => hb.1) Am mc ml (smO.keep hC.kept) (by omega)).mono ?_
              rintro e' w2 ⟨X, n, l, rfl, e1, _, o1, hd2, hf2⟩
              exact hK _ _ hf2 (hC.frd hf2 hd2) ⟨X, n, l, rfl, by omega, (OI.si o1).mono (fun g _ hg => by have := hC.deck.lt; have hg : w1.heap.size ≤ g := hg; show g ≠ wb.heap.size; omega)⟩
            · simp only [List.getElem?_toArray, List.getElem?_cons_zero, List.getElem?_cons_succ, Option.some.injEq] at ho
              subst ho
              simp only [Option.some.injEq] at hd
              subst hd
              generalize hA : fr _ _ _ f = A at hK ⊢
              have e9 : A.tmps[9]?.getD undef = .pointer (some ⟨wb.heap.size, 0, none⟩) := by rw [← hA]; exact fr_out _ _ _ _ 9 _ (by decide) rfl
              clear hA hdep
              go_simp
              exact hK _ _ (Fr.refl _ _ _) hC rfl
            · simp only [List.getElem?_toArray, List.getElem?_cons_zero, List.getElem?_cons_succ, Option.some.injEq] at ho
              subst ho
              simp only [Option.some.injEq] at hd
              subst hd
              generalize hA : fr _ _ _ f = A at hK ⊢
              have e13 : A.tmps[13]?.getD undef = .pointer (some ⟨gq, 0, none⟩) := by rw [← hA]; exact fr_out _ _ _ _ 13 _ (by decide) rfl
              clear hA hdep
              have hcell0 := (hC.fr.cell hgql hgqb 0).trans z0
              have hcell1 := (hC.fr.cell hgql hgqb 1).trans z1
              go_simp
              exact hK _ _ (Fr.refl _ _ _) hC rfl
            · simp only [List.getElem?_toArray, List.getElem?_cons_zero, List.getElem?_cons_succ, Option.some.injEq] at ho
              subst ho
              simp only [Option.some.injEq] at hd
              subst hd
              have h86 : f 86 = .pointer (some ⟨wb.heap.size, 0, none⟩) := hdep { on := 5, ground := .data } (by simp) rfl 86 rfl
              have h87 : f 87 = .agg #[.slice B1 bn.length b1, .slice B2 be.length b2] := hdep { on := 6, ground := .data } (by simp) rfl 87 rfl
              generalize hA : fr _ _ _ f = A at hK ⊢
              have e86 : A.tmps[86]?.getD undef = f 86 := by rw [← hA]; exact fr_in _ _ _ _ 86 (by decide) (by simp)
              have e87 : A.tmps[87]?.getD undef = f 87 := by rw [← hA]; exact fr_in _ _ _ _ 87 (by decide) (by simp)
              clear hA hdep
              rw [h86] at e86
              clear h86
              rw [h87] at e87
              clear h87
              go_simp
              refine (state_far w1 wb.heap.size hC.deck B1 bn.length b1 B2 b2 be (Old wb WO) (fun b hb => hb.1) (hnO.devs.keep hC.kept) (by omega)).mono ?_
              rintro e' w2 ⟨X, n, l, rfl, e1, _, o1, hd2, hf2⟩
              exact hK _ _ hf2 (hC.frd hf2 hd2) ⟨X, n, l, rfl, by omega, (OI.si o1).mono (fun g _ hg => by have := hC.deck.lt; have hg : w1.heap.size ≤ g := hg; show g ≠ wb.heap.size; omega)⟩
            · simp only [List.getElem?_toArray, List.getElem?_cons_zero, List.getElem?_cons_succ, Option.some.injEq] at ho
              subst ho
              simp only [Option.some.injEq] at hd
              subst hd
              have h81 : f 81 = .slice Aa la.length ca := hdep { on := 0, ground := .data } (by simp) rfl 81 rfl
              have h82 : f 82 = .slice Am ml.length mc := hdep { on := 1, ground := .data } (by simp) rfl 82 rfl
              have h85 : ∃ (X : Option Addr) (n : Nat) (l : List Int), f 85 = .slice X l.length n ∧ l.length ≤ 200 ∧ SI w1 (fun g => g ≠ wb.heap.size) X l := hdep { on := 4, ground := .data } (by simp) rfl 85 rfl
              have h88 : ∃ (X : Option Addr) (n : Nat) (l : List Int), f 88 = .slice X l.length n ∧ l.length ≤ 200 ∧ SI w1 (fun g => g ≠ wb.heap.size) X l := hdep { on := 7, ground := .data } (by simp) rfl 88 rfl
              generalize hA : fr _ _ _ f = A at hK ⊢
              have e81 : A.tmps[81]?.getD undef = f 81 := by rw [← hA]; exact fr_in _ _ _ _ 81 (by decide) (by simp)
              have e82 : A.tmps[82]?.getD undef = f 82 := by rw [← hA]; exact fr_in _ _ _ _ 82 (by decide) (by simp)
              have e85 : A.tmps[85]?.getD undef = f 85 := by rw [← hA]; exact fr_in _ _ _ _ 85 (by decide) (by simp)
              have e88 : A.tmps[88]?.getD undef = f 88 := by rw [← hA]; exact fr_in _ _ _ _ 88 (by decide) (by simp)
              clear hA hdep
              rw [h81] at e81
              clear h81
              rw [h82] at e82
              clear h82
              obtain ⟨X5, n5, l5, h85, p5, q5⟩ := h85
              rw [h85] at e85
              have Hf85 := Lib.hid h85
              clear h85
              obtain ⟨X8, n8, l8, h88, p8, q8⟩ := h88
              rw [h88] at e88
              have Hf88 := Lib.hid h88
              clear h88
              go_simp
              have hbz := (Below.refl w1.heap.size w1).alloc (Nat.le_refl _) (.cells #[.slice Aa la.length ca, .slice Am ml.length mc, .slice X5 l5.length n5, .slice X8 l8.length n8] 22)
              exact hK _ _ (Fr.of_below hbz) (hC.below hbz) ⟨w1.heap.size, X5, n5, l5, X8, n8, l8, rfl, by have := hC.deck.lt; omega, heap_alloc_new w1 _, p5, p8, q5.keep (Kept.of_below hbz), q8.keep (Kept.of_below hbz)⟩
            · simp only [List.getElem?_toArray, List.getElem?_cons_zero, List.getElem?_cons_succ, Option.some.injEq] at ho
              subst ho
              simp only [Option.some.injEq] at hd
              subst hd
              have h89 : ∃ (gy : Nat) (X5 : Option Addr) (n5 : Nat) (l5 : List Int) (X8 : Option Addr) (n8 : Nat) (l8 : List Int), f 89 = .slice (some ⟨gy, 0, none⟩) 4 4 ∧ gy ≠ wb.heap.size ∧ w1.heap[gy]? = some (.cells #[.slice Aa la.length ca, .slice Am ml.length mc, .slice X5 l5.length n5, .slice X8 l8.length n8] 22 (0, 0)) ∧ l5.length ≤ 200 ∧ l8.length ≤ 200 ∧ SI w1 (fun g => g ≠ wb.heap.size) X5 l5 ∧ SI w1 (fun g => g ≠ wb.heap.size) X8 l8 := hdep { on := 8, ground := .data } (by simp) rfl 89 rfl
              generalize hA : fr _ _ _ f = A at hK ⊢
              have e89 : A.tmps[89]?.getD undef = f 89 := by rw [← hA]; exact fr_in _ _ _ _ 89 (by decide) (by simp)
              clear hA hdep
              obtain ⟨gy, X5, n5, l5, X8, n8, l8, h89, q0⟩ := h89
              rw [h89] at e89
              have Hf89 := Lib.hid h89
              clear h89
              go_simp
              exact hK _ _ (Fr.refl _ _ _) hC rfl
            · simp only [List.getElem?_toArray, List.getElem?_cons_zero, List.getElem?_cons_succ, Option.some.injEq] at ho
              subst ho
              simp only [Option.some.injEq] at hd
              subst hd
              generalize hA : fr _ _ _ f = A at hK ⊢
              clear hA hdep
              go_simp
              exact hK _ _ (Fr.refl _ _ _) hC rfl
          · intro f w1 hC hall
            have q0 : ∃ (gy : Nat) (X5 : Option Addr) (n5 : Nat) (l5 : List Int) (X8 : Option Addr) (n8 : Nat) (l8 : List Int), f 89 = .slice (some ⟨gy, 0, none⟩) 4 4 ∧ gy ≠ wb.heap.size ∧ w1.heap[gy]? = some (.cells #[.slice Aa la.length ca, .slice Am ml.length mc, .slice X5 l5.length n5, .slice X8 l8.length n8] 22 (0, 0)) ∧ l5.length ≤ 200 ∧ l8.length ≤ 200 ∧ SI w1 (fun g => g ≠ wb.heap.size) X5 l5 ∧ SI w1 (fun g => g ≠ wb.heap.size) X8 l8 := hall 8 89 (by decide) rfl
            have q1 : f 90 = .int .i64 4 := hall 9 90 (by decide) rfl
            have q2 : f 91 = .int .i64 0 := hall 10 91 (by decide) rfl
            have Q0 := Lib.hid q0
            have Q1 := Lib.hid q1
            have Q2 := Lib.hid q2
            clear hall q0 q1 q2
            simp only [fr, upd, List.mapIdx_cons, List.mapIdx_nil]
            simp
            go_wp2_with fail
            go_meet
            case rel => exact ⟨Q1.out, Q2.out, hC, Q0.out⟩
        case rest =>
          obtain ⟨WP, rfl⟩ : ∃ x, x = wc := ⟨_, rfl⟩
          obtain ⟨rfl, rfl, SP1, gy, X5, n5, l5, X8, n8, l8, rfl, hgy, hrowP, p5, p8, q5, q8⟩ := hcut
          have SP := AS.start SP1.deck SP1.bel
          have saP := SP1.oldi11 saO
          have smP := SP1.oldi11 smO
          have soP := SP1.oldi11 soO
          have hnP := SP1.oldn11 hnO
          have hgyl : gy < WP.heap.size := (Array.getElem?_eq_some_iff.1 hrowP).1
          have hgqP : gq < WP.heap.size := by have := SP1.size; omega
          have X0 := Lib.hid ((SP1.fr.cell hgql hgqb 0).trans z0)
          have X1 := Lib.hid ((SP1.fr.cell hgql hgqb 1).trans z1)
          have HY : Hid (∀ i, i < 4 → ∃ (Y : Option Addr) (yc : Nat) (yl : List Int), WP.cell? ⟨gy, i, none⟩ = some (.slice Y yl.length yc) ∧ SI WP (Old wb WP) Y yl ∧ yl.length ≤ 200) := Lib.hid (by
            intro i hi
            have hi4 : i = 0 ∨ i = 1 ∨ i = 2 ∨ i = 3 := by omega
            rcases hi4 with rfl | rfl | rfl | rfl
            · exact ⟨Aa, ca, la, by rw [cell_of_row WP _ _ _ _ _ hrowP]; rfl, saP, by omega⟩
            · exact ⟨Am, mc, ml, by rw [cell_of_row WP _ _ _ _ _ hrowP]; rfl, smP, by omega⟩
            · exact ⟨X5, n5, l5, by rw [cell_of_row WP _ _ _ _ _ hrowP]; rfl, q5.mono (fun g hl hg => ⟨hg, hl⟩), by omega⟩
            · exact ⟨X8, n8, l8, by rw [cell_of_row WP _ _ _ _ _ hrowP]; rfl, q8.mono (fun g hl hg => ⟨hg, hl⟩), by omega⟩)
          have SPm := SMO.more SP1
          clear hrowP p5 p8 q5 q8 saP smP saO smO soO hnO z0 z1 hgql SO SMO SP1
          go_wp2_with (fail)
          go_loopg [91] 4 (fun g i wr => ∃ i5 : Nat, i5 + g = 4 ∧ i = .int .i64 i5 ∧ AS wb WP wr)
          case atStart => exact ⟨0, rfl, rfl, SP⟩
          case round =>
            clear SP
            obtain ⟨i5, hi, rfl, E0⟩ := hrel
            have Hi := Lib.hid hi
            clear hi
            obtain ⟨gk5, rfl⟩ : ∃ x : Nat, x = gk := ⟨_, rfl⟩
            by_cases hlt5 : i5 < 4
            · obtain ⟨Y, yc, yl, q1, sy, hyl⟩ := HY.out i5 hlt5
              have q2 := (E0.fr.cell hgyl hgy i5).trans q1
              obtain ⟨Z0, rfl⟩ : ∃ x, x = wr := ⟨_, rfl⟩
              rename_i zp1 zp2 zd3 zp4 zd5 zd6 zd7 zd8 zd9 zd10 zd11 zd12 zd13 zd14 zd15 zd16 zd17 zd18 zd19 zd20 zd21 zd22 zd23 zd24 zd25 zd26 zd27 zd28 zd29 zd30 zd31 zd32 zd33 zd34 zd35 zd36 zd37 zd38 zd39 zd40 zd41 zd42 zd43 zd44 zd45 zd46 zd47 zd48 zd49 zd50 zd51 zd52 zd53 zd54 zd55 zd56 zd57 zd58 zd59 zd60 zd61 zd62 zd63 zd64 zd65 zd66 zd67 zd68 zd69 zd70 zd71 zd72 zd73 zd74 zd75 zd76 zd77 zd78 zd79 zd80 zd81 zd82 zd83 zd84 zd85 zd86 zd87 zd88 zd89 zd90 zd91 zd92 zd93 zd94 zd95 zd96 zd97 zd98 zd99 zd100 zd101 zd102 zd103 zd104 zd105 zd106 zd107 zd108 zd109 zd110 zd111 zd112 zd113 zd114 zd115 zd116 zd117 zd118 zd119 zd120 zd121 zd122 zd123 zd124 zd125 zd126 zd127 zd128 zd129 zd130 zd131 zd132 zd133 zd134 zd135 zd136 zd137 zd138 zd139 zd140 zd141 zd142 zd143 zd144 zd145 zd146 zd147 zd148 zd149 zd150 zd151 zd152 zd153 zd154 zd155 zd156 zd157 zd158 zd159 zd160 zd161 zd162 zd163 zd164 zd165 zd166 zd167 zd168 zd169 zd170 zd171 zd172 zd173 zd174 zd175 zd176 zd177 zd178 zd179 zd180 zd181 zd182 zd183 zd184 zd185 zd186 zd187 zd188 zd189 zd190 zd191 zd192 zd193 zd194 zd195 zd196 zd197 zd198 zd199 zd200 zd201 zd202 zd203 zd204 zd205 zd206 zd207 zd208 zd209 zd210 zd211 zd212 zd213 zd214 zd215 zd216 zd217 zd218 zd219 zd220 zd221 zd222 zd223 zd224 zd225 zd226 zd227 zd228 zd229 zd230 zd231 zd232 zp233 zp234 zp235 zd236 zp237 zp238 zd239 zd240 zd241 zd242 zd243 zd244 zd245 zd246 zd247 zd248 zd249 zd250 zd251 zd252 zd253 zd254 zd255 zd256 zd257 zd258 zd259 zd260 zd261 zd262 zd263 zd264 zd265 zd266 zd267 zd268 zd269 zd270 zd271 zd272 zd273 zd274 zd275 zd276 zd277 zd278 zd279 zd280 zd281 zd282 zd283 zd284 zd285 zd286 zd287 zd288 zd289 zd290 zd291 zd292 zd293 zd294 zd295 zd296 zd297 zd298 zd299 zd300 zd301 zd302 zd303 zd304 zd305 zd306 zd307 zd308 zd309 zd310 zd311 zd312 zd313 zd314 zd315 zd316 zd317 zd318 zd319 zd320 zd321 zd322 zd323 zd324 zd325 zd326 zd327 zd328 zd329 zd330 zd331 zd332 zd333 zd334 zd335 zd336 zd337 zd338 zd339 zd340 zd341 zd342 zd343 zd344 zd345 zd346 zd347 zd348 zd349 zd350 zd351 zd352 zd353 zd354 zd355 zd356 zd357 zd358 zd359 zd360 zd361 zd362 zd363 zd364 zd365 zd366 zd367 zd368 zd369 zd370 zd371 zd372 zd373 zd374 zd375 zd376 zd377 zd378 zd379 zd380 zd381 zd382 zd383 zd384 zd385 zd386 zd387 zd388 zd389 zd390 zd391 zd392 zd393 zd394 zd395 zd396 zd397 zd398 zd399 zd400 zd401 zd402 zd403 zd404 zd405 zd406 zd407 zd408 zd409 zd410 zd411 zd412 zd413 zp414 zp415
              revert gr wb A1 c1 A2 c2 ns ds W5 gn W6 Am mc ml WM gx zd3 zd5 u13 u14 zd6 zd7 zd8 zd9 zd10 zd11 zd12 zd13 zd14 zd15 zd16 zd17 zd18 zd19 zd20 zd21 zd22 zd23 zd24 zd25 zd26 zd27 zd28 zd29 zd30 zd31 zd32 zd33 zd34 zd35 zd36 zd37 zd38 zd39 zd40 zd41 zd42 zd43 zd44 zd45 zd46 zd47 zd48 zd49 zd50 u89 u90 u91 zd51 zd52 zd53 zd54 zd55 zd56 zd57 zd58 zd59 zd60 zd61 zd62 zd63 zd64 zd65 zd66 zd67 zd68 zd69 zd70 zd71 zd72 zd73 zd74 zd75 zd76 zd77 zd78 zd79 zd80 zd81 zd82 zd83 zd84 zd85 zd86 zd87 zd88 zd89 zd90 zd91 zd92 zd93 zd94 zd95 zd96 zd97 zd98 zd99 zd100 zd101 zd102 zd103 zd104 zd105 zd106 zd107 zd108 zd109 zd110 zd111 zd112 zd113 zd114 zd115 zd116 zd117 zd118 zd119 zd120 zd121 zd122 zd123 zd124 zd125 zd126 zd127 zd128 zd129 zd130 zd131 zd132 zd133 zd134 zd135 zd136 zd137 zd138 zd139 zd140 zd141 zd142 zd143 zd144 zd145 zd146 zd147 zd148 zd149 zd150 zd151 zd152 zd153 zd154 zd155 zd156 zd157 zd158 zd159 zd160 zd161 zd162 zd163 zd164 zd165 zd166 zd167 zd168 zd169 zd170 zd171 zd172 zd173 zd174 zd175 zd176 zd177 zd178 zd179 zd180 zd181 zd182 zd183 zd184 zd185 zd186 zd187 zd188 zd189 zd190 zd191 zd192 zd193 zd194 zd195 zd196 zd197 zd198 zd199 zd200 zd201 zd202 zd203 zd204 zd205 zd206 zd207 zd208 zd209 zd210 zd211 zd212 zd213 zd214 zd215 zd216 zd217 zd218 zd219 zd220 zd221 zd222 zd223 zd224 zd225 zd226 zd227 zd228 zd229 zd230 zd231 zd232 k gkm B1 b1 bn B2 b2 be Wr WN gq zd236 WO Xo no lo u75 u76 u77 u78 u79 u80 u81 u82 u83 u84 u85 u86 u87 u88 zd239 zd240 zd241 zd242 zd243 zd244 zd245 zd246 zd247 zd248 zd249 zd250 zd251 zd252 zd253 zd254 zd255 zd256 zd257 zd258 zd259 zd260 zd261 zd262 zd263 zd264 zd265 zd266 zd267 zd268 zd269 zd270 zd271 zd272 zd273 zd274 zd275 zd276 zd277 zd278 zd279 zd280 zd281 zd282 zd283 zd284 zd285 zd286 zd287 zd288 zd289 zd290 zd291 zd292 zd293 zd294 zd295 zd296 zd297 zd298 zd299 zd300 zd301 zd302 zd303 zd304 zd305 zd306 zd307 zd308 zd309 zd310 zd311 zd312 zd313 zd314 zd315 zd316 zd317 zd318 zd319 zd320 zd321 zd322 zd323 zd324 zd325 zd326 zd327 zd328 zd329 zd330 zd331 zd332 zd333 zd334 zd335 zd336 zd337 zd338 zd339 zd340 zd341 zd342 zd343 zd344 zd345 zd346 zd347 zd348 zd349 zd350 zd351 zd352 zd353 zd354 zd355 zd356 zd357 zd358 zd359 zd360 zd361 zd362 zd363 zd364 zd365 zd366 zd367 zd368 zd369 zd370 zd371 zd372 zd373 zd374 zd375 zd376 zd377 zd378 zd379 zd380 zd381 zd382 zd383 zd384 zd385 zd386 zd387 zd388 zd389 zd390 zd391 zd392 zd393 zd394 zd395 zd396 zd397 zd398 zd399 zd400 zd401 zd402 zd403 zd404 zd405 zd406 zd407 zd408 zd409 zd410 zd411 u271 WP gy X5 n5 l5 X8 n8 l8 u8 u16 u17 u18 u19 u20 u21 u22 u23 u24 u25 u26 u27 u28 u29 u30 u31 u32 u34 u35 u36 u37 u38 u39 u40 u42 u43 u44 u45 u46 u47 u48 u92 u93 u94 u95 u96 u97 u98 u99 u100 u101 u102 u103 u104 u105 u106 u107 u108 u109 u110 u111 u112 u113 u114 u115 u116 u117 u118 u119 u120 u121 u122 u123 u124 u125 u126 u127 u128 u129 u130 u131 u132 u133 u134 u135 u136 u137 u138 u139 u140 u141 u142 u143 u144 u145 u146 u147 u148 u149 u150 u151 u152 u153 u154 u155 u156 u157 u158 u159 u160 u161 u162 u163 u164 u165 u166 u167 u168 u169 u170 u171 u172 u173 u174 u175 u176 u177 u178 u179 u180 u181 u182 u183 u184 u185 u186 u187 u188 u189 u190 u191 u192 u193 u194 u195 u196 u197 u198 u199 u200 u201 u202 u203 u204 u205 u206 u207 u208 u209 u210 u211 u212 u213 u214 u215 u216 u217 u218 u219 u220 u221 u222 u223 u224 u225 u226 u227 u228 u229 u230 u231 u232 u233 u234 u235 u236 u237 u238 u239 u240 u241 u242 u243 u244 u245 u246 u247 u248 u249 u250 u251 u252 u253 u254 u255 u256 u257 u258 u259 u260 u261 u262 u263 u264 u265 u266 u267 u268 u269 u270 zd412 zd413 i5 gk5 Y yc yl Z0
              exact hq.out
            · obtain ⟨Ze, rfl⟩ : ∃ x, x = wr := ⟨_, rfl⟩
              have SE := SPm.more E0
              clear Hi E0 HY
              go_wp2_with (fail)
              go_roundg (gkm - 1)
              case measure => have := Hk.out; omega
              case rel => exact ⟨k + 1, by have := Hk.out; omega, by go_num, SE⟩
      · go_wp2_with (fail)
        refine (Fin1.out wr S.bel).mono ?_
        rintro e w8 ⟨rfl, hb8⟩
        go_wp2_with (fail)
        go_ret
        exact ⟨rfl, hb8⟩
end Go.Proofs.YtgpcojmdfmngeaaDoor

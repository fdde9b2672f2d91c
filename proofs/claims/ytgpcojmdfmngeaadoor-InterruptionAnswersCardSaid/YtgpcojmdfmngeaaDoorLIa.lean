/-
  The law InterruptionAnswers, walked: the inputs that it takes, up to the loop over networks.
-/
import Derived.Test.YtgpcojmdfmngeaaDoorAns
import Derived.Test.YtgpcojmdfmngeaaDoorNar
import Derived.Test.YtgpcojmdfmngeaaDoorMkf
import Derived.Test.YtgpcojmdfmngeaaDoorR22b
import Derived.Test.YtgpcojmdfmngeaaDoorR22c
import Derived.Test.YtgpcojmdfmngeaaDoorR22d
import Derived.Test.YtgpcojmdfmngeaaDoorRout
import Derived.Test.YtgpcojmdfmngeaaDoorGa
import Derived.Deep.CutBlock
namespace Go.Proofs.YtgpcojmdfmngeaaDoor
open Go.RowKit
set_option maxHeartbeats 400000
set_option maxRecDepth 100000

theorem AS.belowM22 {w WM W W' : World} (h : AS w WM W) (hM : w.heap.size < WM.heap.size) (hb : Below WM.heap.size W W') : AS w WM W' :=
  ⟨h.deck.belowB hb hM, h.fr.trans ⟨hb.os, hb.tape, hb.output, hb.size, fun k hk _ => hb.block k hk⟩, h.bel.trans (hb.mono (Nat.le_of_lt hM))⟩
theorem AS.oldn22 {w WM W : World} {A1 A2 : Option Addr} {ns : List Node} {ds : List Dev} (h : AS w WM W) (hs : NetIn WM (Old w WM) A1 A2 ns ds) : NetIn W (Old w W) A1 A2 ns ds := (hs.keep h.kept).mono (fun _ hl hg => ⟨hg.1, hl⟩)
theorem AS.oldv22 {w WM W : World} {A : Option Addr} {vs : List Value} (h : AS w WM W) (hs : SV WM (Old w WM) A vs) : SV W (Old w W) A vs := (hs.keep h.kept).mono (fun _ hl hg => ⟨hg.1, hl⟩)
theorem AS.oldi22 {w WM W : World} {A : Option Addr} {vs : List Int} (h : AS w WM W) (hs : SI WM (Old w WM) A vs) : SI W (Old w W) A vs := (hs.keep h.kept).mono (fun _ hl hg => ⟨hg.1, hl⟩)
theorem chg_next22 {w w' : World} {B bd c : Nat} {A : Option Addr} {xs : List Chg} (h : OC w (fun g => B ≤ g) A c xs) (hg : w.grownBy w' (some bd)) (hB : bd < B) : OC w' (fun g => B ≤ g) A c xs :=
  OV.keep h (Kept.grown hg (fun b hb _ e => by injection e with e; have hb : B ≤ b := hb; omega))
theorem chg_set22 {w : World} {S : Nat → Prop} {g off c : Nat} {xs : List Chg} (h : OC w S (some ⟨g, off, none⟩) c xs) {k : Nat} (hk : k < xs.length) {j : Nat} (hj : j < 3) (u : Value) (y : Chg) (hy : chgV y = (chgV xs[k]).set j u) :
    OC (w.setCell ⟨g, off + k * 3 + j, none⟩ u) S (some ⟨g, off, none⟩) c (xs.set k y) := OV.recSet h chgV_len hk hj u y hy
theorem mem_set22 {xs : List Chg} {k : Nat} {y : Chg} (h : ∀ x ∈ xs, x.t ≤ 9223372036854775807) (hy : y.t ≤ 9223372036854775807) : ∀ x ∈ xs.set k y, x.t ≤ 9223372036854775807 := fun x hx => by
  rcases List.mem_or_eq_of_mem_set hx with h1 | h1
  · exact h x h1
  · rw [h1]; exact hy
theorem outE_len22 (ns : List Node) (ds : List Dev) (st : List Int) (xs : List Chg) (til : Int) (hxl : xs.length ≤ 1000) : (outagesE ns ds st xs til).1.length ≤ 33066 := by
  unfold outagesE
  by_cases h0 : checkE ns ds st xs til = 0
  · rw [if_neg (not_not_intro h0)]
    obtain ⟨hmask, ht1, ht2, _, hcz⟩ := checkE_zero h0
    obtain ⟨z1, z2, z3⟩ := maskC_zero hmask
    obtain ⟨ha, hmo⟩ := chgE_asc hcz
    obtain ⟨tn, rfl⟩ := Int.eq_ofNat_of_zero_le (show 0 ≤ til by omega)
    exact outsR_few ns ds st xs tn ha (fun x hx => by have := hmo x hx; omega) (by omega) ns.length (by have := (checkL_zero z1).few; omega) hxl
  · rw [if_pos h0]
    simp
theorem atE_len22 (ns : List Node) (ds : List Dev) (st : List Int) (xs : List Chg) (time : Int) : (atE ns ds st xs time).1.length ≤ st.length := by
  unfold atE
  split
  · simp
  · split
    · simp
    · exact Nat.le_of_eq (putC_len time xs st)
set_option maxHeartbeats 16000000 in
noncomputable def interRed (w : World) (h : TabC w) (ht : Tab w) (A : Option Addr) (c : Nat) (xs : List Int) (hs : SI w (fun _ => True) A xs) (Aa : Option Addr) (ca : Nat) (la : List Int) (hsa : SI w (fun _ => True) Aa la)
    (R1 R2 : Option Addr) (d1 d2 : Nat) (rn : List Node) (rd : List Dev) (hr : NetIn w (fun _ => True) R1 R2 rn rd) (hr1 : rn.length ≤ maxLen) (hr2 : rd.length ≤ maxLen) (Ac : Option Addr) (cc : Nat) (chs : List Chg) (hsc : SV w (fun _ => True) Ac (recV chgV chs)) (_hwc : ∀ x ∈ chs, x.t ≤ 9223372036854775807) (Ao : Option Addr) (co : Nat) (ous : List Out) (hso : SV w (fun _ => True) Ao (recV outV ous)) (til time lim : Int) (hf : xs.length ≤ 400) (h100 : la.length ≤ 100) (hli : lightB rn rd = true) (hc60 : chs.length ≤ 60) (ho60 : ous.length ≤ 60) :
    { Q : Prop // Hid Q → Calls Tryd.prog 7 #[.slice A xs.length c, .slice Aa la.length ca, .agg #[.slice R1 rn.length d1, .slice R2 rd.length d2], .slice Ac chs.length cc, .slice Ao ous.length co, .int .i64 til, .int .i64 time, .int .i64 lim] w (RetT w) } := by
  apply Subtype.mk
  case property =>
    intro hq
    obtain ⟨w0, hw0⟩ : ∃ x, x = w.alloc (.cells #[.slice R1 rn.length d1, .slice R2 rd.length d2] 26) := ⟨_, rfl⟩
    have hb0 : Below w.heap.size w w0 := by rw [hw0]; exact (Below.refl _ _).alloc (Nat.le_refl _) _
    have hbox0 : w0.heap[w.heap.size]? = some (.cells #[.slice R1 rn.length d1, .slice R2 rd.length d2] 26 (0, 0)) := by rw [hw0]; exact heap_alloc_new w _
    have hgb : w.heap.size < w0.heap.size := (Array.getElem?_eq_some_iff.1 hbox0).1
    have m0 : w0.cell? ⟨w.heap.size, 0, none⟩ = some (.slice R1 rn.length d1) := by rw [cell_of_row w0 _ 0 _ _ _ hbox0]; rfl
    have m1 : w0.cell? ⟨w.heap.size, 1, none⟩ = some (.slice R2 rd.length d2) := by rw [cell_of_row w0 _ 1 _ _ _ hbox0]; rfl
    have h0 := h.below hb0
    have ht0 := ht.below hb0
    have hs0 := hs.keep (Kept.of_below hb0)
    have hsa0 := hsa.keep (Kept.of_below hb0)
    have hr0 := hr.below hb0
    have hsc0 := hsc.keep (Kept.of_below hb0)
    have hso0 := hso.keep (Kept.of_below hb0)
    have HW0 := Lib.hid hw0
    have Hbox0 := Lib.hid hbox0
    rw [hw0] at m0 m1
    clear hw0 hbox0
    obtain ⟨gr, hgr⟩ : ∃ x, x = w.heap.size := ⟨_, rfl⟩
    rw [← hgr] at m0 m1 hgb
    have Hgr := Lib.hid hgr
    clear hgr
    have Fin : Hid (∀ W : World, Below w0.heap.size w0 W → Calls Tryd.prog 81 #[] W (fun e w' => e = .returned (.bool true) ∧ Below w.heap.size w w')) := Lib.hid (fun W hb =>
      (awake22 W (h0.below hb) (ht0.below hb)).mono fun e w' he => ⟨he.1, hb0.trans ((hb.mono hb0.size).trans (he.2.mono (by have := hb0.size; have := hb.size; omega)))⟩)
    have hfd : decide ((xs.length : Int) ≤ 400) = true := decide_eq_true (by omega)
    have d100 : decide ((100 : Int) < (la.length : Int)) = false := decide_eq_false (by omega)
    have d60 : decide ((60 : Int) < (chs.length : Int)) = false := decide_eq_false (by omega)
    have d61 : decide ((60 : Int) < (ous.length : Int)) = false := decide_eq_false (by omega)
    have HLt := Lib.hid (light_any w0 _ R1 R2 d1 d2 rn rd hr0 hr1 hr2)
    have Hlen := Lib.hid (@light_len rn rd)
    rw [hli] at HLt
    obtain ⟨hrn, hrd⟩ := Hlen.out hli
    go_enter Tryd.func7, Tryd.ntmps7
    go_wp2_with (fail)
    rw [← Hgr.out, ← HW0.out]
    refine (few_any w0 A xs.length c).mono ?_
    rw [hfd]
    rintro e w' ⟨rfl, rfl⟩
    have n0 : w0.cell? ⟨gr, 0, none⟩ = some (.slice R1 rn.length d1) := by rw [HW0.out]; exact m0
    have n1 : w0.cell? ⟨gr, 1, none⟩ = some (.slice R2 rd.length d2) := by rw [HW0.out]; exact m1
    clear m0 m1
    go_wp2_with (fail)
    refine HLt.out.mono ?_
    rintro e wb ⟨rfl, hb1⟩
    have hs1 := hs0.keep (Kept.of_below hb1)
    have hsa1 := hsa0.keep (Kept.of_below hb1)
    have hsc1 := hsc0.keep (Kept.of_below hb1)
    have hso1 := hso0.keep (Kept.of_below hb1)
    have hbox1 : wb.heap[gr]? = some (.cells #[.slice R1 rn.length d1, .slice R2 rd.length d2] 26 (0, 0)) := by
      have hq := Hbox0.out
      rw [← Hgr.out] at hq
      exact (hb1.block gr hgb).trans hq
    have h1 := h0.below hb1
    have ht1 := ht0.below hb1
    have hr1' := hr0.below hb1
    have hgb1 : gr < wb.heap.size := by have := hb1.size; omega
    have Fin1 : Hid (∀ W : World, Below wb.heap.size wb W → Calls Tryd.prog 81 #[] W (fun e w' => e = .returned (.bool true) ∧ Below w.heap.size w w')) := Lib.hid (fun W hb => Fin.out W (hb1.trans (hb.mono hb1.size)))
    have Hbox1 := Lib.hid hbox1
    clear n0 n1 hs0 hsa0 hsc0 hso0 h0 ht0 hr0 HLt Fin hb1 hgb hbox1 Hbox0 HW0 hb0 w0
    go_wp2_with (fail)
    refine (new_any wb _ A c xs hs1 hf).mono ?_
    rintro e w2 ⟨rfl, hd2, hb2, hz2⟩
    have Hz2 := Lib.hid hz2
    clear hz2
    go_wp2_with (fail)
    refine (network_any w2 wb.heap.size hd2 5 8 (by decide) (by decide) (by decide) (by decide)).mono ?_
    rintro e w3 ⟨A1, c1, A2, c2, ns, ds, rfl, ho1, ho2, hd3, hg3, hgood⟩
    have L := LS.start hd2 hb2 Hz2.out ho1 ho2 hd3 hg3 hgood
    have hnl : ns.length ≤ 5 := hgood.most
    have hdl : ds.length ≤ 8 := hgood.few
    have hdl1 : 1 ≤ ds.length := hgood.one
    obtain ⟨W5, hW⟩ : ∃ W, W = w3.alloc (.cells #[.slice A1 ns.length c1, .slice A2 ds.length c2] 26) := ⟨_, rfl⟩
    rw [← hW] at L
    have HW := Lib.hid hW
    clear hd2 hb2 Hz2 ho1 ho2 hd3 hg3 hW
    obtain ⟨gn, hgn⟩ : ∃ x, x = w3.heap.size := ⟨_, rfl⟩
    rw [← hgn] at L
    have Hgn := Lib.hid hgn
    clear hgn
    have n0 := L.n0
    have n1 := L.n1
    have S5 := AS.start L.deck L.bel
    have hgnb : gn ≠ wb.heap.size := by have := L.gne; omega
    have hgnl : gn < W5.heap.size := World.block_lt_of_cell? W5 _ n0
    have LOld := Lib.hid (L.net.mono (T := Old wb W5) (fun g hl hg => ⟨by omega, hl⟩))
    have hms := Lib.hid (state_far W5 wb.heap.size S5.deck A1 ns.length c1 A2 c2 ds (fun g => g ≠ wb.heap.size) (fun b hb => hb) ((LOld.out.devs).mono (fun g _ hg => hg.1)) (by omega))
    clear hs1 L
    go_wp2_with (fail)
    rw [← HW.out, ← Hgn.out]
    refine hms.out.mono ?_
    rintro e W6 ⟨As, sc, sl, rfl, hsl, _, ho6, hd6, hf6⟩
    have Hsl := Lib.hid hsl
    clear hsl
    have S6 := S5.frd hf6 hd6
    have n0' := (S6.fr.cell hgnl hgnb 0).trans n0
    have n1' := (S6.fr.cell hgnl hgnb 1).trans n1
    have hmc := Lib.hid (mkChanges_any W6 wb.heap.size S6.deck A1 ns.length c1 A2 c2 ds.length hdl1 (by omega) 8 (by decide))
    clear hms HW Hgn hd6 hf6 n0 n1
    go_wp2_with (fail)
    refine hmc.out.mono ?_
    rintro e W8 ⟨Ag, gc, gl, rfl, hgl, hokg, ho8, hd8, hf8⟩
    have S68 := (AS.start S6.deck S6.bel).frd hf8 hd8
    have S8 := S6.frd hf8 hd8
    have sl6 : SI W6 (Old wb W6) As sl := (OI.si ho6).mono (fun g hl hg => ⟨by have := S5.deck.lt; have hg : W5.heap.size ≤ g := hg; omega, hl⟩)
    have slO := S68.oldi22 sl6
    clear sl6
    have glO : SV W8 (Old wb W8) Ag (recV chgV gl) := (OV.sv ho8).mono (fun g hl hg => ⟨by have := S6.deck.lt; have hg : W6.heap.size ≤ g := hg; omega, hl⟩)
    have n0 := (S68.fr.cell (by have := S6.size; omega) hgnb 0).trans n0'
    have n1 := (S68.fr.cell (by have := S6.size; omega) hgnb 1).trans n1'
    have nO : NetIn W8 (Old wb W8) A1 A2 ns ds := (LOld.out.keep S8.kept).mono (fun g hl hg => ⟨hg.1, hl⟩)
    have hgn8 : gn < W8.heap.size := by have := S8.size; omega
    have hwg : ∀ x ∈ gl, x.t ≤ 9223372036854775807 := fun x hx => by have := (hokg.1 x hx).2.1; omega
    have HWg := Lib.hid hwg
    have b8 := S8.bel
    have d8 := S8.deck
    clear hmc ho6 S6 n0' n1' LOld S5 hokg hwg hf8 hd8 S68 S8
    have S8 := AS.start d8 b8
    have hdk8 : wb.heap.size < W8.heap.size := d8.lt
    clear d8 b8
    have glT := glO.mono (T := fun _ => True) (fun _ _ _ => trivial)
    go_upto_region 8 with (at_builtin; go_must (refine wpList_copyRec chgV_len (by decide) chgV_one 82 86 _ 24 Tryd.underlying82 chgInfo rfl (by decide) rfl (.const (.slice none 0 0)) (.tmp 91) rfl (ys := gl) rfl rfl rfl glT (by omega) ?_); intro A9 c9 W9 ho9 hb9)
    have S9 : AS wb W8 W9 := S8.below hb9
    have hz9 := hb9.size
    have H9 := Lib.hid ho9
    clear hb9 ho9 glT
    go_upto_if 95 with (fail)
    go_cut [] (fun wx => ∃ bl : List Chg, bl.length = gl.length ∧ (∀ x ∈ bl, x.t ≤ 9223372036854775807) ∧ OC wx (fun g => W8.heap.size ≤ g) A9 c9 bl ∧ AS wb W8 wx)
    case first =>
      by_cases hz : 0 < gl.length
      · have hzd : decide ((0 : Int) < gl.length) = true := decide_eq_true (by omega)
        have hzd2 : decide (0 < gl.length) = true := decide_eq_true hz
        have hnz : ¬ gl = [] := by intro e; rw [e] at hz; simp at hz
        go_wp2_with (fail)
        refine (next_any W9 wb.heap.size S9.deck gl.length (by omega)).mono ?_
        rintro e Wa ⟨ri, rfl, hri, _, hdx, hgx, _⟩
        have hri := hri (by omega)
        have hria : ri < gl.length := by omega
        have Sa := S9.next hgx hdx
        have oa := chg_next22 H9.out hgx hdk8
        clear hdx hgx hri
        go_wp2_with (fail)
        refine (next_any Wa wb.heap.size Sa.deck 3 (by decide)).mono ?_
        rintro e Wb ⟨rk, rfl, hrk, _, hdx, hgx, _⟩
        have hrk := hrk (by decide)
        have Sb := Sa.next hgx hdx
        have ob := chg_next22 oa hgx hdk8
        clear hdx hgx
        have H3 : Hid (rk = 0) ∨ Hid (rk = 1) ∨ Hid (rk = 2) := by
          have h9 : rk = 0 ∨ rk = 1 ∨ rk = 2 := by omega
          rcases h9 with h | h | h <;> simp only [Lib.hid h, true_or, or_true]
        clear hrk
        rcases H3 with hk | hk | hk
        · have b0 : ((rk : Int) == 0) = true := by rw [hk.out]; decide
          go_wp2_with (fail)
          refine (next_any Wb wb.heap.size Sb.deck 12 (by decide)).mono ?_
          rintro e Wd ⟨rv, rfl, hrv, _, hdx, hgx, _⟩
          have hrv := hrv (by decide)
          have Sd := Sb.next hgx hdx
          have od := chg_next22 ob hgx hdk8
          obtain ⟨g9, o9, rfl, hg9, hgl9, hcl⟩ := OV.rec od chgV_len hria (by decide)
          obtain ⟨f1, f2⟩ := hcl 0 _ rfl
          clear hdx hgx hcl
          have hwv : IntKind.i64.wrap ((rv : Int) - 1) = (rv : Int) - 1 := IntWalk.i64_in _ (by omega)
          simp only [Nat.add_zero] at f1 f2
          have os := chg_set22 od hria (j := 0) (by decide) (.int .i64 ((rv : Int) - 1)) ⟨(rv : Int) - 1, gl[ri].dev, gl[ri].pos⟩ rfl
          have Ss : AS wb W8 _ := Sd.belowM22 hdk8 ((Below.refl W8.heap.size Wd).setCell (p := ⟨g9, o9 + ri * 3 + 0, none⟩) hg9 (.int .i64 ((rv : Int) - 1)))
          go_wp2_with (fail)
          go_meet
          case rel => exact ⟨gl.set ri ⟨(rv : Int) - 1, gl[ri].dev, gl[ri].pos⟩, by simp, mem_set22 HWg.out (by show (rv : Int) - 1 ≤ _; omega), os, Ss⟩
        · have b0 : ((rk : Int) == 0) = false := by rw [hk.out]; decide
          have b1 : ((rk : Int) == 1) = true := by rw [hk.out]; decide
          go_wp2_with (fail)
          refine (next_any Wb wb.heap.size Sb.deck 10 (by decide)).mono ?_
          rintro e Wd ⟨rv, rfl, hrv, _, hdx, hgx, _⟩
          have hrv := hrv (by decide)
          have Sd := Sb.next hgx hdx
          have od := chg_next22 ob hgx hdk8
          obtain ⟨g9, o9, rfl, hg9, hgl9, hcl⟩ := OV.rec od chgV_len hria (by decide)
          obtain ⟨f1, f2⟩ := hcl 1 _ rfl
          clear hdx hgx hcl
          have hwv : IntKind.i64.wrap ((rv : Int) - 1) = (rv : Int) - 1 := IntWalk.i64_in _ (by omega)
          have os := chg_set22 od hria (j := 1) (by decide) (.int .i64 ((rv : Int) - 1)) ⟨gl[ri].t, (rv : Int) - 1, gl[ri].pos⟩ rfl
          have Ss : AS wb W8 _ := Sd.belowM22 hdk8 ((Below.refl W8.heap.size Wd).setCell (p := ⟨g9, o9 + ri * 3 + 1, none⟩) hg9 (.int .i64 ((rv : Int) - 1)))
          go_wp2_with (fail)
          go_meet
          case rel => exact ⟨gl.set ri ⟨gl[ri].t, (rv : Int) - 1, gl[ri].pos⟩, by simp, mem_set22 HWg.out (by show gl[ri].t ≤ _; exact HWg.out _ (List.getElem_mem hria)), os, Ss⟩
        · have b0 : ((rk : Int) == 0) = false := by rw [hk.out]; decide
          have b1 : ((rk : Int) == 1) = false := by rw [hk.out]; decide
          go_wp2_with (fail)
          refine (next_any Wb wb.heap.size Sb.deck 4 (by decide)).mono ?_
          rintro e Wd ⟨rv, rfl, hrv, _, hdx, hgx, _⟩
          have hrv := hrv (by decide)
          have Sd := Sb.next hgx hdx
          have od := chg_next22 ob hgx hdk8
          obtain ⟨g9, o9, rfl, hg9, hgl9, hcl⟩ := OV.rec od chgV_len hria (by decide)
          obtain ⟨f1, f2⟩ := hcl 2 _ rfl
          clear hdx hgx hcl
          have os := chg_set22 od hria (j := 2) (by decide) (.int .i64 ((rv : Int))) ⟨gl[ri].t, gl[ri].dev, (rv : Int)⟩ rfl
          have Ss : AS wb W8 _ := Sd.belowM22 hdk8 ((Below.refl W8.heap.size Wd).setCell (p := ⟨g9, o9 + ri * 3 + 2, none⟩) hg9 (.int .i64 ((rv : Int))))
          go_wp2_with (fail)
          go_meet
          case rel => exact ⟨gl.set ri ⟨gl[ri].t, gl[ri].dev, (rv : Int)⟩, by simp, mem_set22 HWg.out (by show gl[ri].t ≤ _; exact HWg.out _ (List.getElem_mem hria)), os, Ss⟩
      · have hzn : gl = [] := List.eq_nil_of_length_eq_zero (by omega)
        have hzd : decide ((0 : Int) < gl.length) = false := decide_eq_false (by omega)
        have hzd2 : decide (0 < gl.length) = false := decide_eq_false hz
        have rl : ∃ bl : List Chg, bl.length = gl.length ∧ (∀ x ∈ bl, x.t ≤ 9223372036854775807) ∧ OC W9 (fun g => W8.heap.size ≤ g) A9 c9 bl ∧ AS wb W8 W9 := ⟨gl, rfl, HWg.out, H9.out, S9⟩
        have Rl := Lib.hid rl
        clear rl
        go_wp2_with (fail)
        go_meet
        case rel => exact Rl.out
    case rest =>
      obtain ⟨bl, hbl, hwb, obl, Sx⟩ := hcut
      have Hbl := Lib.hid hbl
      have HWb := Lib.hid hwb
      clear hbl hwb H9 S9 hz9
      obtain ⟨Wx, rfl⟩ : ∃ x, x = wc := ⟨_, rfl⟩
      have hbl8 : bl.length ≤ 8 := by have := Hbl.out; omega
      have hsl8 : sl.length ≤ 8 := by have := Hsl.out; omega
      have hbox6 := (Sx.bel.block gr hgb1).trans Hbox1.out
      have p0 : Wx.cell? ⟨gr, 0, none⟩ = some (.slice R1 rn.length d1) := by rw [cell_of_row Wx _ 0 _ _ _ hbox6]; rfl
      have p1 : Wx.cell? ⟨gr, 1, none⟩ = some (.slice R2 rd.length d2) := by rw [cell_of_row Wx _ 1 _ _ _ hbox6]; rfl
      have n0x := (Sx.fr.cell hgn8 hgnb 0).trans n0
      have n1x := (Sx.fr.cell hgn8 hgnb 1).trans n1
      have slX := Sx.oldi22 slO
      have glX := Sx.oldv22 glO
      have blX : SV Wx (Old wb Wx) A9 (recV chgV bl) := (OV.sv obl).mono (fun g hl hg => ⟨by have hg : W8.heap.size ≤ g := hg; omega, hl⟩)
      have nX := Sx.oldn22 nO
      have rX : NetIn Wx (Old wb Wx) R1 R2 rn rd := Old.net hr1' Sx.bel
      have laX : SI Wx (Old wb Wx) Aa la := Old.sv hsa1 Sx.bel
      have chX : SV Wx (Old wb Wx) Ac (recV chgV chs) := Old.sv hsc1 Sx.bel
      have ouX : SV Wx (Old wb Wx) Ao (recV outV ous) := Old.sv hso1 Sx.bel
      obtain ⟨WM, hWM⟩ : ∃ x, x = Wx.alloc (.cells #[.slice A1 ns.length c1, .slice A2 ds.length c2, .slice R1 rn.length d1, .slice R2 rd.length d2] 26) := ⟨_, rfl⟩
      have hrow : WM.heap[Wx.heap.size]? = some (.cells #[.slice A1 ns.length c1, .slice A2 ds.length c2, .slice R1 rn.length d1, .slice R2 rd.length d2] 26 (0, 0)) := by rw [hWM]; exact heap_alloc_new Wx _
      have hbM : Below Wx.heap.size Wx WM := by rw [hWM]; exact (Below.refl _ _).alloc (Nat.le_refl _) _
      have SxM := (AS.start Sx.deck Sx.bel).below hbM
      have SM := AS.start SxM.deck SxM.bel
      have slM := SxM.oldi22 slX
      have glM := SxM.oldv22 glX
      have blM := SxM.oldv22 blX
      have nM := SxM.oldn22 nX
      have rM := SxM.oldn22 rX
      have laM := SxM.oldi22 laX
      have chM := SxM.oldv22 chX
      have ouM := SxM.oldv22 ouX
      have HWM := Lib.hid hWM
      have hgx' : Wx.heap.size ≠ wb.heap.size := by have := Sx.deck.lt; omega
      have hgnM : gn < WM.heap.size := by have := Sx.size; have := hbM.size; omega
      have M0 := Lib.hid (show WM.cell? ⟨gn, 0, none⟩ = some (.slice A1 ns.length c1) ∧ WM.cell? ⟨gn, 1, none⟩ = some (.slice A2 ds.length c2) from ⟨(hbM.cell (p := ⟨gn, 0, none⟩) (by have := Sx.size; show gn < Wx.heap.size; omega)).trans n0x, (hbM.cell (p := ⟨gn, 1, none⟩) (by have := Sx.size; show gn < Wx.heap.size; omega)).trans n1x⟩)
      obtain ⟨gx, hgx⟩ : ∃ x, x = Wx.heap.size := ⟨_, rfl⟩
      rw [← hgx] at hrow hgx'
      have hgxl : gx < WM.heap.size := (Array.getElem?_eq_some_iff.1 hrow).1
      have Hgx := Lib.hid hgx
      have HX := Lib.hid (show ∀ k, k < 2 → ∃ (B1 : Option Addr) (b1 : Nat) (bn : List Node) (B2 : Option Addr) (b2 : Nat) (be : List Dev), WM.cell? ⟨gx, k * 2, none⟩ = some (.slice B1 bn.length b1) ∧ WM.cell? ⟨gx, k * 2 + 1, none⟩ = some (.slice B2 be.length b2) ∧ NetIn WM (Old wb WM) B1 B2 bn be ∧ bn.length ≤ 100 ∧ be.length ≤ 200 from by
        intro k hk
        have hk2 : k = 0 ∨ k = 1 := by omega
        rcases hk2 with rfl | rfl
        · exact ⟨A1, c1, ns, A2, c2, ds, by rw [cell_of_row WM _ _ _ _ _ hrow]; rfl, by rw [cell_of_row WM _ _ _ _ _ hrow]; rfl, nM, by omega, by omega⟩
        · exact ⟨R1, d1, rn, R2, d2, rd, by rw [cell_of_row WM _ _ _ _ _ hrow]; rfl, by rw [cell_of_row WM _ _ _ _ _ hrow]; rfl, rM, by omega, by omega⟩)
      clear n0 n1 slO glO nO obl slX glX blX nX rX laX chX ouX hrow hWM hbM SxM hgx hbox6 hsa1 hsc1 hso1 hr1' Hbox1
      go_wp2_with (fail)
      rw [← HWM.out, ← Hgx.out]
      clear HWM Hgx n0x n1x p0 p1 Sx
      rename_i ap1 ad2 ap3
      revert gr wb w2 w3 A1 c1 A2 c2 ns ds W5 gn W6 As sc sl W8 Ag gc gl A9 c9 W9 u22 u57 u58 u59 u60 u61 u62 u63 u64 u65 u66 u67 u68 u69 u70 u71 u72 u73 u74 u75 u76 u77 u78 u79 u80 u81 u82 u83 u84 u85 u86 u87 u88 u89 u90 u91 u92 u93 u94 u95 u96 u97 u98 u99 u100 u101 u102 u103 u104 u105 u106 u107 u108 u109 u110 u111 u112 u113 u114 u115 u116 u117 u118 u119 u120 u121 u122 u123 u124 u125 u126 u127 u131 u132 u133 u134 u135 u139 u140 u141 u142 u143 u144 u148 u149 u150 u151 u152 u153 u154 u158 u159 u160 u161 u162 u163 u164 u165 u166 u167 u168 u169 u170 u171 u172 u173 u174 u175 u176 u177 u178 u179 u180 u181 u182 u183 u184 u185 u186 u187 u188 u189 u190 u191 u192 u193 u194 u195 u196 u197 u198 u199 u200 u201 u202 u203 u207 u208 u209 u210 u211 u212 u213 u214 u215 u216 u217 u218 u219 u220 u221 u222 u223 u224 u225 u226 u227 u228 u229 u230 u231 u232 u233 u234 u235 u236 u237 u238 u239 u240 u241 u242 u243 u244 u245 u246 u247 u251 u252 u253 u254 u255 u256 u257 u258 u259 u260 u261 u262 u263 u264 u265 u266 u267 u268 u269 u270 u271 u272 u273 u274 u275 u276 u277 u278 u279 u280 u281 u282 u283 u284 u285 u286 u287 u288 u289 u290 u291 u292 u293 u294 u295 u296 u297 u298 u299 u300 u301 u302 u303 u304 u305 u306 u307 u308 u309 u310 u311 u312 u313 u314 u315 bl Wx WM gx ad2
      exact hq.out

end Go.Proofs.YtgpcojmdfmngeaaDoor

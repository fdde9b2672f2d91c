/-
  The law InterruptionSame, walked.
-/
import Derived.Test.YthegcofmnpkhmaaDoorL22p
import Derived.BigQuiet
namespace Go.Proofs.YthegcofmnpkhmaaDoor
open Go.RowKit
set_option maxHeartbeats 400000
set_option maxRecDepth 100000

set_option maxHeartbeats 2000000 in
theorem outSame_true (w : World) (S T : Nat → Prop) (A B : Option Addr) (n c d : Nat) (xs : List Out) (hn : n = xs.length) (hs : SV w S A (recV outV xs)) (ht : SV w T B (recV outV xs)) (hl : xs.length ≤ 65536) :
    Calls Tryd.prog 87 #[.slice A n c, .slice B n d] w fun e w' => e = .returned (.bool true) ∧ ∃ nq, w' = w.drewN nq := by
  subst hn
  go_enter Tryd.func87, Tryd.ntmps87
  go_wp2_with (fail)
  go_loopg [5] xs.length (fun g i wr => ∃ k : Nat, k + g = xs.length ∧ i = .int .i64 k ∧ ∃ nq, wr = w.drewN nq)
  case atStart => exact ⟨0, by omega, rfl, 0, rfl⟩
  case round =>
    obtain ⟨k, hk, rfl, q, rfl⟩ := hrel
    have Hk := Lib.hid hk
    clear hk
    by_cases hlt : k < xs.length
    · obtain ⟨b1, o1, rfl, _, _, h1⟩ := hs.rec outV_len (by decide) hlt
      obtain ⟨b2, o2, rfl, _, _, h2⟩ := ht.rec outV_len (by decide) hlt
      generalize xs[k] = x at *
      obtain ⟨m, u, e, f⟩ := x
      have p0 : (w.drewN q).cell? ⟨b1, o1 + k * 4, none⟩ = some (.int .i64 m) := h1 0 _ rfl
      have p1 : (w.drewN q).cell? ⟨b1, o1 + k * 4 + 1, none⟩ = some (.int .i64 u) := h1 1 _ rfl
      have p2 : (w.drewN q).cell? ⟨b1, o1 + k * 4 + 2, none⟩ = some (.int .i64 e) := h1 2 _ rfl
      have p3 : (w.drewN q).cell? ⟨b1, o1 + k * 4 + 3, none⟩ = some (.int .i64 f) := h1 3 _ rfl
      have q0 : (w.drewN q).cell? ⟨b2, o2 + k * 4, none⟩ = some (.int .i64 m) := h2 0 _ rfl
      have q1 : (w.drewN q).cell? ⟨b2, o2 + k * 4 + 1, none⟩ = some (.int .i64 u) := h2 1 _ rfl
      have q2 : (w.drewN q).cell? ⟨b2, o2 + k * 4 + 2, none⟩ = some (.int .i64 e) := h2 2 _ rfl
      have q3 : (w.drewN q).cell? ⟨b2, o2 + k * 4 + 3, none⟩ = some (.int .i64 f) := h2 3 _ rfl
      clear h1 h2
      obtain ⟨W, hW⟩ : ∃ W, W = w.drewN q := ⟨_, rfl⟩
      rw [← hW] at p0 p1 p2 p3 q0 q1 q2 q3 ⊢
      have HW := Lib.hid hW
      clear hW
      go_wp2_with (fail)
      go_quiet (fail)
      go_wp2_with (fail)
      go_roundg (gk - 1)
      case measure => have := Hk.out; omega
      case rel => exact ⟨k + 1, by have := Hk.out; omega, by go_num, q + nq, by rw [HW.out]; exact World.drewN_drewN _ _ _⟩
    · go_wp2_with (fail)
      go_ret
      exact ⟨rfl, q, rfl⟩

theorem chg_cellsB (w : World) (b : Nat) (hb : b = w.heap.size) (x : Chg) : ∀ j u, (chgV x)[j]? = some u → (w.alloc (.cells (chgV x).toArray 91)).cell? ⟨b, j, none⟩ = some u := by subst hb; exact chg_cells w x

/-- What the list with more changes is, behind j changes. -/
structure MoreC (n : Nat) (st : List Int) (zs : List Chg) (j : Nat) (ms : List Chg) : Prop where
  len : ms.length ≤ 2 * j
  ok : OkC n 20 ms
  tm : ∀ y ∈ ms, ∃ x ∈ zs.take j, y.t = x.t
  put : ∀ s, putC s st ms = putC s st (zs.take j)
theorem MoreC.nil (n : Nat) (st : List Int) (zs : List Chg) : MoreC n st zs 0 [] := ⟨by simp, ⟨by simp, List.Pairwise.nil⟩, by simp, fun s => rfl⟩
theorem MoreC.le {n : Nat} {st : List Int} {zs : List Chg} {j : Nat} {ms : List Chg} (h : MoreC n st zs j ms) (hp : zs.Pairwise (fun a b => a.t ≤ b.t)) (hj : j < zs.length) : ∀ y ∈ ms, y.t ≤ zs[j].t := by
  intro y hy
  obtain ⟨x, hx, e⟩ := h.tm y hy
  obtain ⟨i, hi, rfl⟩ := List.getElem_of_mem hx
  rw [List.length_take] at hi
  rw [List.getElem_take] at e
  have := List.pairwise_iff_getElem.1 hp i j (by omega) hj (by omega)
  omega
theorem MoreC.keep {n : Nat} {st : List Int} {zs : List Chg} {j : Nat} {ms : List Chg} (h : MoreC n st zs j ms) (hz : OkC n 20 zs) (hj : j < zs.length) : MoreC n st zs (j + 1) (ms ++ [zs[j]]) := by
  have hle := h.le hz.2 hj
  refine ⟨by have := h.len; simp; omega, h.ok.snoc _ (Int.le_refl _) hle (hz.1 _ (List.getElem_mem hj)), fun y hy => ?_, fun s => ?_⟩
  · rcases List.mem_append.1 hy with hy | hy
    · obtain ⟨x, hx, e⟩ := h.tm y hy
      exact ⟨x, by rw [List.take_succ_eq_append_getElem hj]; exact List.mem_append_left _ hx, e⟩
    · simp at hy
      exact ⟨zs[j], by rw [List.take_succ_eq_append_getElem hj]; exact List.mem_append_right _ (List.mem_singleton.2 rfl), by rw [hy]⟩
  · rw [putC_app, h.put, ← putC_app, List.take_succ_eq_append_getElem hj]
theorem MoreC.twice {n : Nat} {st : List Int} {zs : List Chg} {j : Nat} {ms : List Chg} (h : MoreC n st zs j ms) (hz : OkC n 20 zs) (hj : j < zs.length) : MoreC n st zs (j + 1) ((ms ++ [⟨zs[j].t, zs[j].dev, 3 - zs[j].pos⟩]) ++ [zs[j]]) := by
  have hle := h.le hz.2 hj
  have hm := hz.1 _ (List.getElem_mem hj)
  have h1 : OkC n 20 (ms ++ [⟨zs[j].t, zs[j].dev, 3 - zs[j].pos⟩]) := h.ok.snoc _ (Int.le_refl _) hle ⟨hm.1, hm.2.1, hm.2.2.1, hm.2.2.2.1, by show 3 - zs[j].pos = 1 ∨ 3 - zs[j].pos = 2; omega⟩
  refine ⟨by have := h.len; simp; omega, h1.snoc _ (Int.le_refl _) (fun y hy => ?_) hm, fun y hy => ?_, fun s => ?_⟩
  · rcases List.mem_append.1 hy with hy | hy
    · exact hle y hy
    · simp at hy
      rw [hy]; exact Int.le_refl _
  · rw [List.append_assoc] at hy
    rcases List.mem_append.1 hy with hy | hy
    · obtain ⟨x, hx, e⟩ := h.tm y hy
      exact ⟨x, by rw [List.take_succ_eq_append_getElem hj]; exact List.mem_append_left _ hx, e⟩
    · refine ⟨zs[j], by rw [List.take_succ_eq_append_getElem hj]; exact List.mem_append_right _ (List.mem_singleton.2 rfl), ?_⟩
      simp at hy
      rcases hy with hy | hy <;> rw [hy]
  · rw [List.append_assoc, putC_app s ms, h.put, List.take_succ_eq_append_getElem hj, putC_app s (zs.take j)]
    exact putC_twice s _ zs[j] _

set_option maxHeartbeats 8000000 in
theorem interruptionSame_row (w : World) (h : TabC w) (ht : Tab w) (A : Option Addr) (c : Nat) (xs : List Int) (hs : SI w (fun _ => True) A xs) :
    Calls Tryd.prog 7 #[.slice A xs.length c] w (RetT w) := by
  by_cases hf : xs.length ≤ 400
  · have hfd : decide ((xs.length : Int) ≤ 400) = true := decide_eq_true (by omega)
    go_enter Tryd.func7, Tryd.ntmps7
    go_wp2_with (fail)
    refine (few_any w A xs.length c).mono ?_
    rw [hfd]
    rintro e w' ⟨rfl, rfl⟩
    go_wp2_with (fail)
    refine (new_any w _ A c xs hs hf).mono ?_
    rintro e w1 ⟨rfl, hd1, hb1, hz1⟩
    have Hz1 := Lib.hid hz1
    clear hz1
    go_wp2_with (fail)
    refine (network_any w1 w.heap.size hd1 5 8 (by decide) (by decide) (by decide) (by decide)).mono ?_
    rintro e w2 ⟨A1, c1, A2, c2, ns, ds, rfl, ho1, ho2, hd2, hg2, hgood⟩
    have L := LS.start hd1 hb1 Hz1.out ho1 ho2 hd2 hg2 hgood
    have hc0 := good_check hgood (by decide) (by decide)
    have Hc0 := Lib.hid hc0
    have hnl : ns.length ≤ 5 := hgood.most
    have hdl : ds.length ≤ 8 := hgood.few
    have hd1' : 1 ≤ ds.length := hgood.one
    obtain ⟨W, hW⟩ : ∃ W, W = w2.alloc (.cells #[.slice A1 ns.length c1, .slice A2 ds.length c2] 26) := ⟨_, rfl⟩
    rw [← hW] at L
    have HW := Lib.hid hW
    have n0 := L.n0
    have n1 := L.n1
    rw [hW] at n0 n1
    clear hd1 hb1 Hz1 ho1 ho2 hd2 hg2 hc0 hW hgood
    go_wp2_with (fail)
    rw [← HW.out]
    refine (state_any W w.heap.size L.deck A1 ns.length c1 A2 c2 ds _ (fun b hb => by have := hb.1; omega) L.net.devs (by omega)).mono ?_
    rintro e w3 ⟨As, cs, st, rfl, hstl, hst, ho3, hd3, hf3⟩
    have L3 := L.state hf3 hd3
    have hWs := hf3.size
    have hM := L.top
    have Hstl := Lib.hid hstl
    have Hst := Lib.hid hst
    have sS : SI w3 (fun g => w2.heap.size < g) As st := (OI.si ho3).mono (fun g hl hg => by have hg : W.heap.size ≤ g := hg; show w2.heap.size < g; omega)
    clear n0 n1 L hf3 hd3 hstl hst HW ho3
    obtain ⟨gn, hgn⟩ : ∃ x, x = w2.heap.size := ⟨_, rfl⟩
    rw [← hgn] at L3 sS hM ⊢
    clear hgn hM hWs W w2 w1
    have hC3 : LT w w3 (gn + 1) gn A1 c1 ns A2 c2 ds As st := ⟨L3, sS⟩
    clear L3 sS
    have n0 := hC3.1.n0
    have n1 := hC3.1.n1
    go_wp2_with (fail)
    refine (mkChanges_any w3 w.heap.size hC3.1.deck A1 ns.length c1 A2 c2 ds.length hd1' (by omega) 7 (by decide)).mono ?_
    rintro e w4 ⟨Ac, cc, zs, rfl, hzl, hzo, hoz, hd4, hf4⟩
    have hC4 := hC3.fr hf4 hd4
    have hz34 := hf4.size
    have sZ : SV w4 (fun g => gn < g) Ac (recV chgV zs) := (OV.sv hoz).mono (fun g _ hg => by have := hC3.1.gnm; have := hC3.1.top; have hg : w3.heap.size ≤ g := hg; show gn < g; omega)
    have Hzo := Lib.hid (show OkC ds.length 20 zs from hzo)
    clear n0 n1 hC3 hf4 hd4 hoz hzo
    have m0 := hC4.1.n0
    have m1 := hC4.1.n1
    have HO := Outages_any w4 (h.below hC4.1.bel) (ht.below hC4.1.bel) (fun _ => True) A1 A2 c1 c2 ns ds (hC4.1.net.mono (fun _ _ _ => trivial)) (by omega) (by omega) As cs st (hC4.2.mono (fun _ _ _ => trivial)) (by have := Hstl.out; omega) _ Ac cc zs sZ (by omega) 40
    rw [good_outages Hc0.out Hstl.out Hst.out Hzo.out (by decide) (by decide) (by decide) (by omega)] at HO
    have HO := Lib.hid HO
    go_wp2_with (fail)
    refine HO.out.mono ?_
    rintro e w5 ⟨Ao, co, rfl, hoo, hb5⟩
    have hC5 := hC4.bl hb5
    have sZ := sZ.keep (Kept.of_below hb5)
    have sO := (OV.sv hoo).mono (T := fun g => gn < g) (fun g _ hg => by have := hC4.1.gnm; have := hC4.1.top; have hg : w4.heap.size ≤ g := hg; show gn < g; omega)
    have hol : (outL ns (supF ns ds st zs) 40).length ≤ 300 := by have := outL_few ns (supF ns ds st zs) 40; omega
    have Hmore := Lib.hid (MoreC.nil ds.length st zs)
    clear HO hoo hb5 hC4 m0 m1 hz34
    obtain ⟨l, hl⟩ : ∃ l, l = outL ns (supF ns ds st zs) 40 := ⟨_, rfl⟩
    have Hl := Lib.hid hl
    simp only [show (40 : Int).toNat = 40 from rfl] at *
    rw [← hl] at sO hol ⊢
    clear hl
    have hz0 := hC5.1.top
    have hbd0 := hC5.1.gne
    obtain ⟨z5, hz5⟩ : ∃ x, x = w5.heap.size := ⟨_, rfl⟩
    have hz5' : z5 ≤ w5.heap.size := by omega
    have hgz5 : w.heap.size < z5 := by omega
    have hgn5 : gn + 1 ≤ z5 := by omega
    have Ff := Lib.hid (Fr.refl z5 w.heap.size w5)
    have sZ := sZ.mono (T := fun g => gn < g ∧ g < z5) (fun g hl hg => ⟨hg, by omega⟩)
    have sO := sO.mono (T := fun g => gn < g ∧ g < z5) (fun g hl hg => ⟨hg, by omega⟩)
    have sS := hC5.2.mono (T := fun g => gn < g ∧ g < z5) (fun g hl hg => ⟨hg, by omega⟩)
    have hdk := hC5.1.deck
    have hLS := hC5.1
    rw [hz5] at Ff
    rw [← hz5] at Ff
    clear hz5
    go_wp2_with (fail)
    go_loopg [9, 41] zs.length (fun g v i wr => ∃ (j : Nat) (A5 : Option Addr) (c5 : Nat) (ms : List Chg), j + g = zs.length ∧ i = .int .i64 j ∧ v = .slice A5 ms.length c5 ∧ MoreC ds.length st zs j ms ∧ OC wr (fun g => z5 ≤ g) A5 c5 ms ∧ Deck wr w.heap.size ∧ Fr z5 w.heap.size w5 wr ∧ z5 ≤ wr.heap.size)
    case atStart => exact ⟨0, none, 0, [], by omega, rfl, rfl, Hmore.out, OV.nil _ _ _ _, hdk, Ff.out, hz5'⟩
    case round =>
      clear hdk
      obtain ⟨j, A5, c5, ms, hj, rfl, rfl, hmo, o5, hdk, hF, hzr⟩ := hrel
      have Hj := Lib.hid hj
      have hml := hmo.len
      have Hmo := Lib.hid hmo
      clear hj hmo
      have kZ : Kept (fun g => gn < g ∧ g < z5) w5 wr := ⟨hF.size, fun g hg _ => hF.block g hg.2 (by have := hg.1; omega)⟩
      by_cases hlt : j < zs.length
      · obtain ⟨b, off, rfl, _, _, hc⟩ := (sZ.keep kZ).rec chgV_len (by decide) hlt
        have q0 := hc 0 _ rfl
        have q1 := hc 1 _ rfl
        have q2 := hc 2 _ rfl
        simp only [Nat.add_zero] at q0
        have Hk1 := Lib.hid (Hmo.out.keep Hzo.out hlt)
        have Hk2 := Lib.hid (Hmo.out.twice Hzo.out hlt)
        have hzp := (Hzo.out.1 zs[j] (List.getElem_mem hlt)).2.2.2.2
        clear hc
        generalize zs[j] = z at *
        obtain ⟨zt, zd, zp⟩ := z
        simp only at Hk1 Hk2 hzp q0 q1 q2
        have hbB := (Below.refl z5 wr).alloc hzr (.cells #[.int .i64 zt, .int .i64 zd, .int .i64 zp] 91)
        have hdk1 := hdk.belowB hbB hgz5
        have hF1 := hF.trans (Fr.of_below hbB)
        have o51 := OV.keep o5 (Kept.alloc _ wr (.cells #[.int .i64 zt, .int .i64 zd, .int .i64 zp] 91))
        have hA5 : ∀ g, blockOf A5 = some g → g < wr.heap.size := fun g hg => (OV.block o5 g hg).2
        have hbx := heap_alloc_new wr (.cells #[.int .i64 zt, .int .i64 zd, .int .i64 zp] 91)
        have hz1 : (wr.alloc (.cells #[.int .i64 zt, .int .i64 zd, .int .i64 zp] 91)).heap.size = wr.heap.size + 1 := by simp
        have hwp : IntKind.i64.wrap (3 - zp) = 3 - zp := IntWalk.i64_in _ (by omega)
        go_wp2_with (fail)
        generalize wr.alloc (.cells #[.int .i64 zt, .int .i64 zd, .int .i64 zp] 91) = wx at *
        refine (one_any wx w.heap.size hdk1 2 (by decide)).mono ?_
        rintro e w6 ⟨bb, rfl, hdk6, hg6, hz6⟩
        have hF6 := hF1.trans (Fr.of_grown hg6 (by omega))
        have o6 := OV.keep o51 (Kept.grown hg6 (fun b hb _ e => by injection e with e; have hb : z5 ≤ b := hb; omega))
        have hbx6 := (hg6.block wr.heap.size (by omega) (fun e => by injection e with e; omega)).trans hbx
        have p0 : w6.cell? ⟨wr.heap.size, 0, none⟩ = some (.int .i64 zt) := by rw [cell_of_row w6 _ 0 _ _ _ hbx6]; rfl
        have p1 : w6.cell? ⟨wr.heap.size, 1, none⟩ = some (.int .i64 zd) := by rw [cell_of_row w6 _ 1 _ _ _ hbx6]; rfl
        have p2 : w6.cell? ⟨wr.heap.size, 2, none⟩ = some (.int .i64 zp) := by rw [cell_of_row w6 _ 2 _ _ _ hbx6]; rfl
        have hz6' : wr.heap.size < w6.heap.size := by omega
        clear hbx o51 hF1 hF hg6 hdk1 hdk hbB
        cases bb
        · have oP := OV.keep o6 (Kept.alloc _ w6 (.cells (chgV ⟨zt, zd, zp⟩).toArray 91))
          have hbP := (Below.refl z5 w6).alloc (by omega) (.cells (chgV ⟨zt, zd, zp⟩).toArray 91)
          go_wp2_with (at_builtin; go_must (refine wpList_pushRec chgV_len (by decide) (B := z5) 76 91 _ 24 Tryd.underlying76 chgInfo rfl (by decide) rfl (.tmp 58) (.tmp 60) rfl (xs := ms) (⟨zt, zd, zp⟩ : Chg) (chgV_one _) rfl rfl rfl oP (chg_cellsB _ _ (by omega) _) (by omega) (by simp; omega) ?_); intro A7 c7 w7 ho7 hb7 hg7 ha7)
          go_roundg (gk - 1)
          case measure => have := Hj.out; omega
          case rel =>
            have hb8 := hbP.trans hb7
            exact ⟨j + 1, A7, c7, ms ++ [(⟨zt, zd, zp⟩ : Chg)], by have := Hj.out; omega, by go_num, by simp, Hk1.out, ho7, hdk6.belowB hb8 hgz5, hF6.trans (Fr.of_below hb8), by have := hb7.size; simp at this; omega⟩
        · have oP := OV.keep o6 (Kept.alloc _ w6 (.cells (chgV ⟨zt, zd, 3 - zp⟩).toArray 91))
          have hbP := (Below.refl z5 w6).alloc (by omega) (.cells (chgV ⟨zt, zd, 3 - zp⟩).toArray 91)
          have hbox7 := Lib.hid (show ∀ w7, (w6.alloc (.cells (chgV ⟨zt, zd, 3 - zp⟩).toArray 91)).grownBy w7 (blockOf A5) → w7.cell? ⟨wr.heap.size, 0, none⟩ = some (.int .i64 zt) ∧ w7.cell? ⟨wr.heap.size, 1, none⟩ = some (.int .i64 zd) ∧ w7.cell? ⟨wr.heap.size, 2, none⟩ = some (.int .i64 zp) from fun w7 hg => by
            have hx7 := ((hg.block wr.heap.size (by simp; omega) (fun e => by have := hA5 _ e.symm; omega)).trans (Below.heap_alloc w6 _ wr.heap.size hz6')).trans hbx6
            exact ⟨by rw [cell_of_row w7 _ 0 _ _ _ hx7]; rfl, by rw [cell_of_row w7 _ 1 _ _ _ hx7]; rfl, by rw [cell_of_row w7 _ 2 _ _ _ hx7]; rfl⟩)
          go_wp2_with (at_builtin; first | (refine wpList_pushRec chgV_len (by decide) (B := z5) 76 91 _ 24 Tryd.underlying76 chgInfo rfl (by decide) rfl (.tmp 47) (.tmp 56) rfl (xs := ms) (⟨zt, zd, 3 - zp⟩ : Chg) (chgV_one _) rfl rfl rfl oP (chg_cellsB _ _ (by omega) _) (by omega) (by simp; omega) ?_; intro A7 c7 w7 ho7 hb7 hg7 ha7; obtain ⟨r0, r1, r2⟩ := hbox7.out w7 hg7) | (go_must (refine wpList_pushRec chgV_len (by decide) (B := z5) 76 91 _ 24 Tryd.underlying76 chgInfo rfl (by decide) rfl (.tmp 58) (.tmp 60) rfl (xs := ms ++ [(⟨zt, zd, 3 - zp⟩ : Chg)]) (⟨zt, zd, zp⟩ : Chg) (chgV_one _) rfl rfl (by simp) (OV.keep ho7 (Kept.alloc _ w7 (.cells (chgV ⟨zt, zd, zp⟩).toArray 91))) (chg_cellsB _ _ rfl _) (by simp; omega) (by have := hb7.size; simp at this ⊢; omega) ?_); intro A8 c8 w8 ho8 hb8 hg8 ha8))
          go_roundg (gk - 1)
          case measure => have := Hj.out; omega
          case rel =>
            have hz7 := hb7.size
            have hbY := (hbP.trans hb7).trans (((Below.refl z5 w7).alloc (by simp at hz7; omega) (.cells (chgV ⟨zt, zd, zp⟩).toArray 91)).trans hb8)
            exact ⟨j + 1, A8, c8, (ms ++ [(⟨zt, zd, 3 - zp⟩ : Chg)]) ++ [(⟨zt, zd, zp⟩ : Chg)], by have := Hj.out; omega, by go_num, by simp, Hk2.out, ho8, hdk6.belowB hbY hgz5, hF6.trans (Fr.of_below hbY), by have := hb8.size; simp at this hz7; omega⟩
      · have hjz : j = zs.length := by have := Hj.out; omega
        subst hjz
        have hput := Hmo.out.put
        rw [List.take_length] at hput
        have Hput := Lib.hid hput
        have L : LS w wr (gn + 1) gn A1 c1 ns A2 c2 ds := hLS.fr (hF.monoB (by omega)) hdk
        have sO := sO.keep kZ
        have sZ := sZ.keep kZ
        have sS := sS.keep kZ
        obtain ⟨W0, rfl⟩ : ∃ x, x = wr := ⟨_, rfl⟩
        clear kZ hF hdk hLS hput Ff hC5 Hmore
        obtain ⟨last, hlast⟩ : ∃ last : Int, last = if hz : 0 < zs.length then (zs[zs.length - 1]'(by omega)).t else 0 := ⟨_, rfl⟩
        have hl0 : 0 ≤ last ∧ last ≤ 20 := by
          rw [hlast]
          split
          · rename_i hz
            have := Hzo.out.1 _ (List.getElem_mem (show zs.length - 1 < zs.length by omega))
            omega
          · omega
        have hlm : ∀ x ∈ zs, x.t ≤ last := by
          intro x hx
          obtain ⟨i, hi, rfl⟩ := List.getElem_of_mem hx
          rw [hlast, dif_pos (by omega)]
          by_cases e : i = zs.length - 1
          · subst e; exact Int.le_refl _
          · exact List.pairwise_iff_getElem.1 Hzo.out.2 i (zs.length - 1) hi (by omega) (by omega)
        have Hlast := Lib.hid hlast
        have Hlm := Lib.hid hlm
        have hzl' := hzl
        clear hlast hlm
        go_upto_if 65 with (fail)
        go_cut [12] (fun v wx => v = .int .i64 last ∧ wx = W0)
        case first =>
          by_cases hz : 0 < zs.length
          · have hzi : zs.length - 1 < zs.length := by omega
            obtain ⟨b, off, rfl, _, _, hc⟩ := sZ.rec chgV_len (by decide) hzi
            have q0 := hc 0 _ rfl
            have hlv : zs[zs.length - 1].t = last := by rw [Hlast.out, dif_pos hz]
            rw [hlv] at q0
            simp only [Nat.add_zero] at q0
            have hzd : decide ((0 : Int) < zs.length) = true := decide_eq_true (by omega)
            have hzd2 : decide (0 < zs.length) = true := decide_eq_true hz
            have hwz : IntKind.i64.wrap ((zs.length : Int) - 1) = ((zs.length - 1 : Nat) : Int) := by rw [show ((zs.length - 1 : Nat) : Int) = (zs.length : Int) - 1 by omega]; exact IntWalk.i64_in _ (by omega)
            have hnz : ¬ zs = [] := by intro e; rw [e] at hz; simp at hz
            obtain ⟨zi, hzi0⟩ : ∃ zi, zi = zs.length - 1 := ⟨_, rfl⟩
            rw [← hzi0] at q0 hzi hwz
            clear hc hlv hzi0
            go_wp2_with (fail)
            go_meet
            case rel => exact ⟨rfl, rfl⟩
          · have hze : zs.length = 0 := by omega
            have hzn : zs = [] := List.eq_nil_of_length_eq_zero hze
            have hlv : last = 0 := by rw [Hlast.out, dif_neg hz]
            have hzd : decide ((0 : Int) < zs.length) = false := decide_eq_false (by omega)
            have hzd2 : decide (0 < zs.length) = false := decide_eq_false hz
            have Hlv := Lib.hid hlv
            clear hlv
            go_wp2_with (fail)
            go_meet
            case rel => exact ⟨by rw [Hlv.out], rfl⟩
        case rest =>
          obtain ⟨rfl, hwc⟩ := hcut
          subst hwc
          have hmask := mask_ok Hc0.out Hstl.out Hst.out
          have HAt := At_ok wc (h.below L.bel) (ht.below L.bel) (fun _ => True) A1 A2 c1 c2 ns ds (L.net.mono (fun _ _ _ => trivial)) (by omega) (by omega) As cs st (sS.mono (fun _ _ _ => trivial)) hmask _ Ac cc zs sZ (okC_changes Hzo.out (by omega) (by omega)) last
          have hlen := putC_len last zs st
          have hpos := putC_pos last zs st (fun x hx => (Hzo.out.1 x hx).2.2.2.2) Hst.out
          obtain ⟨tt, htt, hsame⟩ : ∃ tt, tt = putC last st zs ∧ ∀ (s : Int) (i : Nat) (hi : i < tt.length), putC s (putC s st zs) [(⟨last + 1, (i : Int), tt[i]⟩ : Chg)] = putC s st zs := ⟨_, rfl, fun s i hi => putC_same s last st zs Hlm.out i hi⟩
          rw [← htt] at HAt hlen hpos
          have Htl := Lib.hid hlen
          have Htp := Lib.hid hpos
          have Hsame := Lib.hid hsame
          have hne : ((tt.length : Int) != (st.length : Int)) = false := by simp [hlen]
          have HAt := Lib.hid HAt
          have n0 := L.n0
          have n1 := L.n1
          have hst1 : st.length ≤ 8 := by have := Hstl.out; omega
          have hst2 : 1 ≤ st.length := by have := Hstl.out; omega
          clear hmask hpos hsame htt hlen
          go_wp2_with (fail)
          refine HAt.out.mono ?_
          rintro e wa ⟨At, ct, rfl, oT, hba⟩
          have La := L.below hba
          have sS := sS.keep (Kept.of_below hba)
          have sO := sO.keep (Kept.of_below hba)
          have o5 := OV.keep o5 (Kept.of_below hba)
          have hza := hba.size
          have sT := (OI.si oT).mono (T := fun g => w.heap.size < g) (fun g _ hg => by have := L.top; have := L.gne; have hg : wc.heap.size ≤ g := hg; show w.heap.size < g; omega)
          clear HAt n0 n1 L oT hba
          go_wp2_with (fail)
          refine (next_any wa w.heap.size La.deck st.length (by omega)).mono ?_
          rintro e wb ⟨r, rfl, hr, _, hdb, hgb, hzb⟩
          have hr := hr (by omega)
          have hr' : r < st.length := by omega
          have hrt : r < tt.length := by rw [Htl.out]; exact hr'
          have Lb := La.grown hgb hdb
          have sS := sS.keep (Kept.grown hgb (fun b hb _ e => by injection e with e; have := hb.1; omega))
          have sO := sO.keep (Kept.grown hgb (fun b hb _ e => by injection e with e; have := hb.1; omega))
          have o5 := OV.keep o5 (Kept.grown hgb (fun b hb _ e => by injection e with e; have hb : z5 ≤ b := hb; omega))
          have sT := sT.keep (Kept.grown hgb (fun b hb _ e => by injection e with e; have hb : w.heap.size < b := hb; omega))
          obtain ⟨gt, ot, rfl, _, _, qt⟩ := sT.at_ hrt
          have Hs2 := Lib.hid (fun s => Hsame.out s r hrt)
          have hpt := Htp.out tt[r] (List.getElem_mem hrt)
          generalize tt[r] = pt at *
          have hwl : IntKind.i64.wrap (last + 1) = last + 1 := IntWalk.i64_in _ (by omega)
          have hmle : ∀ y ∈ ms, y.t ≤ last + 1 := fun y hy => by
            obtain ⟨x, hx, e⟩ := Hmo.out.tm y hy
            have := Hlm.out x (List.mem_of_mem_take hx)
            omega
          have Hok := Lib.hid (show OkC ds.length 21 (ms ++ [(⟨last + 1, r, pt⟩ : Chg)]) from Hmo.out.ok.snoc _ (by decide) hmle ⟨by show 0 ≤ last + 1; omega, by show last + 1 ≤ 21; omega, by show (0 : Int) ≤ r; omega, by show (r : Int) < ds.length; have := Hstl.out; omega, hpt⟩)
          have Hfin := Lib.hid (show outL ns (supF ns ds st (ms ++ [(⟨last + 1, r, pt⟩ : Chg)])) 40 = l from by
            rw [Hl.out]
            refine outL_congr ns 40 (fun v s _ => ?_)
            unfold supF
            rw [putC_app, Hput.out, Hs2.out])
          have hza5 : z5 ≤ wb.heap.size := by omega
          have oP := OV.keep o5 (Kept.alloc _ wb (.cells (chgV ⟨last + 1, r, pt⟩).toArray 91))
          have hbP := (Below.refl z5 wb).alloc hza5 (.cells (chgV ⟨last + 1, r, pt⟩).toArray 91)
          clear La o5 hgb hdb sT hmle hpt hzb
          have m0 : wb.cell? ⟨gn, 0, none⟩ = some (.slice A1 ns.length c1) := Lb.n0
          go_wp2_with (at_builtin; go_must (refine wpList_pushRec chgV_len (by decide) (B := z5) 76 91 _ 24 Tryd.underlying76 chgInfo rfl (by decide) rfl (.tmp 94) (.tmp 103) rfl (xs := ms) (⟨last + 1, r, pt⟩ : Chg) (chgV_one _) rfl rfl rfl oP (chg_cellsB _ _ rfl _) (by omega) (by simp; omega) ?_); intro A7 c7 w7 ho7 hb7 hg7 ha7; have L7 := Lb.belowM ((hbP.trans hb7).mono hgn5); have n0 := L7.n0; have n1 := L7.n1)
          have sS := sS.keep ⟨(hbP.trans hb7).size, fun g hg _ => (hbP.trans hb7).block g hg.2⟩
          have sO := sO.keep ⟨(hbP.trans hb7).size, fun g hg _ => (hbP.trans hb7).block g hg.2⟩
          have HO := Outages_any w7 (h.below L7.bel) (ht.below L7.bel) (fun _ => True) A1 A2 c1 c2 ns ds (L7.net.mono (fun _ _ _ => trivial)) (by omega) (by omega) As cs st (sS.mono (fun _ _ _ => trivial)) (by omega) _ A7 c7 _ (OV.sv ho7) (by simp; omega) 40
          rw [good_outages Hc0.out Hstl.out Hst.out Hok.out (by decide) (by decide) (by decide) (by simp; omega), show ((40 : Int)).toNat = 40 from rfl, Hfin.out, List.length_append] at HO
          have HO := Lib.hid HO
          refine HO.out.mono ?_
          rintro e w8 ⟨A8, c8, rfl, o8, hb8⟩
          have L8 := L7.below hb8
          have sO := sO.keep (Kept.of_below hb8)
          have HS := Lib.hid (outSame_true w8 _ _ Ao A8 l.length co c8 l rfl sO (OV.sv o8) (by omega))
          clear n0 n1 m0 HO L7 Lb ho7 hb7 hg7 ha7
          go_wp2_with (fail)
          refine HS.out.mono ?_
          rintro e w9 ⟨rfl, nq, rfl⟩
          have L9 := L8.below (below_drewN _ w8 nq)
          have HAW := Lib.hid (awake22 _ (h.below L9.bel) (ht.below L9.bel))
          go_wp2_with (fail)
          refine HAW.out.mono ?_
          rintro e w10 ⟨rfl, hb10⟩
          go_wp2_with (fail)
          go_ret
          exact ⟨rfl, L9.bel.trans (hb10.mono L9.bel.size)⟩
  · have hfd : decide ((xs.length : Int) ≤ 400) = false := decide_eq_false (by omega)
    go_enter Tryd.func7, Tryd.ntmps7
    go_wp2_with (fail)
    refine (few_any w A xs.length c).mono ?_
    rw [hfd]
    rintro e w' ⟨rfl, rfl⟩
    go_wp2_with (fail)
    refine (awake22 w h ht).mono ?_
    rintro e w8 ⟨rfl, hb8⟩
    go_wp2_with (fail)
    go_ret
    exact ⟨rfl, hb8⟩
end Go.Proofs.YthegcofmnpkhmaaDoor

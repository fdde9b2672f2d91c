/-
  The law SupplyWays, walked.
-/
import Derived.Test.YtgpcojmdfmngeaaDoorGf
import Derived.Test.YtgpcojmdfmngeaaDoorR07c
import Derived.Test.YtgpcojmdfmngeaaDoorPSwy
import Derived.Test.YtgpcojmdfmngeaaDoorGd
namespace Go.Proofs.YtgpcojmdfmngeaaDoor
open Go.RowKit
set_option maxHeartbeats 400000
set_option maxRecDepth 100000

theorem Alone_len (w : World) (h : TabC w) (ht : Tab w) (S : Nat → Prop) (A1 A2 : Option Addr) (c1 c2 : Nat) (ns : List Node) (ds : List Dev) (hn : NetIn w S A1 A2 ns ds) (hc : checkL ns ds = 0)
    (U : Option Addr) (m cu : Nat) (st : List Int) (hm : m = st.length) (hs : SI w S U st) (hl : st.length = ds.length) (hp : ∀ x ∈ st, x = 1 ∨ x = 2) :
    Calls Tryd.prog 77 #[.agg #[.slice A1 ns.length c1, .slice A2 ds.length c2], .slice U m cu] w (RetIE w (supN (alB ns ds st) st.length, 0)) := by
  have hD := checkL_zero hc
  have HA := Alone_any w h ht S A1 A2 c1 c2 ns ds hn (by have := hD.few; omega) (by have := hD.dev; omega) U cu st hs (by have := hD.dev; omega)
  unfold aloneE at HA
  rw [mask_ok hc hl hp, if_neg (by simp)] at HA
  subst hm
  exact HA
theorem sway_len (w : World) (h : TabC w) (ht : Tab w) (S : Nat → Prop) (A1 A2 : Option Addr) (c1 c2 : Nat) (ns : List Node) (ds : List Dev) (hn : NetIn w S A1 A2 ns ds) (hc : checkL ns ds = 0)
    (U : Option Addr) (m cu : Nat) (st : List Int) (hm : m = st.length) (hs : SI w S U st) (hl : st.length = ds.length) (v : Nat) (ch : List Nat) (ok : Bool) (he : swayL ns ds st v = (ch, ok, 0)) :
    Calls Tryd.prog 78 #[.agg #[.slice A1 ns.length c1, .slice A2 ds.length c2], .slice U m cu, .int .i64 (v : Nat)] w (RetWay w (ch, ok, 0)) := by
  have hD := checkL_zero hc
  have HA := sway_any w h ht S A1 A2 c1 c2 ns ds hn (by have := hD.few; omega) (by have := hD.dev; omega) U cu st hs (by have := hD.dev; omega) v
  rw [he] at HA
  subst hm
  exact HA

set_option maxHeartbeats 8000000 in
theorem supplyWays_row (w : World) (h : TabC w) (ht : Tab w) (A : Option Addr) (c : Nat) (xs : List Int) (hs : SI w (fun _ => True) A xs) :
    Calls Tryd.prog 6 #[.slice A xs.length c] w (RetT w) := by
  by_cases hf : xs.length ≤ 400
  · have hfd : decide ((xs.length : Int) ≤ 400) = true := decide_eq_true (by omega)
    go_enter Tryd.func6, Tryd.ntmps6
    go_wp2_with (fail)
    refine (few_any w A xs.length c).mono ?_
    rw [hfd]
    rintro e w' ⟨rfl, rfl⟩
    go_wp2_with (fail)
    refine (new_any w _ A c xs hs hf).mono ?_
    rintro e w1 ⟨rfl, hd1, hb1, hz1⟩
    have Hz1 := Lib.hid hz1
    clear hz1
    go_wp2_with (fail)
    refine (network_any w1 w.heap.size hd1 7 12 (by decide) (by decide) (by decide) (by decide)).mono ?_
    rintro e w2 ⟨A1, c1, A2, c2, ns, ds, rfl, ho1, ho2, hd2, hg2, hgood⟩
    have L := LS.start hd1 hb1 Hz1.out ho1 ho2 hd2 hg2 hgood
    have hc0 := good_check hgood (by decide) (by decide)
    have Hc0 := Lib.hid hc0
    have hnl : ns.length ≤ 7 := hgood.most
    have hdl : ds.length ≤ 12 := hgood.few
    obtain ⟨W, hW⟩ : ∃ W, W = w2.alloc (.cells #[.slice A1 ns.length c1, .slice A2 ds.length c2] 26) := ⟨_, rfl⟩
    rw [← hW] at L
    have HW := Lib.hid hW
    have n0 := L.n0
    have n1 := L.n1
    rw [hW] at n0 n1
    clear hd1 hb1 Hz1 ho1 ho2 hd2 hg2 hc0 hW hgood
    go_wp2_with (fail)
    rw [← HW.out]
    refine (state_any W w.heap.size L.deck A1 ns.length c1 A2 c2 ds _ (fun b hb => by have := hb.1; omega) L.net.devs (by omega)).mono ?_
    rintro e w3 ⟨As, cs, st, rfl, hstl, hst, ho3, hd3, hf3⟩
    have L3 := L.state hf3 hd3
    have Hstl := Lib.hid hstl
    have Hst := Lib.hid hst
    have sS := (OI.si ho3).mono (T := fun _ => True) (fun _ _ _ => trivial)
    have hs12 : st.length ≤ 12 := by omega
    clear n0 n1 L hf3 hd3 hstl hst HW ho3
    obtain ⟨gn, hgn⟩ : ∃ x, x = w2.heap.size := ⟨_, rfl⟩
    rw [← hgn] at L3 ⊢
    have hgw := L3.gne
    clear hgn W w2 w1
    have n0 := L3.n0
    have n1 := L3.n1
    have HQ0 := refColours_any w3 (fun _ => True) A1 A2 c1 c2 ns ds (L3.net.mono (fun _ _ _ => trivial)) (by omega) (by omega) As cs st sS (by omega)
    rw [colours_ok Hc0.out Hstl.out Hst.out] at HQ0
    have HQ := Lib.hid HQ0
    clear HQ0
    have HL := Lib.hid (sway_law Hc0.out Hstl.out Hst.out)
    have HA := Lib.hid (alone_law Hc0.out Hstl.out Hst.out)
    have hcl := Lib.hid (show (colL ds st (partsL ns.length ds st)).length = ns.length by rw [colL_len, partsL_len])
    have hsn := supN_len (alB ns ds st) st.length
    generalize colL ds st (partsL ns.length ds st) = cl at *
    go_wp2_with (fail)
    refine HQ.out.mono ?_
    rintro e w4 ⟨Ac, cc, rfl, oC, hb4⟩
    have L4 := L3.below hb4
    have sC := (OI.si oC).mono (T := fun _ => True) (fun _ _ _ => trivial)
    have sS4 := sS.keep (Kept.of_below hb4)
    clear HQ L3 n0 n1 oC sS hb4
    have n0 := L4.n0
    have n1 := L4.n1
    have HQ0 := Alone_len w4 (h.below L4.bel) (ht.below L4.bel) (fun _ => True) A1 A2 c1 c2 ns ds (L4.net.mono (fun _ _ _ => trivial)) Hc0.out As st.length cs st rfl sS4 Hstl.out Hst.out
    have HQ := Lib.hid HQ0
    clear HQ0
    generalize supN (alB ns ds st) st.length = al at *
    go_wp2_with (fail)
    refine HQ.out.mono ?_
    rintro e wA ⟨Aa, ca, rfl, oA, hb5⟩
    have L5 := L4.below hb5
    have sA := (OI.si oA).mono (T := fun _ => True) (fun _ _ _ => trivial)
    have sS5 := sS4.keep (Kept.of_below hb5)
    have sC5 := sC.keep (Kept.of_below hb5)
    clear HQ L4 n0 n1 oA sS4 sC hb5 w4 w3
    have n0 := L5.n0
    have n1 := L5.n1
    go_wp2_with (fail)
    clear n0 n1
    go_loopg [57] ns.length (fun g i wr => ∃ k : Nat, k + g = ns.length ∧ i = .int .i64 k ∧ Below wA.heap.size wA wr ∧ LS w wr (gn + 1) gn A1 c1 ns A2 c2 ds)
    case atStart => exact ⟨0, by omega, rfl, Below.refl _ _, L5⟩
    case round =>
      obtain ⟨k, hk, rfl, hB, L⟩ := hrel
      have Hk := Lib.hid hk
      clear hk
      by_cases hlt : k < ns.length
      · obtain ⟨l, e, ch, u1, u2, u3, u4, hch33⟩ := HL.out k hlt
        have hkc : k < cl.length := by rw [hcl.out]; exact hlt
        have n0 := L.n0
        have n1 := L.n1
        have HQ := Lib.hid (sway_len wr (h.below L.bel) (ht.below L.bel) (fun _ => True) A1 A2 c1 c2 ns ds (L.net.mono (fun _ _ _ => trivial)) Hc0.out As st.length cs st rfl (sS5.keep (Kept.of_below hB)) Hstl.out k ch l u2)
        rw [at_get hkc] at u1
        have U1 := Lib.hid u1
        obtain ⟨W0, rfl⟩ : ∃ x, x = wr := ⟨_, rfl⟩
        clear u1 u2
        go_wp2_with (fail)
        refine HQ.out.mono ?_
        rintro e w6 ⟨Aw, cw, rfl, oW, hb6⟩
        have hB6 := hB.trans (hb6.mono hB.size)
        have L6 := L.below hb6
        have sW := (OI.si oW).mono (T := fun _ => True) (fun _ _ _ => trivial)
        obtain ⟨bc, oc, rfl, _, _, qc⟩ := (sC5.keep (Kept.of_below hB6)).at_ hkc
        rw [U1.out] at qc
        clear HQ n0 n1 oW hb6 L hB
        have n0 := L6.n0
        have n1 := L6.n1
        obtain ⟨gko, rfl⟩ : ∃ x : Nat, x = gk := ⟨_, rfl⟩
        cases l
        · obtain rfl := u3 rfl
          have F1 : (bits BinOp.and IntKind.i64 (colV false e) 1 != 0) = false := by cases e <;> decide
          clear n0 n1
          go_wp2_with (fail)
          go_loopg [14, 100] 0 (fun g s i wr => wr = w6 ∧ g = 0 ∧ s = .int .i64 k ∧ i = .int .i64 0)
          case atStart => exact ⟨rfl, rfl, rfl, rfl⟩
          case round =>
            obtain ⟨rfl, rfl, rfl, rfl⟩ := hrel
            go_wp2_with (fail)
            go_roundg (gko - 1)
            case measure => have := Hk.out; omega
            case rel => exact ⟨k + 1, by have := Hk.out; omega, by go_num, hB6, L6⟩
        · have hch := u4 rfl
          have hcn : ¬ ch = [] := hch.ne
          have hcl0 : ¬ ch.length = 0 := by simpa using hcn
          have F1 : (bits BinOp.and IntKind.i64 (colV true e) 1 != 0) = true := by cases e <;> decide
          have F2 : ((ch.length : Int) == 0) = false := by simp; omega
          have Hch := Lib.hid hch
          have Hkn := Lib.hid hlt
          clear hch n0 n1
          go_wp2_with (fail)
          clear F1 F2 hcn
          go_loopg [14, 100] ch.length (fun g s i wr => ∃ (t u : Nat), t + g = ch.length ∧ i = .int .i64 t ∧ s = .int .i64 u ∧ Below w6.heap.size w6 wr ∧ LS w wr (gn + 1) gn A1 c1 ns A2 c2 ds ∧ (t < ch.length → Chain ds st u (ch.drop t)))
          case atStart => exact ⟨0, k, by omega, rfl, rfl, Below.refl _ _, L6, fun _ => Hch.out⟩
          case round =>
            obtain ⟨t, u, ht, rfl, rfl, hBi, Li, hcn⟩ := hrel
            have Ht := Lib.hid ht
            have hB7 := hB6.trans (hBi.mono hB6.size)
            clear ht
            by_cases htl : t < ch.length
            · have hc1 := hcn htl
              rw [List.drop_eq_getElem_cons htl] at hc1
              obtain ⟨d, d1, d2, d3⟩ := hc1.inv
              obtain ⟨hi1, e1⟩ := List.getElem?_eq_some_iff.1 d1
              obtain ⟨hi2, e2⟩ := List.getElem?_eq_some_iff.1 d2
              obtain ⟨b7, o7, rfl, _, _, q7⟩ := (sW.keep (Kept.of_below hBi)).at_ (k := t) (by rw [nats_len]; exact htl)
              have q7' : wr.cell? ⟨b7, o7 + t, none⟩ = some (.int .i64 (ch[t] : Nat)) := by rw [q7]; simp [nats]
              clear q7
              obtain ⟨bs, os, rfl, _, _, qs⟩ := (sS5.keep (Kept.of_below hB7)).at_ hi2
              rw [e2] at qs
              obtain ⟨bd, od, rfl, _, _, q0, q1, q2, q3, q4⟩ := Li.net.dev hi1
              rw [e1] at q0 q1 q2 q3 q4
              have m0 := Li.n0
              have m1 := Li.n1
              have D1 := Lib.hid d1
              generalize ch[t] = i at *
              have hi3 : ¬ st.length ≤ i := by omega
              clear hcn hc1 e1 e2 d1 d2
              rcases d3 with ⟨hl, ha, hk⟩ | ⟨hl, u', hac, hc2⟩
              · have hlen := congrArg List.length hl
                rw [List.length_drop, List.length_nil] at hlen
                have F1 : ((t : Int) == (ch.length : Int) - 1) = true := by simp; omega
                have F2 : (d.a != (u : Int)) = false := by rw [ha]; simp
                clear hl hlen
                have Ha := Lib.hid ha
                clear ha
                by_cases h5 : d.kind = 5
                · have F3 : (d.kind != 5) = false := by rw [h5]; rfl
                  clear h5 hk
                  go_wp2_with (fail)
                  go_roundg (gko - 1)
                  case measure => have := Hk.out; omega
                  case rel => exact ⟨k + 1, by have := Hk.out; omega, by go_num, hB7.alloc hB7.size _, Li.below ((Below.refl _ _).alloc (Nat.le_refl _) _)⟩
                · have F3 : (d.kind != 5) = true := by simpa using h5
                  have F4 : (d.kind != 6) = false := by simp [isSrc, h5] at hk; rw [hk]; rfl
                  clear h5 hk
                  go_wp2_with (fail)
                  go_roundg (gko - 1)
                  case measure => have := Hk.out; omega
                  case rel => exact ⟨k + 1, by have := Hk.out; omega, by go_num, hB7.alloc hB7.size _, Li.below ((Below.refl _ _).alloc (Nat.le_refl _) _)⟩
              · have hlen : t + 1 < ch.length := by
                  have : ¬ (ch.drop (t + 1)).length = 0 := fun e0 => hl (List.eq_nil_of_length_eq_zero e0)
                  rw [List.length_drop] at this
                  omega
                have F1 : ((t : Int) == (ch.length : Int) - 1) = false := by simp; omega
                have hoth : otherL ns ds i u = u' := by unfold otherL; rw [if_pos ⟨Hc0.out, by omega, by omega⟩, Int.toNat_natCast, D1.out]; exact hac
                have Lj := Li.below ((Below.refl _ _).alloc (Nat.le_refl _) (.cells #[.string d.name, .int .i64 d.kind, .int .i64 d.a, .int .i64 d.b, .int .i64 d.comp] 78))
                have HO := refOther_any _ _ A1 _ c1 c2 ns ds Lj.net (by omega) (by omega) i u
                rw [hoth] at HO
                have HO' := Lib.hid HO
                have j0 := Lj.n0
                have j1 := Lj.n1
                clear HO
                have Hc2 := Lib.hid hc2
                clear hl hac hc2 hoth
                go_wp2_with (fail)
                refine HO'.out.mono ?_
                rintro e8 w8 ⟨rfl, hb8⟩
                have hB8 := (hBi.alloc hBi.size (.cells #[.string d.name, .int .i64 d.kind, .int .i64 d.a, .int .i64 d.b, .int .i64 d.comp] 78)).trans (hb8.mono (by have := hBi.size; simp; omega))
                have L8 := Lj.below hb8
                clear HO'
                go_wp2_with (fail)
                go_roundg (gk - 1)
                case measure => have := Ht.out; omega
                case rel => exact ⟨t + 1, u', by have := Ht.out; omega, by go_num, rfl, hB8, L8, fun _ => Hc2.out⟩
            · go_wp2_with (fail)
              go_roundg (gko - 1)
              case measure => have := Hk.out; omega
              case rel => exact ⟨k + 1, by have := Hk.out; omega, by go_num, hB7, Li⟩
      · clear HL sC5 hcl
        have sS6 := sS5.keep (Kept.of_below hB)
        have sA6 := sA.keep (Kept.of_below hB)
        obtain ⟨W1, rfl⟩ : ∃ x, x = wr := ⟨_, rfl⟩
        clear hB L5 sS5 sA
        go_wp2_with (fail)
        go_loopg [154] al.length (fun g i wr => ∃ k : Nat, k + g = al.length ∧ i = .int .i64 k ∧ Below W1.heap.size W1 wr ∧ LS w wr (gn + 1) gn A1 c1 ns A2 c2 ds)
        case atStart => exact ⟨0, by omega, rfl, Below.refl _ _, L⟩
        case round =>
          clear L
          obtain ⟨k, hk, rfl, hB, L⟩ := hrel
          have Hk := Lib.hid hk
          clear hk
          by_cases hlt : k < al.length
          · obtain ⟨j, hj, x1, x2, x3, x4, x5⟩ := HA.out al[k] (List.getElem_mem hlt)
            obtain ⟨ba, oa, rfl, _, _, qa⟩ := (sA6.keep (Kept.of_below hB)).at_ hlt
            rw [x1] at qa
            obtain ⟨bs, os, rfl, _, _, qs⟩ := (sS6.keep (Kept.of_below hB)).at_ hj
            rw [x2] at qs
            have X5 := Lib.hid x5
            have hj3 : ¬ st.length ≤ j := by omega
            have sSr := sS6.keep (Kept.of_below hB)
            obtain ⟨W2, rfl⟩ : ∃ x, x = wr := ⟨_, rfl⟩
            have n0 := L.n0
            have n1 := L.n1
            obtain ⟨gko, rfl⟩ : ∃ x : Nat, x = gk := ⟨_, rfl⟩
            clear x1 x2 x5
            go_wp2_with (at_builtin; go_must (refine wpList_pushAll (B := W2.heap.size) (xs := []) (ys := st) (T := fun _ => True) rfl (.const (.slice none 0 0)) (.tmp 173) rfl rfl rfl rfl rfl (OI.nil _ _) sSr (by simp; omega) (Nat.le_refl _) ?_); intro At ct w5 oT hb5 hg5 hx5; rw [List.nil_append] at oT ⊢; obtain ⟨gt, ot, rfl, hgt, hgtl, t1, t2⟩ := oT.at_ hj; have hgt' : W2.heap.size ≤ gt := hgt; have hne : ¬ gn = gt := (by have := L.gnm; have := L.top; omega); have n5 := (L.below hb5).n0; have n6 := (L.below hb5).n1)
            obtain ⟨w6, hw6⟩ : ∃ x, x = w5.setCell ⟨gt, ot + j, none⟩ (.int .i64 1) := ⟨_, rfl⟩
            have hz5 := hb5.size
            have oT6 : OI w6 (fun g => W2.heap.size ≤ g) (some ⟨gt, ot, none⟩) ct (st.set j 1) := by rw [hw6]; exact oT.set j 1
            have hB6 : Below W2.heap.size W2 w6 := by rw [hw6]; exact hb5.setCell (p := ⟨gt, ot + j, none⟩) hgt' _
            have L6 := L.below hB6
            have hB7 := hB.trans (hB6.mono hB.size)
            have HQ := Lib.hid (Lost_len w6 (h.below L6.bel) (ht.below L6.bel) (fun _ => True) A1 A2 c1 c2 ns ds (L6.net.mono (fun _ _ _ => trivial)) Hc0.out (some ⟨bs, os, none⟩) st.length cs st rfl (sS6.keep (Kept.of_below hB7)) Hstl.out Hst.out
              (some ⟨gt, ot, none⟩) st.length ct (st.set j 1) (by rw [List.length_set]) ((OI.si oT6).mono (fun _ _ _ => trivial)) (by rw [List.length_set]; exact Hstl.out) (set_pos Hst.out j))
            have Hw6 := Lib.hid hw6
            obtain ⟨lo, hlo⟩ : ∃ x, x = lostL (supL ns ds st) (supL ns ds (st.set j 1)) := ⟨_, rfl⟩
            rw [← hlo] at HQ x3 x4 X5
            have hlol : lo.length ≤ 32 := by
              have h1 := lostL_len (supL ns ds st) (supL ns ds (st.set j 1))
              have h2 := supL_len ns ds st
              rw [← hlo] at h1
              omega
            obtain ⟨kc, hkc⟩ : ∃ x, x = custF ns lo := ⟨_, rfl⟩
            rw [← hkc] at HQ x4
            clear hw6 hlo hkc n0 n1 hb5 hB6
            rw [← Hw6.out]
            clear n5 n6 t1 t2 qa qs
            have n0 := L6.n0
            have n1 := L6.n1
            refine HQ.out.mono ?_
            rintro e w7 ⟨Al, cL, rfl, oL, hb7⟩
            have L7 := L6.below hb7
            have hB8 := hB7.trans (hb7.mono hB7.size)
            have sL := (OI.si oL).mono (T := fun _ => True) (fun _ _ _ => trivial)
            have hl0 : ¬ lo = [] := x3
            have hl1 : ((lo.length : Int) == 0) = false := by simpa using x3
            have hl2 : decide (kc < (lo.length : Int)) = false := decide_eq_false (by omega)
            clear HQ n0 n1 oL hb7 x3 x4 oT6 oT
            go_wp2_with (fail)
            clear hl0 hl1 hl2
            go_loopg [201] lo.length (fun g i wr => ∃ m : Nat, m + g = lo.length ∧ i = .int .i64 m ∧ Below w7.heap.size w7 wr ∧ LS w wr (gn + 1) gn A1 c1 ns A2 c2 ds)
            case atStart => exact ⟨0, by omega, rfl, Below.refl _ _, L7⟩
            case round =>
              obtain ⟨m, hm, rfl, hBi, Li⟩ := hrel
              have Hm := Lib.hid hm
              have hB9 := hB8.trans (hBi.mono hB8.size)
              clear hm
              by_cases hml : m < lo.length
              · obtain ⟨v, ch, y1, y2, y3, y4⟩ := X5.out lo[m] (List.getElem_mem hml)
                obtain ⟨bl, ol, rfl, _, _, ql⟩ := (sL.keep (Kept.of_below hBi)).at_ hml
                rw [y1] at ql
                have hv3 : ¬ (v : Int) < 0 := by omega
                have HW := Lib.hid (sway_len wr (h.below Li.bel) (ht.below Li.bel) (fun _ => True) A1 A2 c1 c2 ns ds (Li.net.mono (fun _ _ _ => trivial)) Hc0.out _ st.length cs st rfl (sS6.keep (Kept.of_below hB9)) Hstl.out v ch true y3)
                have m0 := Li.n0
                have m1 := Li.n1
                have hchl := sway_len33 Hc0.out Hstl.out Hst.out y2 y3
                have Y4 := Lib.hid y4
                clear y1 y3 y4
                go_wp2_with (fail)
                refine HW.out.mono ?_
                rintro e8 w8 ⟨Aw, cw, rfl, oW, hb8⟩
                have L8 := Li.below hb8
                have hB10 := hBi.trans (hb8.mono hBi.size)
                have HH := refHas_any w8 _ Aw cw (nats ch) ((OI.si oW).mono (T := fun _ => True) (fun _ _ _ => trivial)) (by rw [nats_len]; omega) (j : Int)
                rw [nats_len, decide_eq_true (show (j : Int) ∈ nats ch from List.mem_map.2 ⟨j, Y4.out, rfl⟩)] at HH
                have HH' := Lib.hid HH
                clear HH HW m0 m1
                go_wp2_with (fail)
                refine HH'.out.mono ?_
                rintro e9 w9 ⟨rfl, rfl⟩
                go_wp2_with (fail)
                go_roundg (gk - 1)
                case measure => have := Hm.out; omega
                case rel => exact ⟨m + 1, by have := Hm.out; omega, by go_num, hB10, L8⟩
              · go_wp2_with (fail)
                go_roundg (gko - 1)
                case measure => have := Hk.out; omega
                case rel => exact ⟨k + 1, by have := Hk.out; omega, by go_num, hB9, Li⟩
          · have HAW := Lib.hid (awake11 wr (h.below L.bel) (ht.below L.bel))
            go_wp2_with (fail)
            refine HAW.out.mono ?_
            rintro e w8 ⟨rfl, hb8⟩
            go_wp2_with (fail)
            go_ret
            exact ⟨rfl, L.bel.trans (hb8.mono L.bel.size)⟩
  · have hfd : decide ((xs.length : Int) ≤ 400) = false := decide_eq_false (by omega)
    go_enter Tryd.func6, Tryd.ntmps6
    go_wp2_with (fail)
    refine (few_any w A xs.length c).mono ?_
    rw [hfd]
    rintro e w' ⟨rfl, rfl⟩
    go_wp2_with (fail)
    refine (awake11 w h ht).mono ?_
    rintro e w8 ⟨rfl, hb8⟩
    go_wp2_with (fail)
    go_ret
    exact ⟨rfl, hb8⟩
end Go.Proofs.YtgpcojmdfmngeaaDoor

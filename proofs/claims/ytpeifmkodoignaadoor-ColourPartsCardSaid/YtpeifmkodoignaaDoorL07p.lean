/-
  The law ColourParts, walked.
-/
import Derived.Test.YtpeifmkodoignaaDoorL07s
import Derived.Test.YtpeifmkodoignaaDoorPPar
import Derived.Test.YtpeifmkodoignaaDoorRWay
import Derived.Test.YtpeifmkodoignaaDoorR06
namespace Go.Proofs.YtpeifmkodoignaaDoor
open Go.RowKit
set_option maxHeartbeats 400000
set_option maxRecDepth 100000

theorem Parts_new (w : World) (h : TabC w) (ht : Tab w) (S : Nat → Prop) (A1 A2 : Option Addr) (c1 c2 : Nat) (ns : List Node) (ds : List Dev) (hn : NetIn w S A1 A2 ns ds) (hc : checkL ns ds = 0)
    (U : Option Addr) (m cu : Nat) (st : List Int) (hm : m = st.length) (hs : SI w S U st) (hl : st.length = ds.length) (hp : ∀ x ∈ st, x = 1 ∨ x = 2) :
    Calls Tryd.prog 33 #[.agg #[.slice A1 ns.length c1, .slice A2 ds.length c2], .slice U m cu] w fun e w' =>
      ∃ A c, e = .returned (.tuple #[.slice A ns.length c, .int .i64 0]) ∧ SI w' (fun g => w.heap.size ≤ g) A (partsL ns.length ds st) ∧ Below w.heap.size w w' := by
  have hD := checkL_zero hc
  have HA := Parts_any w h ht S A1 A2 c1 c2 ns ds hn (by have := hD.few; omega) (by have := hD.dev; omega) U cu st hs (by have := hD.dev; omega)
  rw [parts_ok hc hl hp] at HA
  subst hm
  refine HA.mono ?_
  rintro e w' ⟨A, c, rfl, ho, hb⟩
  exact ⟨A, c, by simp [partsL_len], OI.si ho, hb⟩
theorem Colours_new (w : World) (h : TabC w) (ht : Tab w) (S : Nat → Prop) (A1 A2 : Option Addr) (c1 c2 : Nat) (ns : List Node) (ds : List Dev) (hn : NetIn w S A1 A2 ns ds) (hc : checkL ns ds = 0)
    (U : Option Addr) (m cu : Nat) (st : List Int) (hm : m = st.length) (hs : SI w S U st) (hl : st.length = ds.length) (hp : ∀ x ∈ st, x = 1 ∨ x = 2) :
    Calls Tryd.prog 32 #[.agg #[.slice A1 ns.length c1, .slice A2 ds.length c2], .slice U m cu] w fun e w' =>
      ∃ A c, e = .returned (.tuple #[.slice A ns.length c, .int .i64 0]) ∧ SI w' (fun g => w.heap.size ≤ g) A (colL ds st (partsL ns.length ds st)) ∧ Below w.heap.size w w' := by
  have hD := checkL_zero hc
  have HA := Colours_any w h ht S A1 A2 c1 c2 ns ds hn (by have := hD.few; omega) (by have := hD.dev; omega) U cu st hs (by have := hD.dev; omega)
  rw [colours_ok hc hl hp] at HA
  subst hm
  refine HA.mono ?_
  rintro e w' ⟨A, c, rfl, ho, hb⟩
  exact ⟨A, c, by simp [colL_len, partsL_len], OI.si ho, hb⟩

/-- What the law keeps: the shared state, and three lists in blocks of their own. -/
structure LP (w wr : World) (gn : Nat) (A1 : Option Addr) (c1 : Nat) (ns : List Node) (A2 : Option Addr) (c2 : Nat) (ds : List Dev) (As Ap Ac : Option Addr) (st lp lc : List Int) : Prop where
  L : LS w wr (gn + 1) gn A1 c1 ns A2 c2 ds
  s : SI wr (fun g => gn < g) As st
  p : SI wr (fun g => gn < g) Ap lp
  c : SI wr (fun g => gn < g) Ac lc
section
variable {w wr w' : World} {gn : Nat} {A1 A2 As Ap Ac : Option Addr} {c1 c2 : Nat} {ns : List Node} {ds : List Dev} {st lp lc : List Int}
theorem LP.below (h : LP w wr gn A1 c1 ns A2 c2 ds As Ap Ac st lp lc) (hb : Below wr.heap.size wr w') : LP w w' gn A1 c1 ns A2 c2 ds As Ap Ac st lp lc :=
  ⟨h.L.below hb, h.s.keep (Kept.of_below hb), h.p.keep (Kept.of_below hb), h.c.keep (Kept.of_below hb)⟩
theorem LP.grown (h : LP w wr gn A1 c1 ns A2 c2 ds As Ap Ac st lp lc) (hg : wr.grownBy w' (some w.heap.size)) (hd : Deck w' w.heap.size) : LP w w' gn A1 c1 ns A2 c2 ds As Ap Ac st lp lc := by
  have k : Kept (fun g => gn < g) wr w' := Kept.grown hg (fun b hb _ e => by injection e with e; have := h.L.gne; omega)
  exact ⟨h.L.grown hg hd, h.s.keep k, h.p.keep k, h.c.keep k⟩
end
theorem SI.true_ {w : World} {S : Nat → Prop} {A : Option Addr} {xs : List Int} (h : SI w S A xs) : SI w (fun _ => True) A xs := h.mono (fun _ _ _ => trivial)

set_option maxHeartbeats 4000000 in
theorem colourParts_row (w : World) (h : TabC w) (ht : Tab w) (A : Option Addr) (c : Nat) (xs : List Int) (hs : SI w (fun _ => True) A xs) :
    Calls Tryd.prog 12 #[.slice A xs.length c] w (RetT w) := by
  by_cases hf : xs.length ≤ 400
  · have hfd : decide ((xs.length : Int) ≤ 400) = true := decide_eq_true (by omega)
    go_enter Tryd.func12, Tryd.ntmps12
    go_wp2_with (fail)
    refine (few_any w A xs.length c).mono ?_
    rw [hfd]
    rintro e w' ⟨rfl, rfl⟩
    go_wp2_with (fail)
    refine (new_any w _ A c xs hs hf).mono ?_
    rintro e w1 ⟨rfl, hd1, hb1, hz1⟩
    have Hz1 := Lib.hid hz1
    clear hz1
    go_wp2_with (fail)
    refine (network_any w1 w.heap.size hd1 7 12 (by decide) (by decide) (by decide) (by decide)).mono ?_
    rintro e w2 ⟨A1, c1, A2, c2, ns, ds, rfl, ho1, ho2, hd2, hg2, hgood⟩
    have L := LS.start hd1 hb1 Hz1.out ho1 ho2 hd2 hg2 hgood
    have hc0 := good_check hgood (by decide) (by decide)
    have Hc0 := Lib.hid hc0
    have hn1 : 1 ≤ ns.length := by have := hgood.two; omega
    have hnl : ns.length ≤ 7 := hgood.most
    have hdl : ds.length ≤ 12 := hgood.few
    obtain ⟨W, hW⟩ : ∃ W, W = w2.alloc (.cells #[.slice A1 ns.length c1, .slice A2 ds.length c2] 30) := ⟨_, rfl⟩
    rw [← hW] at L
    have HW := Lib.hid hW
    have n0 := L.n0
    have n1 := L.n1
    rw [hW] at n0 n1
    clear hd1 hb1 Hz1 ho1 ho2 hd2 hg2 hc0 hW
    go_wp2_with (fail)
    rw [← HW.out]
    refine (state_any W w.heap.size L.deck A1 ns.length c1 A2 c2 ds _ (fun b hb => by have := hb.1; omega) L.net.devs (by omega)).mono ?_
    rintro e w3 ⟨As, cs, st, rfl, hstl, hst, ho3, hd3, hf3⟩
    have L3 := L.state hf3 hd3
    have hWs := hf3.size
    have hM := L.top
    have Hstl := Lib.hid hstl
    have Hst := Lib.hid hst
    have sS : SI w3 (fun g => w2.heap.size < g) As st := (OI.si ho3).mono (fun g hl hg => by have : W.heap.size ≤ g := hg; show w2.heap.size < g; omega)
    clear n0 n1 L hf3 hd3 hstl hst HW ho3
    obtain ⟨gn, hgn⟩ : ∃ x, x = w2.heap.size := ⟨_, rfl⟩
    rw [← hgn] at L3 sS hM ⊢
    have hM3 : gn + 1 ≤ w3.heap.size := by omega
    have hgw := L3.gne
    clear hgn hM hWs W w2 w1
    have Hlt := Lib.hid (show st.length ≤ 12 by have := Hstl.out; omega)
    have n0 := L3.n0
    have n1 := L3.n1
    have HA := Lib.hid (Parts_new w3 (h.below L3.bel) (ht.below L3.bel) _ A1 A2 c1 c2 ns ds (L3.net.mono (T := fun _ => True) (fun _ _ _ => trivial)) Hc0.out As st.length cs st rfl sS.true_ Hstl.out Hst.out)
    go_wp2_with (fail)
    refine HA.out.mono ?_
    rintro e wa ⟨Ap, cp, rfl, sP, hba⟩
    have La := L3.below hba
    have sS := sS.keep (Kept.of_below hba)
    have sP : SI wa (fun g => gn < g) Ap (partsL ns.length ds st) := sP.mono (fun g _ hg => by have hg : w3.heap.size ≤ g := hg; show gn < g; omega)
    have m0 := La.n0
    have m1 := La.n1
    clear L3 HA n0 n1
    have HB := Lib.hid (Colours_new wa (h.below La.bel) (ht.below La.bel) _ A1 A2 c1 c2 ns ds (La.net.mono (T := fun _ => True) (fun _ _ _ => trivial)) Hc0.out As st.length cs st rfl sS.true_ Hstl.out Hst.out)
    have hMa := hba.size
    clear hba
    go_wp2_with (fail)
    refine HB.out.mono ?_
    rintro e wb ⟨Ac, cc, rfl, sC, hbb⟩
    have sC : SI wb (fun g => gn < g) Ac (colL ds st (partsL ns.length ds st)) := sC.mono (fun g _ hg => by have hg : wa.heap.size ≤ g := hg; show gn < g; omega)
    have K : LP w wb gn A1 c1 ns A2 c2 ds As Ap Ac st (partsL ns.length ds st) (colL ds st (partsL ns.length ds st)) := ⟨La.below hbb, sS.keep (Kept.of_below hbb), sP.keep (Kept.of_below hbb), sC⟩
    have n0 := K.L.n0
    have n1 := K.L.n1
    have HD := checkL_zero Hc0.out
    have Hpa := Lib.hid (fun (v : Nat) (hv : v < ns.length) => part_at HD st hv)
    have Hpw := Lib.hid (fun (x v : Nat) (hx : x < ns.length) (hv : v < ns.length) (hr : Rch ds st x v) => part_way Hc0.out Hstl.out hx hv hr)
    have Hjo := Lib.hid (fun (u v : Nat) (hu : u < ns.length) (hv : v < ns.length) => joined_ok Hc0.out Hstl.out Hst.out hu hv)
    have Hcj := Lib.hid (fun (k : Nat) (h1 : k < ds.length) (h2 : k < st.length) => closed_joins HD (st := st) h1 h2)
    have Hce := Lib.hid (fun (k : Nat) (h1 : k < ds.length) (h2 : k < st.length) => closed_earth HD (st := st) h1 h2)
    have Hcl := Lib.hid (fun (k : Nat) (h1 : k < ds.length) (h2 : k < st.length) => closed_live HD (st := st) h1 h2)
    have Hmk := Lib.hid (mask_ok Hc0.out Hstl.out Hst.out)
    have lP := Lib.hid (partsL_len ns.length ds st)
    have lC := Lib.hid (show (colL ds st (partsL ns.length ds st)).length = ns.length by rw [colL_len, partsL_len])
    have HDD := Lib.hid HD
    clear HB m0 m1 hbb HD sS sP sC La hMa hM3
    generalize partsL ns.length ds st = lp at *
    generalize colL ds st lp = lc at *
    go_wp2_with (fail)
    go_loopg [65] ns.length (fun g i wr => ∃ k : Nat, k + g = ns.length ∧ i = .int .i64 k ∧ LP w wr gn A1 c1 ns A2 c2 ds As Ap Ac st lp lc)
    case atStart => exact ⟨0, by omega, rfl, K⟩
    case round =>
      clear K n0 n1
      obtain ⟨k, hk, rfl, K⟩ := hrel
      have Hk := Lib.hid hk
      clear hk
      by_cases hlt : k < ns.length
      · obtain ⟨x, hxk, ex, exx, ec, hrch⟩ := Hpa.out k hlt
        have Hrch := Lib.hid hrch
        have hxn : x < ns.length := by omega
        have kp : k < lp.length := by rw [lP.out]; exact hlt
        have xp : x < lp.length := by rw [lP.out]; exact hxn
        have kc : k < lc.length := by rw [lC.out]; exact hlt
        have xc : x < lc.length := by rw [lC.out]; exact hxn
        obtain ⟨g1, o1, rfl, _, _, a1⟩ := K.p.at_ kp
        obtain ⟨g2, o2, e2, _, _, a2⟩ := K.p.at_ xp
        injection e2 with e2
        injection e2 with e2 e3
        subst e2 e3
        obtain ⟨g3, o3, rfl, _, _, b1⟩ := K.c.at_ kc
        obtain ⟨g4, o4, e4, _, _, b2⟩ := K.c.at_ xc
        injection e4 with e4
        injection e4 with e4 e5
        subst e4 e5
        rw [← at_get kp, ex] at a1
        rw [← at_get xp, exx] at a2
        rw [← at_get kc] at b1
        rw [← at_get xc, ec] at b2
        have Ex := Lib.hid ex
        generalize PO.at_ lc k = y at *
        clear kp xp kc xc ex exx ec hrch
        go_wp2_with (fail)
        go_quiet (fail)
        have K1 := K.below (below_drewN _ wr nq)
        go_wp2_with (fail)
        refine (next_any _ w.heap.size K1.L.deck ns.length (by omega)).mono ?_
        rintro e w4 ⟨u, rfl, hu, _, hd4, hg4, _⟩
        have hun : u < ns.length := by have := hu (by omega); omega
        have K4 := K1.grown hg4 hd4
        have m0 := K4.L.n0
        have m1 := K4.L.n1
        obtain ⟨z, hzu, ez, _, _, _⟩ := Hpa.out u hun
        have HJ := Joined_any w4 (h.below K4.L.bel) (ht.below K4.L.bel) _ A1 A2 c1 c2 ns ds (K4.L.net.mono (T := fun _ => True) (fun _ _ _ => trivial)) (by omega) (by omega) As cs st K4.s.true_ (by have := Hlt.out; omega) k u
        rw [Hjo.out k u hlt hun, Ex.out, ez] at HJ
        clear K K1 a1 a2 b1 b2 hu hg4 hd4
        have kp : k < lp.length := by rw [lP.out]; exact hlt
        have up : u < lp.length := by rw [lP.out]; exact hun
        by_cases hxz : ((x : Int) == (z : Int)) = true
        · rw [hxz] at HJ
          have HJ := Lib.hid HJ
          go_wp2_with (fail)
          refine HJ.out.mono ?_
          rintro e w5 ⟨rfl, hb5⟩
          have K5 := K4.below hb5
          obtain ⟨g1, o1, e1, _, _, a1⟩ := K5.p.at_ kp
          injection e1 with e1
          injection e1 with e1 e2
          subst e1 e2
          obtain ⟨g2, o2, e1, _, _, a2⟩ := K5.p.at_ up
          injection e1 with e1
          injection e1 with e1 e2
          subst e1 e2
          rw [← at_get kp, Ex.out] at a1
          rw [← at_get up, ez] at a2
          clear m0 m1 HJ
          go_wp2_with (fail)
          go_quiet (fail)
          have K6 := K5.below (below_drewN _ w5 nq)
          clear K5 K4 hb5 a1 a2
          obtain ⟨path, hpath, hpl⟩ := Hpw.out x k hxn hlt Hrch.out
          have Hpath := Lib.hid hpath
          clear hpath
          go_upto_region 19 with (fail)
          go_cut [14, 15, 16] (fun v14 v15 v16 wx => ∃ A5 c5, v14 = .slice A5 path.length c5 ∧ v15 = .bool true ∧ v16 = .int .i64 0 ∧ LP w wx gn A1 c1 ns A2 c2 ds As (some ⟨g1, o1, none⟩) (some ⟨g3, o3, none⟩) st lp lc)
          case first =>
            refine wp_region_ext1 (by kernel_rfl) 16 [137, 138, 139, 140, 141, 142, 143, 144, 145, 136, 146, 147, 148, 14, 15, 16] (fun w' => LP w w' gn A1 c1 ns A2 c2 ds As (some ⟨g1, o1, none⟩) (some ⟨g3, o3, none⟩) st lp lc) (fun a b => Below a.heap.size a b) (fun d vv w' => if d = 137 then vv = .agg #[.slice A1 ns.length c1, .slice A2 ds.length c2] else if d = 138 then vv = .slice As st.length cs else if d = 140 then vv = .int .i64 ((k : Nat) : Int) else if d = 141 then vv = .slice (some ⟨g1, o1, none⟩) ns.length cp else if d = 142 then vv = .int .i64 ((k : Nat) : Int) else if d = 143 then vv = .pointer (some ⟨g1, o1 + k, none⟩) else if d = 144 then vv = .int .i64 ((x : Nat) : Int) else if d = 147 then vv = .bool true else if d = 148 then vv = .int .i64 0 else if d = 15 then vv = .bool true else if d = 16 then vv = .int .i64 0 else if d = 139 then ∃ g, vv = .slice (some ⟨g, 0, none⟩) st.length st.length ∧ OB w' g st.length (useOf st) else if d = 145 then ∃ A c, vv = .tuple #[.slice A path.length c, .bool true, .int .i64 0] else if d = 136 then ∃ A c, vv = .tuple #[.slice A path.length c, .bool true, .int .i64 0] else if d = 146 then ∃ A c, vv = .slice A path.length c else if d = 14 then ∃ A c, vv = .slice A path.length c else False) (by kernel_rfl) (K6.below ((Below.refl _ _).drew)) (fun d v w1 w2 _ hE hT => by
              by_cases hd : d = 139
              · subst hd
                obtain ⟨g, e1, e2⟩ : ∃ g, v = .slice (some ⟨g, 0, none⟩) st.length st.length ∧ OB w1 g st.length (useOf st) := hT
                exact (show ∃ g, v = .slice (some ⟨g, 0, none⟩) st.length st.length ∧ OB w2 g st.length (useOf st) from ⟨g, e1, e2.fr (hE.block g (OV.block e2 g rfl).2)⟩)
              · simp only [if_neg hd] at hT ⊢
                exact hT) ?_ ?_
            · intro i o d hi ho hd f w1 hC hdep K hK
              have hi' : i = 0 ∨ i = 1 ∨ i = 2 ∨ i = 3 ∨ i = 4 ∨ i = 5 ∨ i = 6 ∨ i = 7 ∨ i = 8 ∨ i = 9 ∨ i = 10 ∨ i = 11 ∨ i = 12 ∨ i = 13 ∨ i = 14 ∨ i = 15 := by omega
              rcases hi' with rfl | rfl | rfl | rfl | rfl | rfl | rfl | rfl | rfl | rfl | rfl | rfl | rfl | rfl | rfl | rfl
              · simp only [List.getElem?_toArray, List.getElem?_cons_zero, Option.some.injEq] at ho
                subst ho
                simp only [Option.some.injEq] at hd
                subst hd
                generalize hA : fr _ _ _ f = A at hK ⊢
                have e4 : A.tmps[4]?.getD undef = .pointer (some ⟨gn, 0, none⟩) := by rw [← hA]; exact fr_out _ _ _ _ 4 _ (by decide) rfl
                clear hA hdep
                have k0 := hC.L.n0
                have k1 := hC.L.n1
                go_simp
                exact hK _ _ (Below.refl _ _) hC rfl
              · simp only [List.getElem?_toArray, List.getElem?_cons_zero, List.getElem?_cons_succ, Option.some.injEq] at ho
                subst ho
                simp only [Option.some.injEq] at hd
                subst hd
                generalize hA : fr _ _ _ f = A at hK ⊢
                have e5 : A.tmps[5]?.getD undef = .slice As st.length cs := by rw [← hA]; exact fr_out _ _ _ _ 5 _ (by decide) rfl
                clear hA hdep
                go_simp
                exact hK _ _ (Below.refl _ _) hC rfl
              · simp only [List.getElem?_toArray, List.getElem?_cons_zero, List.getElem?_cons_succ, Option.some.injEq] at ho
                subst ho
                simp only [Option.some.injEq] at hd
                subst hd
                have h138 : f 138 = .slice As st.length cs := hdep { on := 1, ground := .data } (by simp) rfl 138 rfl
                generalize hA : fr _ _ _ f = A at hK ⊢
                have e138 : A.tmps[138]?.getD undef = f 138 := by rw [← hA]; exact fr_in _ _ _ _ 138 (by decide) (by simp)
                clear hA hdep
                rw [h138] at e138
                clear h138
                go_simp
                refine (closed07_any w1 _ As cs st.length st hC.s rfl (by have := Hlt.out; omega)).mono ?_
                rintro e' w2 ⟨rfl, ho2, hb2⟩
                exact hK _ _ hb2 (hC.below hb2) ⟨_, rfl, ho2⟩
              · simp only [List.getElem?_toArray, List.getElem?_cons_zero, List.getElem?_cons_succ, Option.some.injEq] at ho
                subst ho
                simp only [Option.some.injEq] at hd
                subst hd
                generalize hA : fr _ _ _ f = A at hK ⊢
                have e10 : A.tmps[10]?.getD undef = .int .i64 ((k : Nat) : Int) := by rw [← hA]; exact fr_out _ _ _ _ 10 _ (by decide) rfl
                clear hA hdep
                go_simp
                exact hK _ _ (Below.refl _ _) hC rfl
              · simp only [List.getElem?_toArray, List.getElem?_cons_zero, List.getElem?_cons_succ, Option.some.injEq] at ho
                subst ho
                simp only [Option.some.injEq] at hd
                subst hd
                generalize hA : fr _ _ _ f = A at hK ⊢
                have e6 : A.tmps[6]?.getD undef = .slice (some ⟨g1, o1, none⟩) ns.length cp := by rw [← hA]; exact fr_out _ _ _ _ 6 _ (by decide) rfl
                clear hA hdep
                go_simp
                exact hK _ _ (Below.refl _ _) hC rfl
              · simp only [List.getElem?_toArray, List.getElem?_cons_zero, List.getElem?_cons_succ, Option.some.injEq] at ho
                subst ho
                simp only [Option.some.injEq] at hd
                subst hd
                generalize hA : fr _ _ _ f = A at hK ⊢
                have e10 : A.tmps[10]?.getD undef = .int .i64 ((k : Nat) : Int) := by rw [← hA]; exact fr_out _ _ _ _ 10 _ (by decide) rfl
                clear hA hdep
                go_simp
                exact hK _ _ (Below.refl _ _) hC rfl
              · simp only [List.getElem?_toArray, List.getElem?_cons_zero, List.getElem?_cons_succ, Option.some.injEq] at ho
                subst ho
                simp only [Option.some.injEq] at hd
                subst hd
                have h141 : f 141 = .slice (some ⟨g1, o1, none⟩) ns.length cp := hdep { on := 4, ground := .data } (by simp) rfl 141 rfl
                have h142 : f 142 = .int .i64 ((k : Nat) : Int) := hdep { on := 5, ground := .data } (by simp) rfl 142 rfl
                generalize hA : fr _ _ _ f = A at hK ⊢
                have e141 : A.tmps[141]?.getD undef = f 141 := by rw [← hA]; exact fr_in _ _ _ _ 141 (by decide) (by simp)
                have e142 : A.tmps[142]?.getD undef = f 142 := by rw [← hA]; exact fr_in _ _ _ _ 142 (by decide) (by simp)
                clear hA hdep
                rw [h141] at e141
                clear h141
                rw [h142] at e142
                clear h142
                go_simp
                exact hK _ _ (Below.refl _ _) hC rfl
              · simp only [List.getElem?_toArray, List.getElem?_cons_zero, List.getElem?_cons_succ, Option.some.injEq] at ho
                subst ho
                simp only [Option.some.injEq] at hd
                subst hd
                have h143 : f 143 = .pointer (some ⟨g1, o1 + k, none⟩) := hdep { on := 6, ground := .data } (by simp) rfl 143 rfl
                generalize hA : fr _ _ _ f = A at hK ⊢
                have e143 : A.tmps[143]?.getD undef = f 143 := by rw [← hA]; exact fr_in _ _ _ _ 143 (by decide) (by simp)
                clear hA hdep
                rw [h143] at e143
                clear h143
                obtain ⟨g9, o9, e9, _, _, q9⟩ := hC.p.at_ kp
                injection e9 with e9
                injection e9 with e9 e9'
                subst e9 e9'
                rw [← at_get kp, Ex.out] at q9
                go_simp
                exact hK _ _ (Below.refl _ _) hC rfl
              · simp only [List.getElem?_toArray, List.getElem?_cons_zero, List.getElem?_cons_succ, Option.some.injEq] at ho
                subst ho
                simp only [Option.some.injEq] at hd
                subst hd
                have h137 : f 137 = .agg #[.slice A1 ns.length c1, .slice A2 ds.length c2] := hdep { on := 0, ground := .data } (by simp) rfl 137 rfl
                have h139 : ∃ g, f 139 = .slice (some ⟨g, 0, none⟩) st.length st.length ∧ OB w1 g st.length (useOf st) := hdep { on := 2, ground := .data } (by simp) rfl 139 rfl
                have h140 : f 140 = .int .i64 ((k : Nat) : Int) := hdep { on := 3, ground := .data } (by simp) rfl 140 rfl
                have h144 : f 144 = .int .i64 ((x : Nat) : Int) := hdep { on := 7, ground := .data } (by simp) rfl 144 rfl
                generalize hA : fr _ _ _ f = A at hK ⊢
                have e137 : A.tmps[137]?.getD undef = f 137 := by rw [← hA]; exact fr_in _ _ _ _ 137 (by decide) (by simp)
                have e139 : A.tmps[139]?.getD undef = f 139 := by rw [← hA]; exact fr_in _ _ _ _ 139 (by decide) (by simp)
                have e140 : A.tmps[140]?.getD undef = f 140 := by rw [← hA]; exact fr_in _ _ _ _ 140 (by decide) (by simp)
                have e144 : A.tmps[144]?.getD undef = f 144 := by rw [← hA]; exact fr_in _ _ _ _ 144 (by decide) (by simp)
                clear hA hdep
                rw [h137] at e137
                clear h137
                obtain ⟨g139, h139, o139⟩ := h139
                rw [h139] at e139
                have Hf139 := Lib.hid h139
                clear h139
                rw [h140] at e140
                clear h140
                rw [h144] at e144
                clear h144
                go_simp
                have HY := refWay_any w1 (fun _ => True) A1 A2 c1 c2 ns ds (hC.L.net.mono (fun _ _ _ => trivial)) (by omega) (by omega) (some ⟨g139, 0, none⟩) st.length (useOf st) o139.sb (by have := Hlt.out; simp [useOf]; omega) k x
                rw [Hpath.out, show (useOf st).length = st.length by simp [useOf]] at HY
                refine HY.mono ?_
                rintro e' w2 ⟨A5, c5, rfl, _, hb2⟩
                exact hK _ _ hb2 (hC.below hb2) ⟨A5, c5, rfl⟩
              · simp only [List.getElem?_toArray, List.getElem?_cons_zero, List.getElem?_cons_succ, Option.some.injEq] at ho
                subst ho
                simp only [Option.some.injEq] at hd
                subst hd
                have h145 : ∃ A c, f 145 = .tuple #[.slice A path.length c, .bool true, .int .i64 0] := hdep { on := 8, ground := .data } (by simp) rfl 145 rfl
                generalize hA : fr _ _ _ f = A at hK ⊢
                have e145 : A.tmps[145]?.getD undef = f 145 := by rw [← hA]; exact fr_in _ _ _ _ 145 (by decide) (by simp)
                clear hA hdep
                obtain ⟨A5, c5, h145⟩ := h145
                rw [h145] at e145
                have Hf145 := Lib.hid h145
                clear h145
                go_simp
                exact hK _ _ (Below.refl _ _) hC ⟨A5, c5, rfl⟩
              · simp only [List.getElem?_toArray, List.getElem?_cons_zero, List.getElem?_cons_succ, Option.some.injEq] at ho
                subst ho
                simp only [Option.some.injEq] at hd
                subst hd
                have h136 : ∃ A c, f 136 = .tuple #[.slice A path.length c, .bool true, .int .i64 0] := hdep { on := 9, ground := .data } (by simp) rfl 136 rfl
                generalize hA : fr _ _ _ f = A at hK ⊢
                have e136 : A.tmps[136]?.getD undef = f 136 := by rw [← hA]; exact fr_in _ _ _ _ 136 (by decide) (by simp)
                clear hA hdep
                obtain ⟨A9, c9, h136⟩ := h136
                rw [h136] at e136
                have Hf136 := Lib.hid h136
                clear h136
                go_simp
                exact hK _ _ (Below.refl _ _) hC ⟨A9, c9, rfl⟩
              · simp only [List.getElem?_toArray, List.getElem?_cons_zero, List.getElem?_cons_succ, Option.some.injEq] at ho
                subst ho
                simp only [Option.some.injEq] at hd
                subst hd
                have h136 : ∃ A c, f 136 = .tuple #[.slice A path.length c, .bool true, .int .i64 0] := hdep { on := 9, ground := .data } (by simp) rfl 136 rfl
                generalize hA : fr _ _ _ f = A at hK ⊢
                have e136 : A.tmps[136]?.getD undef = f 136 := by rw [← hA]; exact fr_in _ _ _ _ 136 (by decide) (by simp)
                clear hA hdep
                obtain ⟨A9, c9, h136⟩ := h136
                rw [h136] at e136
                have Hf136 := Lib.hid h136
                clear h136
                go_simp
                exact hK _ _ (Below.refl _ _) hC rfl
              · simp only [List.getElem?_toArray, List.getElem?_cons_zero, List.getElem?_cons_succ, Option.some.injEq] at ho
                subst ho
                simp only [Option.some.injEq] at hd
                subst hd
                have h136 : ∃ A c, f 136 = .tuple #[.slice A path.length c, .bool true, .int .i64 0] := hdep { on := 9, ground := .data } (by simp) rfl 136 rfl
                generalize hA : fr _ _ _ f = A at hK ⊢
                have e136 : A.tmps[136]?.getD undef = f 136 := by rw [← hA]; exact fr_in _ _ _ _ 136 (by decide) (by simp)
                clear hA hdep
                obtain ⟨A9, c9, h136⟩ := h136
                rw [h136] at e136
                have Hf136 := Lib.hid h136
                clear h136
                go_simp
                exact hK _ _ (Below.refl _ _) hC rfl
              · simp only [List.getElem?_toArray, List.getElem?_cons_zero, List.getElem?_cons_succ, Option.some.injEq] at ho
                subst ho
                simp only [Option.some.injEq] at hd
                subst hd
                have h146 : ∃ A c, f 146 = .slice A path.length c := hdep { on := 10, ground := .data } (by simp) rfl 146 rfl
                generalize hA : fr _ _ _ f = A at hK ⊢
                have e146 : A.tmps[146]?.getD undef = f 146 := by rw [← hA]; exact fr_in _ _ _ _ 146 (by decide) (by simp)
                clear hA hdep
                obtain ⟨A6, c6, h146⟩ := h146
                rw [h146] at e146
                have Hf146 := Lib.hid h146
                clear h146
                go_simp
                exact hK _ _ (Below.refl _ _) hC ⟨A6, c6, rfl⟩
              · simp only [List.getElem?_toArray, List.getElem?_cons_zero, List.getElem?_cons_succ, Option.some.injEq] at ho
                subst ho
                simp only [Option.some.injEq] at hd
                subst hd
                have h147 : f 147 = .bool true := hdep { on := 11, ground := .data } (by simp) rfl 147 rfl
                generalize hA : fr _ _ _ f = A at hK ⊢
                have e147 : A.tmps[147]?.getD undef = f 147 := by rw [← hA]; exact fr_in _ _ _ _ 147 (by decide) (by simp)
                clear hA hdep
                rw [h147] at e147
                clear h147
                go_simp
                exact hK _ _ (Below.refl _ _) hC rfl
              · simp only [List.getElem?_toArray, List.getElem?_cons_zero, List.getElem?_cons_succ, Option.some.injEq] at ho
                subst ho
                simp only [Option.some.injEq] at hd
                subst hd
                have h148 : f 148 = .int .i64 0 := hdep { on := 12, ground := .data } (by simp) rfl 148 rfl
                generalize hA : fr _ _ _ f = A at hK ⊢
                have e148 : A.tmps[148]?.getD undef = f 148 := by rw [← hA]; exact fr_in _ _ _ _ 148 (by decide) (by simp)
                clear hA hdep
                rw [h148] at e148
                clear h148
                go_simp
                exact hK _ _ (Below.refl _ _) hC rfl
            · intro f w1 hC hall
              have q14 : ∃ A c, f 14 = .slice A path.length c := hall 13 14 (by decide) rfl
              have q15 : f 15 = .bool true := hall 14 15 (by decide) rfl
              have q16 : f 16 = .int .i64 0 := hall 15 16 (by decide) rfl
              have H14 := Lib.hid q14
              have H15 := Lib.hid q15
              have H16 := Lib.hid q16
              clear hall q14 q15 q16
              simp only [fr, upd, List.mapIdx_cons, List.mapIdx_nil]
              simp
              go_wp2_with fail
              go_meet
              case rel =>
                obtain ⟨A5, c5, e5⟩ := H14.out
                exact ⟨A5, c5, e5, H15.out, H16.out, hC⟩
          case rest =>
            clear K6
            obtain ⟨A5, c5, rfl, rfl, rfl, K7⟩ := hcut
            go_wp2_with (fail)
            go_roundg (gk - 1)
            case measure => have := Hk.out; omega
            case rel => exact ⟨k + 1, by have := Hk.out; omega, by go_num, K7⟩
        · have hxz : ((x : Int) == (z : Int)) = false := by simpa using hxz
          rw [hxz] at HJ
          have HJ := Lib.hid HJ
          go_wp2_with (fail)
          refine HJ.out.mono ?_
          rintro e w5 ⟨rfl, hb5⟩
          have K5 := K4.below hb5
          obtain ⟨g1, o1, e1, _, _, a1⟩ := K5.p.at_ kp
          injection e1 with e1
          injection e1 with e1 e2
          subst e1 e2
          obtain ⟨g2, o2, e1, _, _, a2⟩ := K5.p.at_ up
          injection e1 with e1
          injection e1 with e1 e2
          subst e1 e2
          rw [← at_get kp, Ex.out] at a1
          rw [← at_get up, ez] at a2
          clear m0 m1 HJ
          go_wp2_with (fail)
          go_quiet (fail)
          have K6 := K5.below (below_drewN _ w5 nq)
          clear K5 K4 hb5 a1 a2
          obtain ⟨path, hpath, hpl⟩ := Hpw.out x k hxn hlt Hrch.out
          have Hpath := Lib.hid hpath
          clear hpath
          go_upto_region 19 with (fail)
          go_cut [14, 15, 16] (fun v14 v15 v16 wx => ∃ A5 c5, v14 = .slice A5 path.length c5 ∧ v15 = .bool true ∧ v16 = .int .i64 0 ∧ LP w wx gn A1 c1 ns A2 c2 ds As (some ⟨g1, o1, none⟩) (some ⟨g3, o3, none⟩) st lp lc)
          case first =>
            refine wp_region_ext1 (by kernel_rfl) 16 [137, 138, 139, 140, 141, 142, 143, 144, 145, 136, 146, 147, 148, 14, 15, 16] (fun w' => LP w w' gn A1 c1 ns A2 c2 ds As (some ⟨g1, o1, none⟩) (some ⟨g3, o3, none⟩) st lp lc) (fun a b => Below a.heap.size a b) (fun d vv w' => if d = 137 then vv = .agg #[.slice A1 ns.length c1, .slice A2 ds.length c2] else if d = 138 then vv = .slice As st.length cs else if d = 140 then vv = .int .i64 ((k : Nat) : Int) else if d = 141 then vv = .slice (some ⟨g1, o1, none⟩) ns.length cp else if d = 142 then vv = .int .i64 ((k : Nat) : Int) else if d = 143 then vv = .pointer (some ⟨g1, o1 + k, none⟩) else if d = 144 then vv = .int .i64 ((x : Nat) : Int) else if d = 147 then vv = .bool true else if d = 148 then vv = .int .i64 0 else if d = 15 then vv = .bool true else if d = 16 then vv = .int .i64 0 else if d = 139 then ∃ g, vv = .slice (some ⟨g, 0, none⟩) st.length st.length ∧ OB w' g st.length (useOf st) else if d = 145 then ∃ A c, vv = .tuple #[.slice A path.length c, .bool true, .int .i64 0] else if d = 136 then ∃ A c, vv = .tuple #[.slice A path.length c, .bool true, .int .i64 0] else if d = 146 then ∃ A c, vv = .slice A path.length c else if d = 14 then ∃ A c, vv = .slice A path.length c else False) (by kernel_rfl) (K6.below ((Below.refl _ _).drew)) (fun d v w1 w2 _ hE hT => by
              by_cases hd : d = 139
              · subst hd
                obtain ⟨g, e1, e2⟩ : ∃ g, v = .slice (some ⟨g, 0, none⟩) st.length st.length ∧ OB w1 g st.length (useOf st) := hT
                exact (show ∃ g, v = .slice (some ⟨g, 0, none⟩) st.length st.length ∧ OB w2 g st.length (useOf st) from ⟨g, e1, e2.fr (hE.block g (OV.block e2 g rfl).2)⟩)
              · simp only [if_neg hd] at hT ⊢
                exact hT) ?_ ?_
            · intro i o d hi ho hd f w1 hC hdep K hK
              have hi' : i = 0 ∨ i = 1 ∨ i = 2 ∨ i = 3 ∨ i = 4 ∨ i = 5 ∨ i = 6 ∨ i = 7 ∨ i = 8 ∨ i = 9 ∨ i = 10 ∨ i = 11 ∨ i = 12 ∨ i = 13 ∨ i = 14 ∨ i = 15 := by omega
              rcases hi' with rfl | rfl | rfl | rfl | rfl | rfl | rfl | rfl | rfl | rfl | rfl | rfl | rfl | rfl | rfl | rfl
              · simp only [List.getElem?_toArray, List.getElem?_cons_zero, Option.some.injEq] at ho
                subst ho
                simp only [Option.some.injEq] at hd
                subst hd
                generalize hA : fr _ _ _ f = A at hK ⊢
                have e4 : A.tmps[4]?.getD undef = .pointer (some ⟨gn, 0, none⟩) := by rw [← hA]; exact fr_out _ _ _ _ 4 _ (by decide) rfl
                clear hA hdep
                have k0 := hC.L.n0
                have k1 := hC.L.n1
                go_simp
                exact hK _ _ (Below.refl _ _) hC rfl
              · simp only [List.getElem?_toArray, List.getElem?_cons_zero, List.getElem?_cons_succ, Option.some.injEq] at ho
                subst ho
                simp only [Option.some.injEq] at hd
                subst hd
                generalize hA : fr _ _ _ f = A at hK ⊢
                have e5 : A.tmps[5]?.getD undef = .slice As st.length cs := by rw [← hA]; exact fr_out _ _ _ _ 5 _ (by decide) rfl
                clear hA hdep
                go_simp
                exact hK _ _ (Below.refl _ _) hC rfl
              · simp only [List.getElem?_toArray, List.getElem?_cons_zero, List.getElem?_cons_succ, Option.some.injEq] at ho
                subst ho
                simp only [Option.some.injEq] at hd
                subst hd
                have h138 : f 138 = .slice As st.length cs := hdep { on := 1, ground := .data } (by simp) rfl 138 rfl
                generalize hA : fr _ _ _ f = A at hK ⊢
                have e138 : A.tmps[138]?.getD undef = f 138 := by rw [← hA]; exact fr_in _ _ _ _ 138 (by decide) (by simp)
                clear hA hdep
                rw [h138] at e138
                clear h138
                go_simp
                refine (closed07_any w1 _ As cs st.length st hC.s rfl (by have := Hlt.out; omega)).mono ?_
                rintro e' w2 ⟨rfl, ho2, hb2⟩
                exact hK _ _ hb2 (hC.below hb2) ⟨_, rfl, ho2⟩
              · simp only [List.getElem?_toArray, List.getElem?_cons_zero, List.getElem?_cons_succ, Option.some.injEq] at ho
                subst ho
                simp only [Option.some.injEq] at hd
                subst hd
                generalize hA : fr _ _ _ f = A at hK ⊢
                have e10 : A.tmps[10]?.getD undef = .int .i64 ((k : Nat) : Int) := by rw [← hA]; exact fr_out _ _ _ _ 10 _ (by decide) rfl
                clear hA hdep
                go_simp
                exact hK _ _ (Below.refl _ _) hC rfl
              · simp only [List.getElem?_toArray, List.getElem?_cons_zero, List.getElem?_cons_succ, Option.some.injEq] at ho
                subst ho
                simp only [Option.some.injEq] at hd
                subst hd
                generalize hA : fr _ _ _ f = A at hK ⊢
                have e6 : A.tmps[6]?.getD undef = .slice (some ⟨g1, o1, none⟩) ns.length cp := by rw [← hA]; exact fr_out _ _ _ _ 6 _ (by decide) rfl
                clear hA hdep
                go_simp
                exact hK _ _ (Below.refl _ _) hC rfl
              · simp only [List.getElem?_toArray, List.getElem?_cons_zero, List.getElem?_cons_succ, Option.some.injEq] at ho
                subst ho
                simp only [Option.some.injEq] at hd
                subst hd
                generalize hA : fr _ _ _ f = A at hK ⊢
                have e10 : A.tmps[10]?.getD undef = .int .i64 ((k : Nat) : Int) := by rw [← hA]; exact fr_out _ _ _ _ 10 _ (by decide) rfl
                clear hA hdep
                go_simp
                exact hK _ _ (Below.refl _ _) hC rfl
              · simp only [List.getElem?_toArray, List.getElem?_cons_zero, List.getElem?_cons_succ, Option.some.injEq] at ho
                subst ho
                simp only [Option.some.injEq] at hd
                subst hd
                have h141 : f 141 = .slice (some ⟨g1, o1, none⟩) ns.length cp := hdep { on := 4, ground := .data } (by simp) rfl 141 rfl
                have h142 : f 142 = .int .i64 ((k : Nat) : Int) := hdep { on := 5, ground := .data } (by simp) rfl 142 rfl
                generalize hA : fr _ _ _ f = A at hK ⊢
                have e141 : A.tmps[141]?.getD undef = f 141 := by rw [← hA]; exact fr_in _ _ _ _ 141 (by decide) (by simp)
                have e142 : A.tmps[142]?.getD undef = f 142 := by rw [← hA]; exact fr_in _ _ _ _ 142 (by decide) (by simp)
                clear hA hdep
                rw [h141] at e141
                clear h141
                rw [h142] at e142
                clear h142
                go_simp
                exact hK _ _ (Below.refl _ _) hC rfl
              · simp only [List.getElem?_toArray, List.getElem?_cons_zero, List.getElem?_cons_succ, Option.some.injEq] at ho
                subst ho
                simp only [Option.some.injEq] at hd
                subst hd
                have h143 : f 143 = .pointer (some ⟨g1, o1 + k, none⟩) := hdep { on := 6, ground := .data } (by simp) rfl 143 rfl
                generalize hA : fr _ _ _ f = A at hK ⊢
                have e143 : A.tmps[143]?.getD undef = f 143 := by rw [← hA]; exact fr_in _ _ _ _ 143 (by decide) (by simp)
                clear hA hdep
                rw [h143] at e143
                clear h143
                obtain ⟨g9, o9, e9, _, _, q9⟩ := hC.p.at_ kp
                injection e9 with e9
                injection e9 with e9 e9'
                subst e9 e9'
                rw [← at_get kp, Ex.out] at q9
                go_simp
                exact hK _ _ (Below.refl _ _) hC rfl
              · simp only [List.getElem?_toArray, List.getElem?_cons_zero, List.getElem?_cons_succ, Option.some.injEq] at ho
                subst ho
                simp only [Option.some.injEq] at hd
                subst hd
                have h137 : f 137 = .agg #[.slice A1 ns.length c1, .slice A2 ds.length c2] := hdep { on := 0, ground := .data } (by simp) rfl 137 rfl
                have h139 : ∃ g, f 139 = .slice (some ⟨g, 0, none⟩) st.length st.length ∧ OB w1 g st.length (useOf st) := hdep { on := 2, ground := .data } (by simp) rfl 139 rfl
                have h140 : f 140 = .int .i64 ((k : Nat) : Int) := hdep { on := 3, ground := .data } (by simp) rfl 140 rfl
                have h144 : f 144 = .int .i64 ((x : Nat) : Int) := hdep { on := 7, ground := .data } (by simp) rfl 144 rfl
                generalize hA : fr _ _ _ f = A at hK ⊢
                have e137 : A.tmps[137]?.getD undef = f 137 := by rw [← hA]; exact fr_in _ _ _ _ 137 (by decide) (by simp)
                have e139 : A.tmps[139]?.getD undef = f 139 := by rw [← hA]; exact fr_in _ _ _ _ 139 (by decide) (by simp)
                have e140 : A.tmps[140]?.getD undef = f 140 := by rw [← hA]; exact fr_in _ _ _ _ 140 (by decide) (by simp)
                have e144 : A.tmps[144]?.getD undef = f 144 := by rw [← hA]; exact fr_in _ _ _ _ 144 (by decide) (by simp)
                clear hA hdep
                rw [h137] at e137
                clear h137
                obtain ⟨g139, h139, o139⟩ := h139
                rw [h139] at e139
                have Hf139 := Lib.hid h139
                clear h139
                rw [h140] at e140
                clear h140
                rw [h144] at e144
                clear h144
                go_simp
                have HY := refWay_any w1 (fun _ => True) A1 A2 c1 c2 ns ds (hC.L.net.mono (fun _ _ _ => trivial)) (by omega) (by omega) (some ⟨g139, 0, none⟩) st.length (useOf st) o139.sb (by have := Hlt.out; simp [useOf]; omega) k x
                rw [Hpath.out, show (useOf st).length = st.length by simp [useOf]] at HY
                refine HY.mono ?_
                rintro e' w2 ⟨A5, c5, rfl, _, hb2⟩
                exact hK _ _ hb2 (hC.below hb2) ⟨A5, c5, rfl⟩
              · simp only [List.getElem?_toArray, List.getElem?_cons_zero, List.getElem?_cons_succ, Option.some.injEq] at ho
                subst ho
                simp only [Option.some.injEq] at hd
                subst hd
                have h145 : ∃ A c, f 145 = .tuple #[.slice A path.length c, .bool true, .int .i64 0] := hdep { on := 8, ground := .data } (by simp) rfl 145 rfl
                generalize hA : fr _ _ _ f = A at hK ⊢
                have e145 : A.tmps[145]?.getD undef = f 145 := by rw [← hA]; exact fr_in _ _ _ _ 145 (by decide) (by simp)
                clear hA hdep
                obtain ⟨A5, c5, h145⟩ := h145
                rw [h145] at e145
                have Hf145 := Lib.hid h145
                clear h145
                go_simp
                exact hK _ _ (Below.refl _ _) hC ⟨A5, c5, rfl⟩
              · simp only [List.getElem?_toArray, List.getElem?_cons_zero, List.getElem?_cons_succ, Option.some.injEq] at ho
                subst ho
                simp only [Option.some.injEq] at hd
                subst hd
                have h136 : ∃ A c, f 136 = .tuple #[.slice A path.length c, .bool true, .int .i64 0] := hdep { on := 9, ground := .data } (by simp) rfl 136 rfl
                generalize hA : fr _ _ _ f = A at hK ⊢
                have e136 : A.tmps[136]?.getD undef = f 136 := by rw [← hA]; exact fr_in _ _ _ _ 136 (by decide) (by simp)
                clear hA hdep
                obtain ⟨A9, c9, h136⟩ := h136
                rw [h136] at e136
                have Hf136 := Lib.hid h136
                clear h136
                go_simp
                exact hK _ _ (Below.refl _ _) hC ⟨A9, c9, rfl⟩
              · simp only [List.getElem?_toArray, List.getElem?_cons_zero, List.getElem?_cons_succ, Option.some.injEq] at ho
                subst ho
                simp only [Option.some.injEq] at hd
                subst hd
                have h136 : ∃ A c, f 136 = .tuple #[.slice A path.length c, .bool true, .int .i64 0] := hdep { on := 9, ground := .data } (by simp) rfl 136 rfl
                generalize hA : fr _ _ _ f = A at hK ⊢
                have e136 : A.tmps[136]?.getD undef = f 136 := by rw [← hA]; exact fr_in _ _ _ _ 136 (by decide) (by simp)
                clear hA hdep
                obtain ⟨A9, c9, h136⟩ := h136
                rw [h136] at e136
                have Hf136 := Lib.hid h136
                clear h136
                go_simp
                exact hK _ _ (Below.refl _ _) hC rfl
              · simp only [List.getElem?_toArray, List.getElem?_cons_zero, List.getElem?_cons_succ, Option.some.injEq] at ho
                subst ho
                simp only [Option.some.injEq] at hd
                subst hd
                have h136 : ∃ A c, f 136 = .tuple #[.slice A path.length c, .bool true, .int .i64 0] := hdep { on := 9, ground := .data } (by simp) rfl 136 rfl
                generalize hA : fr _ _ _ f = A at hK ⊢
                have e136 : A.tmps[136]?.getD undef = f 136 := by rw [← hA]; exact fr_in _ _ _ _ 136 (by decide) (by simp)
                clear hA hdep
                obtain ⟨A9, c9, h136⟩ := h136
                rw [h136] at e136
                have Hf136 := Lib.hid h136
                clear h136
                go_simp
                exact hK _ _ (Below.refl _ _) hC rfl
              · simp only [List.getElem?_toArray, List.getElem?_cons_zero, List.getElem?_cons_succ, Option.some.injEq] at ho
                subst ho
                simp only [Option.some.injEq] at hd
                subst hd
                have h146 : ∃ A c, f 146 = .slice A path.length c := hdep { on := 10, ground := .data } (by simp) rfl 146 rfl
                generalize hA : fr _ _ _ f = A at hK ⊢
                have e146 : A.tmps[146]?.getD undef = f 146 := by rw [← hA]; exact fr_in _ _ _ _ 146 (by decide) (by simp)
                clear hA hdep
                obtain ⟨A6, c6, h146⟩ := h146
                rw [h146] at e146
                have Hf146 := Lib.hid h146
                clear h146
                go_simp
                exact hK _ _ (Below.refl _ _) hC ⟨A6, c6, rfl⟩
              · simp only [List.getElem?_toArray, List.getElem?_cons_zero, List.getElem?_cons_succ, Option.some.injEq] at ho
                subst ho
                simp only [Option.some.injEq] at hd
                subst hd
                have h147 : f 147 = .bool true := hdep { on := 11, ground := .data } (by simp) rfl 147 rfl
                generalize hA : fr _ _ _ f = A at hK ⊢
                have e147 : A.tmps[147]?.getD undef = f 147 := by rw [← hA]; exact fr_in _ _ _ _ 147 (by decide) (by simp)
                clear hA hdep
                rw [h147] at e147
                clear h147
                go_simp
                exact hK _ _ (Below.refl _ _) hC rfl
              · simp only [List.getElem?_toArray, List.getElem?_cons_zero, List.getElem?_cons_succ, Option.some.injEq] at ho
                subst ho
                simp only [Option.some.injEq] at hd
                subst hd
                have h148 : f 148 = .int .i64 0 := hdep { on := 12, ground := .data } (by simp) rfl 148 rfl
                generalize hA : fr _ _ _ f = A at hK ⊢
                have e148 : A.tmps[148]?.getD undef = f 148 := by rw [← hA]; exact fr_in _ _ _ _ 148 (by decide) (by simp)
                clear hA hdep
                rw [h148] at e148
                clear h148
                go_simp
                exact hK _ _ (Below.refl _ _) hC rfl
            · intro f w1 hC hall
              have q14 : ∃ A c, f 14 = .slice A path.length c := hall 13 14 (by decide) rfl
              have q15 : f 15 = .bool true := hall 14 15 (by decide) rfl
              have q16 : f 16 = .int .i64 0 := hall 15 16 (by decide) rfl
              have H14 := Lib.hid q14
              have H15 := Lib.hid q15
              have H16 := Lib.hid q16
              clear hall q14 q15 q16
              simp only [fr, upd, List.mapIdx_cons, List.mapIdx_nil]
              simp
              go_wp2_with fail
              go_meet
              case rel =>
                obtain ⟨A5, c5, e5⟩ := H14.out
                exact ⟨A5, c5, e5, H15.out, H16.out, hC⟩
          case rest =>
            clear K6
            obtain ⟨A5, c5, rfl, rfl, rfl, K7⟩ := hcut
            go_wp2_with (fail)
            go_roundg (gk - 1)
            case measure => have := Hk.out; omega
            case rel => exact ⟨k + 1, by have := Hk.out; omega, by go_num, K7⟩
      · have n1 := K.L.n1
        clear Hpa Hpw Hjo
        go_wp2_with (fail)
        clear hlt Hk n1
        obtain ⟨wo, rfl⟩ : ∃ wo : World, wo = wr := ⟨_, rfl⟩
        go_loopg [166] ds.length (fun g i wr => ∃ k : Nat, k + g = ds.length ∧ i = .int .i64 k ∧ LP w wr gn A1 c1 ns A2 c2 ds As Ap Ac st lp lc)
        case atStart => exact ⟨0, by omega, rfl, K⟩
        case round =>
          clear K
          obtain ⟨k, hk, rfl, K⟩ := hrel
          have Hk := Lib.hid hk
          clear hk
          by_cases hlt : k < ds.length
          · obtain ⟨b', off, rfl, hS, hbl, q0, q1, q2, q3, q4⟩ := K.L.net.dev hlt
            have hks : k < st.length := by rw [Hstl.out]; exact hlt
            have HJ := fun w => refJoins_any ds[k].kind w
            obtain ⟨e7, e8, he⟩ := HDD.out.ends ds[k] (List.getElem_mem hlt)
            obtain ⟨e1, e2, e3, e9⟩ := endsB_parts he
            obtain ⟨ka, hka⟩ := Int.eq_ofNat_of_zero_le e1
            have kan : ka < ns.length := by omega
            have kap : ka < lp.length := by rw [lP.out]; exact kan
            have kac : ka < lc.length := by rw [lC.out]; exact kan
            have Cj := Hcj.out k hlt hks
            have Ce := Hce.out k hlt hks
            have Cl := Hcl.out k hlt hks
            rw [hka] at q2
            rw [hka, Int.toNat_natCast] at Cj Ce Cl
            clear e1 e2 e9 he hka
            by_cases hs2 : (st[k] != 2) = true
            · obtain ⟨gs, os, rfl, _, _, t1⟩ := (K.s.keep (Kept.alloc _ wr (.cells #[.string ds[k].name, .int .i64 ds[k].kind, .int .i64 (ka : Int), .int .i64 ds[k].b, .int .i64 ds[k].comp] 43))).at_ hks
              have K1 := K.below ((Below.refl wr.heap.size wr).alloc (Nat.le_refl _) (.cells #[.string ds[k].name, .int .i64 ds[k].kind, .int .i64 (ka : Int), .int .i64 ds[k].b, .int .i64 ds[k].comp] 43))
              clear HJ Cj Ce Cl e3 e7 e8
              go_wp2_with (fail)
              go_roundg (gk - 1)
              case measure => have := Hk.out; omega
              case rel => exact ⟨k + 1, by have := Hk.out; omega, by go_num, K1⟩
            · have hs2 : st[k] = 2 := by simpa using hs2
              have Cj := Cj hs2
              have Ce := Ce hs2
              have Cl := Cl hs2
              by_cases hj : joinsB ds[k].kind = true
              · obtain ⟨f1, f2, f3⟩ := e3 hj
                obtain ⟨kb, hkb⟩ := Int.eq_ofNat_of_zero_le f1
                have kbn : kb < ns.length := by omega
                have kbp : kb < lp.length := by rw [lP.out]; exact kbn
                have Cj := Cj hj
                rw [hkb] at q3
                rw [hkb, Int.toNat_natCast] at Cj
                have k4 : (ds[k].kind == 4) = false := by unfold joinsB at hj; simp at hj ⊢; omega
                have k5 : (ds[k].kind == 5) = false := by unfold joinsB at hj; simp at hj ⊢; omega
                have k6 : (ds[k].kind == 6) = false := by unfold joinsB at hj; simp at hj ⊢; omega
                rw [hj] at HJ
                have HJ := Lib.hid HJ
                have K1 := K.below ((Below.refl wr.heap.size wr).alloc (Nat.le_refl _) (.cells #[.string ds[k].name, .int .i64 ds[k].kind, .int .i64 (ka : Int), .int .i64 (kb : Int), .int .i64 ds[k].comp] 43))
                obtain ⟨gs, os, rfl, _, _, t1⟩ := K1.s.at_ hks
                obtain ⟨g3, o3, rfl, _, _, d1⟩ := K1.p.at_ kap
                obtain ⟨g4, o4, e4, _, _, d2⟩ := K1.p.at_ kbp
                injection e4 with e4
                injection e4 with e4 e5
                subst e4 e5
                rw [hs2] at t1
                rw [← at_get kap, Cj] at d1
                rw [← at_get kbp] at d2
                clear Ce Cl Cj e3 e7 e8 f1 f2 f3 hkb hj hs2
                generalize PO.at_ lp kb = p at *
                go_wp2_with (fail)
                go_quiet (first | exact Calls.quiet_of_same ((HJ.out _).mono (fun e w' hh => ⟨hh.1, hh.2.symm⟩)))
                go_wp2_with (fail)
                go_roundg (gk - 1)
                case measure => have := Hk.out; omega
                case rel => exact ⟨k + 1, by have := Hk.out; omega, by go_num, K1.below (below_drewN _ _ _)⟩
              · have hj : joinsB ds[k].kind = false := by simpa using hj
                rw [hj] at HJ
                have HJ := Lib.hid HJ
                have K1 := K.below ((Below.refl wr.heap.size wr).alloc (Nat.le_refl _) (.cells #[.string ds[k].name, .int .i64 ds[k].kind, .int .i64 (ka : Int), .int .i64 ds[k].b, .int .i64 ds[k].comp] 43))
                obtain ⟨gs, os, rfl, _, _, t1⟩ := K1.s.at_ hks
                obtain ⟨g3, o3, rfl, _, _, d1⟩ := K1.c.at_ kac
                rw [hs2] at t1
                rw [← at_get kac] at d1
                by_cases hk4 : ds[k].kind = 4
                · have k4 : (ds[k].kind == 4) = true := by simp [hk4]
                  have k5 : (ds[k].kind == 5) = false := by simp [hk4]
                  have k6 : (ds[k].kind == 6) = false := by simp [hk4]
                  obtain ⟨l, el⟩ := Ce hk4
                  rw [el] at d1
                  have F1 : (bits BinOp.and IntKind.i64 (colV l true) 2 == 0) = false := by cases l <;> decide
                  clear Ce Cl Cj e3 e7 e8 hj hs2 hk4 el
                  generalize colV l true = y at *
                  go_wp2_with (fail)
                  go_quiet (first | exact Calls.quiet_of_same ((HJ.out _).mono (fun e w' hh => ⟨hh.1, hh.2.symm⟩)))
                  go_wp2_with (fail)
                  go_roundg (gk - 1)
                  case measure => have := Hk.out; omega
                  case rel => exact ⟨k + 1, by have := Hk.out; omega, by go_num, K1.below (below_drewN _ _ _)⟩
                · have k4 : (ds[k].kind == 4) = false := by simpa using hk4
                  have hk56 : ds[k].kind = 5 ∨ ds[k].kind = 6 := by unfold joinsB at hj; simp at hj; omega
                  obtain ⟨e, el⟩ := Cl hk56
                  rw [el] at d1
                  have F1 : (bits BinOp.and IntKind.i64 (colV true e) 1 == 0) = false := by cases e <;> decide
                  by_cases k5 : (ds[k].kind == 5) = true
                  · have k6 : (ds[k].kind == 6) = false := by have : ds[k].kind = 5 := by simpa using k5
                                                              simp [this]
                    clear Ce Cl Cj e3 e7 e8 hj hs2 hk4 el hk56
                    generalize colV true e = y at *
                    go_wp2_with (fail)
                    go_quiet (first | exact Calls.quiet_of_same ((HJ.out _).mono (fun e w' hh => ⟨hh.1, hh.2.symm⟩)))
                    go_wp2_with (fail)
                    go_roundg (gk - 1)
                    case measure => have := Hk.out; omega
                    case rel => exact ⟨k + 1, by have := Hk.out; omega, by go_num, K1.below (below_drewN _ _ _)⟩
                  · have k5 : (ds[k].kind == 5) = false := by simpa using k5
                    have k6 : (ds[k].kind == 6) = true := by have : ds[k].kind = 6 := by rcases hk56 with h | h; (simp [h] at k5); exact h
                                                             simp [this]
                    clear Ce Cl Cj e3 e7 e8 hj hs2 hk4 el hk56
                    generalize colV true e = y at *
                    go_wp2_with (fail)
                    go_quiet (first | exact Calls.quiet_of_same ((HJ.out _).mono (fun e w' hh => ⟨hh.1, hh.2.symm⟩)))
                    go_wp2_with (fail)
                    go_roundg (gk - 1)
                    case measure => have := Hk.out; omega
                    case rel => exact ⟨k + 1, by have := Hk.out; omega, by go_num, K1.below (below_drewN _ _ _)⟩
          · have n0 := K.L.n0
            have n1 := K.L.n1
            have HS := refState_any wr _ A1 A2 c1 c2 ns ds (K.L.net.mono (T := fun _ => True) (fun _ _ _ => trivial)) (by omega) (by omega) As cs st K.s.true_ (by have := Hlt.out; omega)
            rw [Hmk.out] at HS
            have HS := Lib.hid HS
            go_wp2_with (fail)
            refine HS.out.mono ?_
            rintro e w5 ⟨rfl, hb5⟩
            have K5 := K.below hb5
            go_wp2_with (fail)
            refine (awake07 w5 (h.below K5.L.bel) (ht.below K5.L.bel)).mono ?_
            rintro e w8 ⟨rfl, hb8⟩
            go_wp2_with (fail)
            go_ret
            exact ⟨rfl, K5.L.bel.trans (hb8.mono K5.L.bel.size)⟩
  · have hfd : decide ((xs.length : Int) ≤ 400) = false := decide_eq_false (by omega)
    go_enter Tryd.func12, Tryd.ntmps12
    go_wp2_with (fail)
    refine (few_any w A xs.length c).mono ?_
    rw [hfd]
    rintro e w' ⟨rfl, rfl⟩
    go_wp2_with (fail)
    refine (awake07 w h ht).mono ?_
    rintro e w8 ⟨rfl, hb8⟩
    go_wp2_with (fail)
    go_ret
    exact ⟨rfl, hb8⟩
end Go.Proofs.YtpeifmkodoignaaDoor

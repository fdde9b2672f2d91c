/-
  The law ColourShades, walked.
-/
import Derived.Test.YtglhplddjjoggaaDoorPShd
import Derived.Test.YtglhplddjjoggaaDoorL07h
import Derived.Test.YtglhplddjjoggaaDoorL06a
namespace Go.Proofs.YtglhplddjjoggaaDoor
open Go.RowKit
set_option maxHeartbeats 400000
set_option maxRecDepth 100000

set_option maxHeartbeats 2000000 in
theorem same_true (w : World) (S T : Nat → Prop) (A B : Option Addr) (n c d : Nat) (xs : List Shd) (hn : n = xs.length) (hs : SV w S A (recV shdV xs)) (ht : SV w T B (recV shdV xs)) (hl : xs.length ≤ 65536) :
    Calls Tryd.prog 79 #[.slice A n c, .slice B n d] w fun e w' => e = .returned (.bool true) ∧ ∃ nq, w' = w.drewN nq := by
  subst hn
  go_enter Tryd.func79, Tryd.ntmps79
  go_wp2_with (fail)
  go_loopg [13] xs.length (fun g i wr => ∃ k : Nat, k + g = xs.length ∧ i = .int .i64 k ∧ ∃ nq, wr = w.drewN nq)
  case atStart => exact ⟨0, by omega, rfl, 0, rfl⟩
  case round =>
    obtain ⟨k, hk, rfl, q, rfl⟩ := hrel
    have Hk := Lib.hid hk
    clear hk
    by_cases hlt : k < xs.length
    · obtain ⟨b1, o1, rfl, _, _, h1⟩ := hs.rec shdV_len (by decide) hlt
      obtain ⟨b2, o2, rfl, _, _, h2⟩ := ht.rec shdV_len (by decide) hlt
      generalize xs[k] = x at *
      obtain ⟨m, u, e, f⟩ := x
      have p0 : (w.drewN q).cell? ⟨b1, o1 + k * 4, none⟩ = some (.bool m) := h1 0 _ rfl
      have p1 : (w.drewN q).cell? ⟨b1, o1 + k * 4 + 1, none⟩ = some (.bool u) := h1 1 _ rfl
      have p2 : (w.drewN q).cell? ⟨b1, o1 + k * 4 + 2, none⟩ = some (.bool e) := h1 2 _ rfl
      have p3 : (w.drewN q).cell? ⟨b1, o1 + k * 4 + 3, none⟩ = some (.bool f) := h1 3 _ rfl
      have q0 : (w.drewN q).cell? ⟨b2, o2 + k * 4, none⟩ = some (.bool m) := h2 0 _ rfl
      have q1 : (w.drewN q).cell? ⟨b2, o2 + k * 4 + 1, none⟩ = some (.bool u) := h2 1 _ rfl
      have q2 : (w.drewN q).cell? ⟨b2, o2 + k * 4 + 2, none⟩ = some (.bool e) := h2 2 _ rfl
      have q3 : (w.drewN q).cell? ⟨b2, o2 + k * 4 + 3, none⟩ = some (.bool f) := h2 3 _ rfl
      clear h1 h2
      obtain ⟨W, hW⟩ : ∃ W, W = w.drewN q := ⟨_, rfl⟩
      rw [← hW] at p0 p1 p2 p3 q0 q1 q2 q3 ⊢
      have HW := Lib.hid hW
      clear hW
      go_wp2_with (fail)
      go_quiet (fail)
      go_wp2_with (fail)
      go_roundg (gk - 1)
      case measure => have := Hk.out; omega
      case rel => exact ⟨k + 1, by have := Hk.out; omega, by go_num, q + nq, by rw [HW.out]; exact World.drewN_drewN _ _ _⟩
    · go_wp2_with (fail)
      go_ret
      exact ⟨rfl, q, rfl⟩

theorem Colours_own (w : World) (h : TabC w) (ht : Tab w) (S : Nat → Prop) (A1 A2 : Option Addr) (c1 c2 : Nat) (ns : List Node) (ds : List Dev) (hn : NetIn w S A1 A2 ns ds) (hc : checkL ns ds = 0)
    (U : Option Addr) (m cu : Nat) (st : List Int) (hm : m = st.length) (hs : SI w S U st) (hl : st.length = ds.length) (hp : ∀ x ∈ st, x = 1 ∨ x = 2) :
    Calls Tryd.prog 73 #[.agg #[.slice A1 ns.length c1, .slice A2 ds.length c2], .slice U m cu] w fun e w' =>
      ∃ A c, e = .returned (.tuple #[.slice A ns.length c, .int .i64 0]) ∧ SI w' (fun g => w.heap.size ≤ g) A (colF ns.length ds st) ∧ Below w.heap.size w w' := by
  have hD := checkL_zero hc
  have HA := Colours_any w h ht S A1 A2 c1 c2 ns ds hn (by have := hD.few; omega) (by have := hD.dev; omega) U cu st hs (by have := hD.dev; omega)
  rw [colours_ok hc hl hp] at HA
  subst hm
  refine HA.mono ?_
  rintro e w' ⟨A, c, rfl, ho, hb⟩
  exact ⟨A, c, by simp [colL_len, partsL_len], OI.si ho, hb⟩

theorem filled_at {α : Type} (Z : List α) (z : α) (k : Nat) (h : k < Z.length) (h' : k < (filled Z z k).length) : (filled Z z k)[k] = z := by
  have e : (filled Z z k)[k]? = some z := by
    unfold filled
    have hm : min k Z.length = k := by omega
    rw [List.getElem?_append_right (by rw [List.length_take]; omega), List.length_take, hm, List.getElem?_replicate, if_pos (by omega)]
  exact Option.some.inj ((List.getElem?_eq_getElem h').symm.trans e)

/-- The state of the law's loops: network, all states, shades, and the list that is being made in the block gw. -/
structure LH (w W : World) (gn gw : Nat) (A1 : Option Addr) (c1 : Nat) (ns : List Node) (A2 : Option Addr) (c2 : Nat) (ds : List Dev) (Aa : Option Addr) (all : List (List Int)) (Az : Option Addr) (Zs cur : List Shd) : Prop where
  L : LS w W (gn + 1) gn A1 c1 ns A2 c2 ds
  a : SR W (fun g => gn < g ∧ g < gw) Aa all
  z : SV W (fun g => gn < g ∧ g < gw) Az (recV shdV Zs)
  o : OS W (fun g => g = gw) (some ⟨gw, 0, none⟩) ns.length cur
  hg : gn < gw
section
variable {w W W' : World} {gn gw : Nat} {A1 : Option Addr} {c1 : Nat} {ns : List Node} {A2 : Option Addr} {c2 : Nat} {ds : List Dev} {Aa : Option Addr} {all : List (List Int)} {Az : Option Addr} {Zs cur : List Shd}
theorem LH.below (h : LH w W gn gw A1 c1 ns A2 c2 ds Aa all Az Zs cur) (hb : Below W.heap.size W W') : LH w W' gn gw A1 c1 ns A2 c2 ds Aa all Az Zs cur :=
  ⟨h.L.below hb, h.a.keep (Kept.of_below hb), h.z.keep (Kept.of_below hb), h.o.keep (Kept.of_below hb), h.hg⟩
theorem LH.set1 (h : LH w W gn gw A1 c1 ns A2 c2 ds Aa all Az Zs cur) {k : Nat} (hk : k < cur.length) (j : Nat) (hj : j < 4) (u : Value) (y : Shd) (hy : shdV y = (shdV cur[k]).set j u) :
    LH w (W.setCell ⟨gw, k * 4 + j, none⟩ u) gn gw A1 c1 ns A2 c2 ds Aa all Az Zs (cur.set k y) :=
  ⟨h.L.setB (by have := h.hg; omega) _, h.a.keep (Kept.setCell (p := ⟨gw, _, none⟩) (by show ¬ (gn < gw ∧ gw < gw); omega) _), h.z.keep (Kept.setCell (p := ⟨gw, _, none⟩) (by show ¬ (gn < gw ∧ gw < gw); omega) _), h.o.set1 hk j hj u y hy, h.hg⟩
theorem LH.cells (h : LH w W gn gw A1 c1 ns A2 c2 ds Aa all Az Zs cur) {k : Nat} (hk : k < cur.length) : ∀ j u, (shdV cur[k])[j]? = some u → W.cell? ⟨gw, k * 4 + j, none⟩ = some u ∧ W.frozen? ⟨gw, k * 4 + j, none⟩ = false := by
  obtain ⟨g1, o1, e1, _, _, hcl⟩ := OV.rec h.o shdV_len hk (by decide)
  injection e1 with e1
  injection e1 with e1 e2
  subst e1 e2
  simpa only [Nat.zero_add] using hcl
theorem LH.lt (h : LH w W gn gw A1 c1 ns A2 c2 ds Aa all Az Zs cur) : gw < W.heap.size := (OV.block h.o gw rfl).2
theorem LH.set2 (h : LH w W gn gw A1 c1 ns A2 c2 ds Aa all Az Zs cur) {k : Nat} (hk : k < cur.length) (hx : cur[k] = ⟨false, false, false, false⟩) :
    LH w ((W.setCell ⟨gw, k * 4 + 1, none⟩ (.bool true)).setCell ⟨gw, k * 4 + 3, none⟩ (.bool true)) gn gw A1 c1 ns A2 c2 ds Aa all Az Zs (cur.set k ⟨false, true, false, true⟩) := by
  have h1 := h.set1 hk 1 (by decide) (.bool true) ⟨false, true, false, false⟩ (by rw [hx]; rfl)
  have h2 := h1.set1 (k := k) (by rw [List.length_set]; exact hk) 3 (by decide) (.bool true) ⟨false, true, false, true⟩ (by rw [List.getElem_set_self]; rfl)
  rw [List.set_set] at h2
  exact h2
theorem LH.set4 (h : LH w W gn gw A1 c1 ns A2 c2 ds Aa all Az Zs cur) {k : Nat} (hk : k < cur.length) (y : Shd) :
    LH w ((((W.setCell ⟨gw, k * 4, none⟩ (.bool y.ml)).setCell ⟨gw, k * 4 + 2, none⟩ (.bool y.me)).setCell ⟨gw, k * 4 + 1, none⟩ (.bool y.ul)).setCell ⟨gw, k * 4 + 3, none⟩ (.bool y.ue)) gn gw A1 c1 ns A2 c2 ds Aa all Az Zs (cur.set k y) := by
  have h1 := h.set1 hk 0 (by decide) (.bool y.ml) ⟨y.ml, cur[k].ul, cur[k].me, cur[k].ue⟩ rfl
  have h2 := h1.set1 (k := k) (by rw [List.length_set]; exact hk) 2 (by decide) (.bool y.me) ⟨y.ml, cur[k].ul, y.me, cur[k].ue⟩ (by rw [List.getElem_set_self]; rfl)
  rw [List.set_set] at h2
  have h3 := h2.set1 (k := k) (by rw [List.length_set]; exact hk) 1 (by decide) (.bool y.ul) ⟨y.ml, y.ul, y.me, cur[k].ue⟩ (by rw [List.getElem_set_self]; rfl)
  rw [List.set_set] at h3
  have h4 := h3.set1 (k := k) (by rw [List.length_set]; exact hk) 3 (by decide) (.bool y.ue) y (by rw [List.getElem_set_self]; rfl)
  rw [List.set_set] at h4
  exact h4
theorem LH.start (h : LS w W (gn + 1) gn A1 c1 ns A2 c2 ds) (ha : SR W (fun g => gn < g) Aa all) (hz : SV W (fun g => gn < g) Az (recV shdV Zs)) {w7 : World} (ho : OS w7 (fun g => g = W.heap.size) (some ⟨W.heap.size, 0, none⟩) ns.length cur) (hb : Below W.heap.size W w7) :
    LH w w7 gn W.heap.size A1 c1 ns A2 c2 ds Aa all Az Zs cur :=
  ⟨h.below hb, (ha.mono (T := fun g => gn < g ∧ g < W.heap.size) (fun b hl hs => ⟨hs, hl⟩)).keep (Kept.of_below hb), (hz.mono (T := fun g => gn < g ∧ g < W.heap.size) (fun b hl hs => ⟨hs, hl⟩)).keep (Kept.of_below hb), ho, by have := h.top; omega⟩
end

set_option maxHeartbeats 16000000 in
theorem colourShades_row (w : World) (h : TabC w) (ht : Tab w) (A : Option Addr) (c : Nat) (xs : List Int) (hs : SI w (fun _ => True) A xs) :
    Calls Tryd.prog 8 #[.slice A xs.length c] w (RetT w) := by
  by_cases hf : xs.length ≤ 400
  · have hfd : decide ((xs.length : Int) ≤ 400) = true := decide_eq_true (by omega)
    go_enter Tryd.func8, Tryd.ntmps8
    go_wp2_with (fail)
    refine (few_any w A xs.length c).mono ?_
    rw [hfd]
    rintro e w' ⟨rfl, rfl⟩
    go_wp2_with (fail)
    refine (new_any w _ A c xs hs hf).mono ?_
    rintro e w1 ⟨rfl, hd1, hb1, hz1⟩
    have Hz1 := Lib.hid hz1
    clear hz1
    go_wp2_with (fail)
    refine (network_any w1 w.heap.size hd1 6 10 (by decide) (by decide) (by decide) (by decide)).mono ?_
    rintro e w2 ⟨A1, c1, A2, c2, ns, ds, rfl, ho1, ho2, hd2, hg2, hgood⟩
    have L := LS.start hd1 hb1 Hz1.out ho1 ho2 hd2 hg2 hgood
    have hc0 := good_check hgood (by decide) (by decide)
    have Hc0 := Lib.hid hc0
    have hnl : ns.length ≤ 6 := hgood.most
    have hdl : ds.length ≤ 10 := hgood.few
    obtain ⟨W, hW⟩ : ∃ W, W = w2.alloc (.cells #[.slice A1 ns.length c1, .slice A2 ds.length c2] 26) := ⟨_, rfl⟩
    rw [← hW] at L
    have HW := Lib.hid hW
    have n0 := L.n0
    have n1 := L.n1
    rw [hW] at n0 n1
    clear hd1 hb1 Hz1 ho1 ho2 hd2 hg2 hc0 hW hgood
    go_wp2_with (fail)
    rw [← HW.out]
    refine (masks_few W w.heap.size L.deck A1 ns.length c1 A2 c2 ds _ (fun b hb => by have := hb.1; omega) L.net.devs (by omega) 5 (by decide)).mono ?_
    rintro e w3 ⟨Am, cm, ms, rfl, hml, hm3, hm5, ho3, hd3, hf3⟩
    have L3 := L.state hf3 hd3
    have Hml := Lib.hid hml
    have Hm3 := Lib.hid hm3
    have sM : SI w3 (fun _ => True) Am ms := (OI.si ho3).mono (fun _ _ _ => trivial)
    clear n0 n1 L hf3 hd3 hml hm3 HW ho3
    obtain ⟨gn, hgn⟩ : ∃ x, x = w2.heap.size := ⟨_, rfl⟩
    rw [← hgn] at L3 ⊢
    clear hgn W w2 w1
    have n0 := L3.n0
    have n1 := L3.n1
    have hmk : maskC isMask ns ds ms = 0 := by
      unfold maskC
      rw [if_neg (by simpa using Hc0.out), if_neg (by simp [Hml.out]), if_pos (masks_all Hm3.out)]
    have HA := Shades_any w3 (h.below L3.bel) (ht.below L3.bel) _ A1 A2 c1 c2 ns ds (L3.net.mono (T := fun _ => True) (fun _ _ _ => trivial)) (by omega) (by omega) Am cm ms sM (by have := Hml.out; omega)
    have hse : shadesE ns ds ms = (shadeL (colF ns.length ds (lowL 2 ms)) (colF ns.length ds (lowL 1 ms)), 0) := by
      unfold shadesE
      rw [hmk, if_neg (by simp)]
      rfl
    rw [hse, ← fold_shades (checkL_zero Hc0.out) ms (by omega)] at HA
    have HA := Lib.hid HA
    clear hmk hse
    go_wp2_with (fail)
    refine HA.out.mono ?_
    rintro e w4 ⟨Az, cz, rfl, oZ, hb4⟩
    have L4 := L3.below hb4
    have sM := sM.keep (Kept.of_below hb4)
    have sZ : SV w4 (fun g => gn < g) Az (recV shdV (foldS ns.length ds (allL ms))) := (OV.sv oZ).mono (fun g _ hg => by have := L3.top; have hg : w3.heap.size ≤ g := hg; show gn < g; omega)
    have hfl := foldS_len ns.length ds (allL ms)
    rw [show (foldS ns.length ds (allL ms), (0 : Int)).1.length = ns.length from hfl]
    have m0 := L4.n0
    have m1 := L4.n1
    clear L3 HA n0 n1 hb4 oZ
    have HB := all_any w4 (ht.below L4.bel) _ Am cm ms sM (by have := Hml.out; omega) (masks_all Hm3.out) (by rw [unk_len]; omega)
    have HB := Lib.hid HB
    go_wp2_with (fail)
    refine HB.out.mono ?_
    rintro e w5 ⟨Aa, ca, rfl, sR, hb5⟩
    have L5 := L4.below hb5
    have sZ := sZ.keep (Kept.of_below hb5)
    have sR : SR w5 (fun g => gn < g) Aa (allL ms) := sR.mono (fun g _ hg => by have := L4.top; have hg : w4.heap.size ≤ g := hg; show gn < g; omega)
    have n0 := L5.n0
    have n1 := L5.n1
    have Hget := Lib.hid (allL_get ms)
    have hal := allL_len ms
    have hN1 : 1 ≤ 2 ^ num3 ms := Nat.one_le_two_pow
    have hu6 : 2 ^ num3 ms ≤ 32 := Nat.le_trans (Nat.pow_le_pow_right (by omega) hm5) (by decide)
    obtain ⟨N, hN⟩ : ∃ N, N = 2 ^ num3 ms := ⟨_, rfl⟩
    rw [← hN] at hal hu6 hN1
    rw [hal]
    have Hal := Lib.hid hal
    have hN0 : ¬ (N : Int) = 0 := by omega
    have hN0' : ¬ N = 0 := by omega
    clear hN hal hb5 L4 HB m0 m1 sM
    have Hst := Lib.hid (fun (k : Nat) (hk : k < (allL ms).length) => show (allL ms)[k].length = ds.length ∧ ∀ x ∈ (allL ms)[k], x = 1 ∨ x = 2 from ⟨by rw [Hget.out k hk, stF_len]; exact Hml.out, by rw [Hget.out k hk]; exact stF_mem (fun i => bit_two _ _) ms 0 Hm3.out⟩)
    clear Hget
    generalize allL ms = all at *
    generalize hFS : foldS ns.length ds all = FS at *
    have HFS := Lib.hid hFS
    clear hFS
    have hN2 : ((N : Int) == 0) = false := by simpa using hN0
    go_wp2_with (at_make; go_must (refine wpList_makeR (f := shdV) (m := 4) rfl (.tmp 62) (.tmp 62) 69 rfl 83 _ 4 Tryd.underlying69 shdInfo ⟨false, false, false, false⟩ rfl shdV_len (by decide) _ _ ns.length rfl rfl (by omega) (by simp [maxLen]; omega) ?_); intro w7 ho7 hb7 hz7)
    obtain ⟨gw, hgw⟩ : ∃ x, x = w5.heap.size := ⟨_, rfl⟩
    have ho7' : OS w7 (fun g => g = w5.heap.size) (some ⟨w5.heap.size, 0, none⟩) ns.length (List.replicate ns.length ⟨false, false, false, false⟩) := by
      have h1 := ho7
      unfold OS
      exact h1
    have K := LH.start L5 sR sZ ho7' hb7
    have hrl : (List.replicate ns.length (⟨false, true, false, true⟩ : Shd)).length = ns.length := List.length_replicate
    rw [show List.replicate ns.length (⟨false, false, false, false⟩ : Shd) = filled (List.replicate ns.length ⟨false, true, false, true⟩) ⟨false, false, false, false⟩ 0 by rw [filled_zero, hrl], ← hgw] at K
    rw [← hgw]
    clear ho7 ho7' hb7 hz7 n0 n1 sR sZ L5 hgw
    have Hrl := Lib.hid hrl
    clear hrl
    go_wp2_with (fail)
    go_loopg [66] ns.length (fun g i wr => ∃ k : Nat, k + g = ns.length ∧ i = .int .i64 k ∧ LH w wr gn gw A1 c1 ns A2 c2 ds Aa all Az FS (filled (List.replicate ns.length ⟨false, true, false, true⟩) ⟨false, false, false, false⟩ k))
    case atStart => exact ⟨0, by omega, rfl, K⟩
    case round =>
      clear K
      obtain ⟨k, hk, rfl, K⟩ := hrel
      have Hk := Lib.hid hk
      clear hk
      by_cases hlt : k < ns.length
      · have hkr : k < (List.replicate ns.length (⟨false, true, false, true⟩ : Shd)).length := by rw [Hrl.out]; exact hlt
        have hkf : k < (filled (List.replicate ns.length (⟨false, true, false, true⟩ : Shd)) ⟨false, false, false, false⟩ k).length := by rw [filled_len _ _ _ (by omega)]; exact hkr
        have hst := filled_step (List.replicate ns.length (⟨false, true, false, true⟩ : Shd)) ⟨false, false, false, false⟩ k hkr
        rw [List.getElem_replicate] at hst
        have hat := filled_at (List.replicate ns.length (⟨false, true, false, true⟩ : Shd)) ⟨false, false, false, false⟩ k hkr hkf
        have hcl := K.cells hkf
        rw [hat] at hcl
        obtain ⟨d1, f1⟩ := hcl 1 _ rfl
        obtain ⟨d3, f3⟩ := hcl 3 _ rfl
        have H2 := Lib.hid (K.set2 hkf hat)
        rw [hst] at H2
        clear hcl hat hst
        go_wp2_with (fail)
        go_roundg (gk - 1)
        case measure => have := Hk.out; omega
        case rel => exact ⟨k + 1, by have := Hk.out; omega, by go_num, H2.out⟩
      · rw [filled_all _ _ k (by rw [Hrl.out]; omega)] at K
        go_wp2_with (fail)
        go_loopg [80] N (fun g i wr => ∃ j : Nat, j + g = N ∧ i = .int .i64 j ∧ LH w wr gn gw A1 c1 ns A2 c2 ds Aa all Az FS (foldS ns.length ds (all.take j)))
        case atStart => exact ⟨0, by omega, rfl, K⟩
        case round =>
          clear K
          obtain ⟨j, hj, rfl, K⟩ := hrel
          obtain ⟨wo, rfl⟩ : ∃ x, x = wr := ⟨_, rfl⟩
          obtain ⟨gko, rfl⟩ : ∃ x, x = gk := ⟨_, rfl⟩
          have Hj := Lib.hid hj
          clear hj Hk hlt
          by_cases hlt : j < N
          · have hja : j < all.length := by rw [Hal.out]; exact hlt
            have Hfs := Lib.hid (show foldS ns.length ds (all.take (j + 1)) = stepAll (foldS ns.length ds (all.take j)) (colF ns.length ds all[j]) by rw [List.take_succ_eq_append_getElem hja, foldS_snoc])
            have hfl2 := foldS_len ns.length ds (all.take j)
            obtain ⟨b, off, Ar, cr, rfl, hc, _, sRow⟩ := K.a.at_ hja
            obtain ⟨hs1, hs2⟩ := Hst.out j hja
            have HC := Lib.hid (Colours_own wo (h.below K.L.bel) (ht.below K.L.bel) (fun _ => True) A1 A2 c1 c2 ns ds (K.L.net.mono (T := fun _ => True) (fun _ _ _ => trivial)) Hc0.out Ar _ cr all[j] rfl (sRow.mono (fun _ _ _ => trivial)) hs1 hs2)
            have n0 := K.L.n0
            have n1 := K.L.n1
            have Hcl := Lib.hid (colF_len ns.length ds all[j])
            generalize foldS ns.length ds (all.take j) = cur at *
            generalize hgcs : colF ns.length ds all[j] = cs at *
            clear hgcs hs1 hs2 sRow
            go_wp2_with (fail)
            refine HC.out.mono ?_
            rintro e w8 ⟨Ac, cc, rfl, sC, hb8⟩
            have hKl := K.lt
            have K8 := K.below hb8
            have sC : SI w8 (fun g => gw < g) Ac cs := sC.mono (fun g _ hg => by have hg : wo.heap.size ≤ g := hg; show gw < g; omega)
            clear HC n0 n1 hc hb8 K hKl
            go_wp2_with (fail)
            go_loopg [101] ns.length (fun g i wr => ∃ (k : Nat) (cur' : List Shd), k + g = ns.length ∧ i = .int .i64 k ∧ LH w wr gn gw A1 c1 ns A2 c2 ds (some ⟨b, off, none⟩) all Az FS cur' ∧ cur'.length = ns.length ∧ SI wr (fun g => gw < g) Ac cs ∧ ∀ i : Nat, cur'[i]? = if i < k then (stepAll cur cs)[i]? else cur[i]?)
            case atStart => exact ⟨0, cur, by omega, rfl, K8, hfl2, sC, fun i => by simp⟩
            case round =>
              clear K8 sC
              obtain ⟨k, cur', hk, rfl, K, hcl, sC, hpt⟩ := hrel
              have Hk := Lib.hid hk
              have Hpt := Lib.hid hpt
              clear hk hpt
              by_cases hkt : k < ns.length
              · have hkc : k < cur'.length := by rw [hcl]; exact hkt
                have hks : k < cs.length := by rw [Hcl.out]; exact hkt
                have hkr : k < cur.length := by rw [hfl2]; exact hkt
                have hx : cur'[k] = cur[k] := by
                  have := Hpt.out k
                  rw [if_neg (by omega), List.getElem?_eq_getElem hkc, List.getElem?_eq_getElem hkr] at this
                  exact Option.some.inj this
                obtain ⟨gc, oc, rfl, hgc, hgcl, q⟩ := sC.at_ hks
                have hce := K.cells hkc
                have Hnew := Lib.hid (fun (nq : Nat) => (show _ from ⟨K.below (below_drewN _ _ nq) |>.set4 hkc (stepS cur'[k] cs[k]), ((((sC.keep (Kept.drewN _ _ nq)).keep (Kept.setCell (p := ⟨gw, k * 4, none⟩) (by show ¬ gw < gw; omega) (.bool (stepS cur'[k] cs[k]).ml))).keep (Kept.setCell (p := ⟨gw, k * 4 + 2, none⟩) (by show ¬ gw < gw; omega) (.bool (stepS cur'[k] cs[k]).me))).keep (Kept.setCell (p := ⟨gw, k * 4 + 1, none⟩) (by show ¬ gw < gw; omega) (.bool (stepS cur'[k] cs[k]).ul))).keep (Kept.setCell (p := ⟨gw, k * 4 + 3, none⟩) (by show ¬ gw < gw; omega) (.bool (stepS cur'[k] cs[k]).ue))⟩ : LH w _ gn gw A1 c1 ns A2 c2 ds (some ⟨b, off, none⟩) all Az FS _ ∧ SI _ (fun g => gw < g) (some ⟨gc, oc, none⟩) cs))
                have Hpn := Lib.hid (show ∀ i : Nat, (cur'.set k (stepS cur'[k] cs[k]))[i]? = if i < k + 1 then (stepAll cur cs)[i]? else cur[i]? from fun i => by
                  rw [List.getElem?_set]
                  by_cases e : k = i
                  · subst e
                    rw [if_pos rfl, if_pos hkc, if_pos (by omega), stepAll, List.getElem?_zipWith, List.getElem?_eq_getElem hkr, List.getElem?_eq_getElem hks, hx]
                  · rw [if_neg e, Hpt.out i]
                    by_cases h1 : i < k
                    · rw [if_pos h1, if_pos (by omega)]
                    · rw [if_neg h1, if_neg (by omega)])
                have Hln := Lib.hid (show (cur'.set k (stepS cur'[k] cs[k])).length = ns.length by rw [List.length_set]; exact hcl)
                unfold stepS liveOf earthOf at Hnew Hpn Hln
                clear hx Hpt
                generalize cur'[k] = x at *
                obtain ⟨m, u, e, f⟩ := x
                obtain ⟨d0, f0⟩ := hce 0 _ rfl
                obtain ⟨d1, f1⟩ := hce 1 _ rfl
                obtain ⟨d2, f2⟩ := hce 2 _ rfl
                obtain ⟨d3, f3⟩ := hce 3 _ rfl
                simp only [Nat.add_zero] at d0 f0
                clear hce
                cases m <;> cases u <;> cases e <;> cases f
                all_goals
                  go_wp2_with (fail)
                  go_quiet (fail)
                  go_wp2_with (fail)
                  go_roundg (gk - 1)
                  case measure => have := Hk.out; omega
                  case rel => exact ⟨k + 1, _, by have := Hk.out; omega, by go_num, (Hnew.out nq).1, Hln.out, (Hnew.out nq).2, Hpn.out⟩
              · have hcs : cur' = stepAll cur cs := by
                  apply List.ext_getElem?
                  intro i
                  rw [Hpt.out i]
                  by_cases h1 : i < k
                  · rw [if_pos h1]
                  · rw [if_neg h1, List.getElem?_eq_none (by omega), List.getElem?_eq_none (by simp [stepAll]; omega)]
                rw [hcs, ← Hfs.out] at K
                clear hcs Hfs
                go_wp2_with (fail)
                go_roundg (gko - 1)
                case measure => have := Hj.out; omega
                case rel => exact ⟨j + 1, by have := Hj.out; omega, by go_num, K⟩
          · rw [List.take_of_length_le (by rw [Hal.out]; omega), HFS.out] at K
            have HS := Lib.hid (same_true wo _ _ Az _ ns.length cz ns.length FS hfl.symm K.z (OV.sv K.o) (by omega))
            go_wp2_with (fail)
            refine HS.out.mono ?_
            rintro e w' ⟨rfl, nq, rfl⟩
            have hbe := K.L.bel.trans (below_drewN _ wo nq)
            have HAW := Lib.hid (awake07 _ (h.below hbe) (ht.below hbe))
            go_wp2_with (fail)
            refine HAW.out.mono ?_
            rintro e w8 ⟨rfl, hb8⟩
            go_wp2_with (fail)
            go_ret
            exact ⟨rfl, hbe.trans (hb8.mono hbe.size)⟩
  · have hfd : decide ((xs.length : Int) ≤ 400) = false := decide_eq_false (by omega)
    go_enter Tryd.func8, Tryd.ntmps8
    go_wp2_with (fail)
    refine (few_any w A xs.length c).mono ?_
    rw [hfd]
    rintro e w' ⟨rfl, rfl⟩
    go_wp2_with (fail)
    refine (awake07 w h ht).mono ?_
    rintro e w8 ⟨rfl, hb8⟩
    go_wp2_with (fail)
    go_ret
    exact ⟨rfl, hb8⟩
end Go.Proofs.YtglhplddjjoggaaDoor

/-
  Walks of the reference's sum, Customers, Lost.
-/
import Derived.Test.YtgpcojmdfmngeaaDoorR11
import Derived.Test.YtgpcojmdfmngeaaDoorGf
import Derived.Test.YtgpcojmdfmngeaaDoorGd
namespace Go.Proofs.YtgpcojmdfmngeaaDoor
open Go.RowKit
set_option maxHeartbeats 400000
set_option maxRecDepth 100000

set_option maxHeartbeats 2000000 in
theorem refSum_any (w : World) (S T : Nat → Prop) (A1 A2 : Option Addr) (c1 c2 : Nat) (ns : List Node) (ds : List Dev) (hn : NetIn w S A1 A2 ns ds) (hcu : ∀ x ∈ ns, 0 ≤ x.cust ∧ x.cust ≤ 1048576)
    (V : Option Addr) (cv : Nat) (vs : List Int) (hv : SI w T V vs) (hvl : vs.length ≤ 65536) (hin : ∀ v ∈ vs, 0 ≤ v ∧ v < ns.length) :
    Calls Tryd.prog 154 #[.agg #[.slice A1 ns.length c1, .slice A2 ds.length c2], .slice V vs.length cv] w fun e w' => e = .returned (.int .i64 (custF ns vs)) ∧ Below w.heap.size w w' := by
  have hb := (Below.refl w.heap.size w).alloc (Nat.le_refl _) (.cells #[.slice A1 ns.length c1, .slice A2 ds.length c2] 26)
  have HN := hn.below hb
  have HV := hv.keep (Kept.of_below hb)
  have Hin := Lib.hid hin
  have Hcu := Lib.hid hcu
  have Hat := Lib.hid (fun (v : Nat) (hv : v < ns.length) => custAt_nat hv)
  clear hin hcu
  go_enter Tryd.func154, Tryd.ntmps154
  go_wp2_with (fail)
  go_loopg [5, 6] vs.length (fun g s i wr => ∃ k : Nat, k + g = vs.length ∧ i = .int .i64 k ∧ s = .int .i64 (custF ns (vs.take k)) ∧ Below w.heap.size (w.alloc (.cells #[.slice A1 ns.length c1, .slice A2 ds.length c2] 26)) wr ∧ Below (w.heap.size + 1) (w.alloc (.cells #[.slice A1 ns.length c1, .slice A2 ds.length c2] 26)) wr)
  case atStart => exact ⟨0, by omega, rfl, rfl, Below.refl _ _, Below.refl _ _⟩
  case round =>
    obtain ⟨k, hk, rfl, rfl, hB, hB2⟩ := hrel
    have Hk := Lib.hid hk
    clear hk
    have n0 : wr.cell? ⟨w.heap.size, 0, none⟩ = some (.slice A1 ns.length c1) := by rw [cell_of_row wr _ 0 _ _ _ ((hB2.block w.heap.size (by omega)).trans (heap_alloc_new w _))]; rfl
    by_cases hlt : k < vs.length
    · obtain ⟨b, off, rfl, _, _, q⟩ := (HV.keep (Kept.of_below (hB2.mono (by simp)))).at_ hlt
      have hm := Hin.out vs[k] (List.getElem_mem hlt)
      obtain ⟨j, hj⟩ : ∃ j : Nat, vs[k] = (j : Int) := ⟨vs[k].toNat, by omega⟩
      have ht : vs.take (k + 1) = vs.take k ++ [vs[k]] := List.take_succ_eq_append_getElem hlt
      rw [hj] at q hm ht
      have hjn : j < ns.length := by omega
      obtain ⟨b2, off2, rfl, _, _, p0, p1, p2⟩ := (HN.keep (Kept.of_below (hB2.mono (by simp)))).node hjn
      have hcf := custF_snoc ns (vs.take k) (j : Int)
      rw [← ht, Hat.out j hjn] at hcf
      have h1 := custF_bound Hcu.out (vs.take k)
      have h2 := Hcu.out ns[j] (List.getElem_mem hjn)
      have h3 : ((vs.take k).length : Int) ≤ 65536 := by simp; omega
      have Hcf := Lib.hid hcf
      clear hcf ht hj hm
      generalize custF ns (vs.take k) = s0 at *
      generalize ns[j].cust = cj at *
      have h4 : 0 ≤ s0 ∧ s0 ≤ 68719476736 := by omega
      clear h1 h3
      go_wp2_with (go_quiet (fail))
      go_roundg (gk - 1)
      case measure => have := Hk.out; omega
      case rel => exact ⟨k + 1, by have := Hk.out; omega, by go_num, by rw [Hcf.out], hB.trans (below_drewN _ _ nq), hB2.trans (below_drewN _ _ nq)⟩
    · have hkn : vs.take k = vs := List.take_of_length_le (by omega)
      rw [hkn]
      go_wp2_with (fail)
      go_ret
      exact ⟨rfl, hb.trans hB⟩

theorem refSum_nil (w : World) (A1 A2 : Option Addr) (n1 c1 n2 c2 : Nat) (V : Option Addr) (cv : Nat) (ns : List Node) :
    Calls Tryd.prog 154 #[.agg #[.slice A1 n1 c1, .slice A2 n2 c2], .slice V ([] : List Int).length cv] w fun e w' => e = .returned (.int .i64 (custF ns [])) ∧ Below w.heap.size w w' := by
  have hb := (Below.refl w.heap.size w).alloc (Nat.le_refl _) (.cells #[.slice A1 n1 c1, .slice A2 n2 c2] 26)
  show Calls Tryd.prog 154 #[.agg #[.slice A1 n1 c1, .slice A2 n2 c2], .slice V 0 cv] w fun e w' => e = .returned (.int .i64 0) ∧ Below w.heap.size w w'
  go_enter Tryd.func154, Tryd.ntmps154
  go_wp2_with (fail)
  go_loopg [5, 6] 0 (fun _ s i wr => i = .int .i64 0 ∧ s = .int .i64 0 ∧ wr = w.alloc (.cells #[.slice A1 n1 c1, .slice A2 n2 c2] 26))
  case atStart => exact ⟨rfl, rfl, rfl⟩
  case round =>
    obtain ⟨rfl, rfl, rfl⟩ := hrel
    go_wp2_with (fail)
    go_ret
    exact ⟨rfl, hb⟩

set_option maxHeartbeats 2000000 in
theorem refCustomers_any (w : World) (S : Nat → Prop) (A1 A2 : Option Addr) (c1 c2 : Nat) (ns : List Node) (ds : List Dev) (hn : NetIn w S A1 A2 ns ds) (hl1 : ns.length ≤ 65536) (hl2 : ds.length ≤ 65536)
    (U : Option Addr) (cu : Nat) (st : List Int) (hs : SI w S U st) (hsl : st.length ≤ 65536) :
    Calls Tryd.prog 99 #[.agg #[.slice A1 ns.length c1, .slice A2 ds.length c2], .slice U st.length cu] w (RetPair w (custF ns (suppliedE ns ds st).1, (suppliedE ns ds st).2)) := by
  have hb := (Below.refl w.heap.size w).alloc (Nat.le_refl _) (.cells #[.slice A1 ns.length c1, .slice A2 ds.length c2] 26)
  have HC := Lib.hid (refSupplied_any _ S A1 A2 c1 c2 ns ds (hn.below hb) hl1 hl2 U cu st (hs.keep (Kept.of_below hb)) hsl)
  have hlen := suppliedE_len ns ds st
  have hok := @suppliedE_ok ns ds st
  generalize suppliedE ns ds st = r at *
  obtain ⟨vs, ce⟩ := r
  have hlen : vs.length ≤ ns.length := hlen
  go_enter Tryd.func99, Tryd.ntmps99
  go_wp2_with (fail)
  refine (HC.out).mono ?_
  rintro e w1 ⟨A, c, rfl, ho1, hb1⟩
  have hbA := hb.trans (hb1.mono hb.size)
  have Hbox := Lib.hid (box_at hb1)
  have n0 : w1.cell? ⟨w.heap.size, 0, none⟩ = some (.slice A1 ns.length c1) := by rw [cell_of_row w1 _ 0 _ _ _ Hbox.out]; rfl
  have n1 : w1.cell? ⟨w.heap.size, 1, none⟩ = some (.slice A2 ds.length c2) := by rw [cell_of_row w1 _ 1 _ _ _ Hbox.out]; rfl
  have HQ : Calls Tryd.prog 154 #[.agg #[.slice A1 ns.length c1, .slice A2 ds.length c2], .slice A vs.length c] w1 fun e w' => e = .returned (.int .i64 (custF ns vs)) ∧ Below w1.heap.size w1 w' := by
    by_cases he : vs = []
    · subst he
      exact refSum_nil w1 A1 A2 ns.length c1 ds.length c2 A c ns
    · obtain ⟨v, hv⟩ := List.exists_mem_of_ne_nil vs he
      exact refSum_any w1 S _ A1 A2 c1 c2 ns ds (hn.below hbA) (checkL_cust (hok v hv).1) A c vs (OI.si ho1) (by omega) (fun v hv => (hok v hv).2)
  have HQ := Lib.hid HQ
  go_wp2_with (fail)
  refine (HQ.out).mono ?_
  rintro e w2 ⟨rfl, hb2⟩
  go_wp2_with (fail)
  go_ret2
  exact ⟨rfl, hbA.trans (hb2.mono hbA.size)⟩

set_option maxHeartbeats 4000000 in
theorem refLost_any (w : World) (S : Nat → Prop) (A1 A2 : Option Addr) (c1 c2 : Nat) (ns : List Node) (ds : List Dev) (hn : NetIn w S A1 A2 ns ds) (hl1 : ns.length ≤ 65536) (hl2 : ds.length ≤ 65536)
    (U : Option Addr) (cu : Nat) (s : List Int) (hs : SI w S U s) (hsl : s.length ≤ 65536) (V : Option Addr) (cv : Nat) (t : List Int) (hs2 : SI w S V t) (hsl2 : t.length ≤ 65536) :
    Calls Tryd.prog 103 #[.agg #[.slice A1 ns.length c1, .slice A2 ds.length c2], .slice U s.length cu, .slice V t.length cv] w (RetIIE w (lostE ns ds s t)) := by
  have hb := (Below.refl w.heap.size w).alloc (Nat.le_refl _) (.cells #[.slice A1 ns.length c1, .slice A2 ds.length c2] 26)
  have HC := refSupplied_any _ S A1 A2 c1 c2 ns ds (hn.below hb) hl1 hl2 U cu s (hs.keep (Kept.of_below hb)) hsl
  have HC2 := fun (w' : World) (hb : Below w.heap.size w w') => refSupplied_any w' S A1 A2 c1 c2 ns ds (hn.below hb) hl1 hl2 V cv t (hs2.keep (Kept.of_below hb)) hsl2
  have HE := Lib.hid (show lostE ns ds s t = if maskC isPos ns ds s ≠ 0 then ([], 0, maskC isPos ns ds s) else if maskC isPos ns ds t ≠ 0 then ([], 0, maskC isPos ns ds t) else (lostL (supL ns ds s) (supL ns ds t), custF ns (lostL (supL ns ds s) (supL ns ds t)), 0) from rfl)
  have HZ := Lib.hid (@maskC_zero isPos ns ds s)
  have hla := supL_len ns ds s
  have hlb := supL_len ns ds t
  have HA := Lib.hid (supL_in ns ds s)
  unfold suppliedE at HC HC2
  generalize maskC isPos ns ds s = ce at *
  generalize maskC isPos ns ds t = cf at *
  generalize supL ns ds s = la at *
  generalize supL ns ds t = lb at *
  by_cases h0 : (ce != 0) = true
  · have H0 := Lib.hid (show ¬ ce = 0 by simpa using h0)
    rw [if_pos H0.out] at HC
    have HC := Lib.hid HC
    go_enter Tryd.func103, Tryd.ntmps103
    go_wp2_with (fail)
    refine (HC.out).mono ?_
    rintro e w1 ⟨A, c, rfl, ho1, hb1⟩
    go_wp2_with (fail)
    go_ret3
    rw [HE.out, if_pos H0.out]
    exact ⟨none, 0, rfl, OI.nil _ _, hb.trans (hb1.mono hb.size)⟩
  · have h0' : (ce != 0) = false := by simpa using h0
    have hz : ce = 0 := by simpa using h0
    rw [if_neg (by simpa using hz)] at HE HC
    have HC := Lib.hid HC
    obtain ⟨z1, z2, z3⟩ := HZ.out hz
    have HN := Lib.hid (checkL_cust z1)
    clear h0 h0' hz HZ z1 z2 z3
    by_cases h0 : (cf != 0) = true
    · have H0 := Lib.hid (show ¬ cf = 0 by simpa using h0)
      simp only [if_pos H0.out] at HC2
      rw [if_pos H0.out] at HE
      have HC2 := Lib.hid HC2
      go_enter Tryd.func103, Tryd.ntmps103
      go_wp2_with (fail)
      refine (HC.out).mono ?_
      rintro e w1 ⟨A, c, rfl, ho1, hb1⟩
      have hbA := hb.trans (hb1.mono hb.size)
      have Hbox := Lib.hid (box_at hb1)
      have n0 : w1.cell? ⟨w.heap.size, 0, none⟩ = some (.slice A1 ns.length c1) := by rw [cell_of_row w1 _ 0 _ _ _ Hbox.out]; rfl
      have n1 : w1.cell? ⟨w.heap.size, 1, none⟩ = some (.slice A2 ds.length c2) := by rw [cell_of_row w1 _ 1 _ _ _ Hbox.out]; rfl
      go_wp2_with (fail)
      refine (HC2.out w1 hbA).mono ?_
      rintro e w2 ⟨A', c', rfl, ho2, hb2⟩
      go_wp2_with (fail)
      go_ret3
      rw [HE.out]
      exact ⟨none, 0, rfl, OI.nil _ _, hbA.trans (hb2.mono hbA.size)⟩
    · have h0' : (cf != 0) = false := by simpa using h0
      have hz : cf = 0 := by simpa using h0
      rw [if_neg (by simpa using hz)] at HE
      simp only [ne_eq, hz, not_true_eq_false, if_false] at HC2
      have HC2 := Lib.hid HC2
      clear h0 hz
      go_enter Tryd.func103, Tryd.ntmps103
      go_wp2_with (fail)
      refine (HC.out).mono ?_
      rintro e w1 ⟨A, c, rfl, ho1, hb1⟩
      have hbA := hb.trans (hb1.mono hb.size)
      have Hbox := Lib.hid (box_at hb1)
      have n0 : w1.cell? ⟨w.heap.size, 0, none⟩ = some (.slice A1 ns.length c1) := by rw [cell_of_row w1 _ 0 _ _ _ Hbox.out]; rfl
      have n1 : w1.cell? ⟨w.heap.size, 1, none⟩ = some (.slice A2 ds.length c2) := by rw [cell_of_row w1 _ 1 _ _ _ Hbox.out]; rfl
      go_wp2_with (fail)
      refine (HC2.out w1 hbA).mono ?_
      rintro e w2 ⟨A', c', rfl, ho2, hb2⟩
      have hbB := hbA.trans (hb2.mono hbA.size)
      have sA := (OI.si ho1).keep (Kept.of_below hb2)
      have sB := OI.si ho2
      have m0 := (hb2.cell (p := ⟨w.heap.size, 0, none⟩) (World.block_lt_of_cell? _ _ n0)).trans n0
      have m1 := (hb2.cell (p := ⟨w.heap.size, 1, none⟩) (World.block_lt_of_cell? _ _ n1)).trans n1
      clear Hbox ho1 ho2 HC HC2 n0 n1 hb1 hb2 hb hbA
      go_wp2_with (fail)
      go_loopg [12, 13] la.length (fun g v i wr => ∃ (k : Nat) (A3 : Option Addr) (c3 : Nat), k + g = la.length ∧ i = .int .i64 k ∧ v = .slice A3 (lostL (la.take k) lb).length c3 ∧ OI wr (fun g => w2.heap.size ≤ g) A3 c3 (lostL (la.take k) lb) ∧ Below w2.heap.size w2 wr)
      case atStart => exact ⟨0, none, 0, by omega, rfl, rfl, OI.nil _ _, Below.refl _ _⟩
      case round =>
        obtain ⟨k, A3, c3, hk, rfl, rfl, hown, hbel⟩ := hrel
        have Hk := Lib.hid hk
        have hyl : (lostL (la.take k) lb).length ≤ k := by have := lostL_len (la.take k) lb; simp at this; omega
        clear hk
        by_cases hlt : k < la.length
        · obtain ⟨b, off, rfl, _, _, q⟩ := (sA.keep (Kept.of_below hbel)).at_ hlt
          have hs := lostL_snoc la lb k hlt
          have Hin := HA.out la[k] (List.getElem_mem hlt)
          have HH := refHas_any wr _ A' c' lb (sB.keep (Kept.of_below hbel)) (by omega) la[k]
          rw [List.contains_eq_mem] at hs
          generalize la[k] = x at *
          generalize decide (x ∈ lb) = cx at *
          have HH := Lib.hid HH
          cases cx
          · have Hs := Lib.hid (show lostL (la.take (k + 1)) lb = lostL (la.take k) lb ++ [x] by rw [hs]; rfl)
            clear hs
            go_wp2_with (fail)
            refine HH.out.mono ?_
            rintro e w3 ⟨rfl, rfl⟩
            have oP := OI.keep hown (Kept.alloc _ wr (.cells #[.int .i64 x] 3))
            have hzr := hbel.size
            go_wp2_with (at_builtin; go_must (refine wpList_push (B := w2.heap.size) rfl (.tmp 45) (.tmp 50) rfl (xs := lostL (la.take k) lb) (y := x) rfl rfl rfl oP (new_cell wr _ _) (by omega) (by simp; omega) ?_); intro A5 c5 w5 ho5 hb5 _ _)
            go_roundg (gk - 1)
            case measure => have := Hk.out; omega
            case rel => exact ⟨k + 1, A5, c5, by have := Hk.out; omega, by go_num, by rw [Hs.out]; simp, by rw [Hs.out]; exact ho5, (hbel.alloc hbel.size _).trans hb5⟩
          · have Hs := Lib.hid (show lostL (la.take (k + 1)) lb = lostL (la.take k) lb by rw [hs]; simp)
            clear hs
            go_wp2_with (fail)
            refine HH.out.mono ?_
            rintro e w3 ⟨rfl, rfl⟩
            go_wp2_with (fail)
            go_roundg (gk - 1)
            case measure => have := Hk.out; omega
            case rel => exact ⟨k + 1, A3, c3, by have := Hk.out; omega, by go_num, by rw [Hs.out], by rw [Hs.out]; exact hown, hbel⟩
        · have hkn : la.take k = la := List.take_of_length_le (by omega)
          rw [hkn] at hown hyl ⊢
          have hbC := hbB.trans (hbel.mono hbB.size)
          have k0 := (hbel.cell (p := ⟨w.heap.size, 0, none⟩) (World.block_lt_of_cell? _ _ m0)).trans m0
          have k1 := (hbel.cell (p := ⟨w.heap.size, 1, none⟩) (World.block_lt_of_cell? _ _ m1)).trans m1
          have HQ := Lib.hid (refSum_any wr S _ A1 A2 c1 c2 ns ds (hn.below hbC) HN.out A3 c3 (lostL la lb) (OI.si hown) (by have := lostL_len la lb; omega) (lostL_in HA.out))
          clear m0 m1
          generalize lostL la lb = ll at *
          go_wp2_with (fail)
          refine HQ.out.mono ?_
          rintro e w4 ⟨rfl, hb5⟩
          go_wp2_with (fail)
          go_ret3
          rw [HE.out]
          exact ⟨A3, c3, rfl, (hown.keep (Kept.of_below hb5)).mono (fun x _ hx => by have hx : w2.heap.size ≤ x := hx; have := hbB.size; show w.heap.size ≤ x; omega), hbC.trans (hb5.mono hbC.size)⟩
end Go.Proofs.YtgpcojmdfmngeaaDoor

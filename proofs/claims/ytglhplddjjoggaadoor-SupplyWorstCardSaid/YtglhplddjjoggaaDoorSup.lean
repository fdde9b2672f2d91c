/-
  Walks of supply.supplied, customers, Supplied, Customers.
-/
import Derived.Test.YtglhplddjjoggaaDoorBoth
import Derived.Test.YtglhplddjjoggaaDoorPSup
namespace Go.Proofs.YtglhplddjjoggaaDoor
open Go.RowKit
set_option maxHeartbeats 400000
set_option maxRecDepth 100000

theorem new_cell1 (w : World) (o : Obj) (u : Value) (t : TypeId) : ((w.alloc o).alloc (.cells #[u] t)).cell? ⟨w.heap.size + 1, 0, none⟩ = some u := by
  have e : (w.alloc o).heap.size = w.heap.size + 1 := by simp
  rw [← e]
  exact new_cell (w.alloc o) u t

set_option maxHeartbeats 2000000 in
theorem supplied_any (w : World) (S : Nat → Prop) (A1 A2 : Option Addr) (c1 c2 : Nat) (ns : List Node) (ds : List Dev) (hn : NetIn w S A1 A2 ns ds) (hD : DevsIn ns.length ds)
    (U : Option Addr) (cu : Nat) (st : List Int) (hs : SI w S U st) (hsl : st.length = ds.length) :
    Calls Tryd.prog 137 #[.agg #[.slice A1 ns.length c1, .slice A2 ds.length c2], .slice U st.length cu] w (RetOI w (supL ns ds st)) := by
  have hb := (Below.refl w.heap.size w).alloc (Nat.le_refl _) (.cells #[.slice A1 ns.length c1, .slice A2 ds.length c2] 26)
  have HB := Lib.hid (both_any _ S A1 A2 c1 c2 ns ds (hn.below hb) hD U cu st (hs.keep (Kept.of_below hb)) hsl)
  have HL := Lib.hid (show (colL ds st (partsL ns.length ds st)).length = ns.length by rw [colL_len, partsL_len])
  have HP := Lib.hid (show ∀ v : Nat, suppB ns ds st v = (decide (0 < custAt ns v) && (PO.at_ (colL ds st (partsL ns.length ds st)) v == 1)) from fun _ => rfl)
  have hfew := hD.few
  clear hD hsl hs
  unfold supL
  generalize suppB ns ds st = P at *
  generalize colL ds st (partsL ns.length ds st) = cs at *
  generalize partsL ns.length ds st = ps at *
  go_enter Tryd.func137, Tryd.ntmps137
  go_wp2_with (fail)
  refine (HB.out).mono ?_
  rintro e w1 ⟨g1, g2, rfl, ho1, ho2, hg1, hg2, hb1⟩
  have hbA := hb.trans (hb1.mono hb.size)
  have Hbox := Lib.hid (box_at hb1)
  have n0 : w1.cell? ⟨w.heap.size, 0, none⟩ = some (.slice A1 ns.length c1) := by rw [cell_of_row w1 _ 0 _ _ _ Hbox.out]; rfl
  have hn1 := hn.below hbA
  have hc1 := ho2.si
  clear HB hb1 ho1 hn Hbox
  go_wp2_with (fail)
  go_loopg [7, 19] ns.length (fun g v i wr => ∃ (k : Nat) (A' : Option Addr) (c' : Nat), k + g = ns.length ∧ i = .int .i64 k ∧ v = .slice A' (supN P k).length c' ∧ OI wr (fun g => w1.heap.size ≤ g) A' c' (supN P k) ∧ Below w1.heap.size w1 wr)
  case atStart => exact ⟨0, none, 0, by omega, rfl, rfl, OI.nil _ _, Below.refl _ _⟩
  case round =>
    obtain ⟨k, A', c', hk, rfl, rfl, hown, hbel⟩ := hrel
    have Hk := Lib.hid hk
    have hyl := supN_len P k
    clear hk n0
    by_cases hlt : k < ns.length
    · obtain ⟨b, off, rfl, _, _, q0, q1, q2⟩ := (hn1.below hbel).node hlt
      have hkc : k < cs.length := by rw [HL.out]; exact hlt
      have hbN := (Below.refl wr.heap.size wr).alloc (Nat.le_refl _) (.cells #[.string ns[k].name, .int .i64 ns[k].cust, .int .i64 ns[k].comp] 92)
      obtain ⟨g3, o3, e3, _, _, d1⟩ := ((hc1.keep (Kept.of_below hbel)).keep (Kept.of_below hbN)).at_ hkc
      injection e3 with e3
      injection e3 with e3 e4
      subst e3 e4
      rw [Nat.zero_add] at d1
      have hp := HP.out k
      rw [custAt_nat hlt, at_get hkc] at hp
      have hs1 : supN P (k + 1) = supN P k ++ (if P k then [(k : Int)] else []) := rfl
      generalize ns[k].cust = cu' at *
      generalize cs[k] = cl at *
      by_cases h1 : decide (0 < cu') = true
      · by_cases h2 : (cl == 1) = true
        · rw [h1, h2] at hp
          have Hs := Lib.hid (show supN P (k + 1) = supN P k ++ [(k : Int)] by rw [hs1, hp]; rfl)
          clear hs1 hp
          go_wp2_with (at_builtin; go_must (refine wpList_push (B := w1.heap.size) rfl (.tmp 34) (.tmp 36) rfl rfl rfl rfl ((hown.keep (Kept.alloc _ _ _)).keep (Kept.alloc _ _ _)) (new_cell1 _ _ _ _) (by omega) (by simp; have := hbel.size; omega) ?_); intro A1 c1 w1 ho1 hb1 _ _)
          go_roundg (gk - 1)
          case measure => have := Hk.out; omega
          case rel =>
            refine ⟨k + 1, _, _, by have := Hk.out; omega, by go_num, ?_, by rw [Hs.out]; exact ho1, ((hbel.alloc hbel.size _).alloc (by have := hbel.size; simp; omega) _).trans hb1⟩
            rw [Hs.out]; simp
        · have h2 : (cl == 1) = false := by simpa using h2
          rw [h1, h2] at hp
          have Hs := Lib.hid (show supN P (k + 1) = supN P k by rw [hs1, hp]; simp)
          clear hs1 hp
          go_wp2_with (fail)
          go_roundg (gk - 1)
          case measure => have := Hk.out; omega
          case rel => exact ⟨k + 1, _, _, by have := Hk.out; omega, by go_num, by rw [Hs.out], by rw [Hs.out]; exact hown.keep (Kept.alloc _ _ _), hbel.alloc hbel.size _⟩
      · have h1 : decide (0 < cu') = false := by simpa using h1
        rw [h1] at hp
        have Hs := Lib.hid (show supN P (k + 1) = supN P k by rw [hs1, hp]; simp)
        clear hs1 hp
        go_wp2_with (fail)
        go_roundg (gk - 1)
        case measure => have := Hk.out; omega
        case rel => exact ⟨k + 1, _, _, by have := Hk.out; omega, by go_num, by rw [Hs.out], by rw [Hs.out]; exact hown.keep (Kept.alloc _ _ _), hbel.alloc hbel.size _⟩
    · have hkn : k = ns.length := by have := Hk.out; omega
      subst hkn
      go_wp2_with (fail)
      go_ret
      exact ⟨A', c', rfl, hown.mono (fun x _ hx => by show w.heap.size ≤ x; have := hbA.size; have : w1.heap.size ≤ x := hx; omega), hbA.trans (hbel.mono hbA.size)⟩

theorem custAt_bound {ns : List Node} (h : ∀ x ∈ ns, 0 ≤ x.cust ∧ x.cust ≤ 1048576) (v : Int) : 0 ≤ custAt ns v ∧ custAt ns v ≤ 1048576 := by
  unfold custAt
  cases e : ns[v.toNat]? with
  | none => simp
  | some x => exact h x (List.mem_of_getElem? e)
theorem custF_bound {ns : List Node} (h : ∀ x ∈ ns, 0 ≤ x.cust ∧ x.cust ≤ 1048576) : ∀ vs : List Int, 0 ≤ custF ns vs ∧ custF ns vs ≤ 1048576 * (vs.length : Int)
  | [] => by simp [custF]
  | v :: vs => by
    have := custF_bound h vs
    have := custAt_bound h v
    have e : custF ns (v :: vs) = custAt ns v + custF ns vs := by simp [custF]
    rw [e, List.length_cons]
    omega

set_option maxHeartbeats 2000000 in
theorem customers_any (w : World) (S T : Nat → Prop) (A1 A2 : Option Addr) (c1 c2 : Nat) (ns : List Node) (ds : List Dev) (hn : NetIn w S A1 A2 ns ds) (hcu : ∀ x ∈ ns, 0 ≤ x.cust ∧ x.cust ≤ 1048576)
    (V : Option Addr) (cv : Nat) (vs : List Int) (hv : SI w T V vs) (hvl : vs.length ≤ 65536) (hin : ∀ v ∈ vs, 0 ≤ v ∧ v < ns.length) :
    Calls Tryd.prog 134 #[.agg #[.slice A1 ns.length c1, .slice A2 ds.length c2], .slice V vs.length cv] w fun e w' => e = .returned (.int .i64 (custF ns vs)) ∧ Below w.heap.size w w' := by
  have hb := (Below.refl w.heap.size w).alloc (Nat.le_refl _) (.cells #[.slice A1 ns.length c1, .slice A2 ds.length c2] 26)
  have HN := hn.below hb
  have HV := hv.keep (Kept.of_below hb)
  have Hin := Lib.hid hin
  have Hcu := Lib.hid hcu
  have Hat := Lib.hid (fun (v : Nat) (hv : v < ns.length) => custAt_nat hv)
  clear hin hcu
  go_enter Tryd.func134, Tryd.ntmps134
  go_wp2_with (fail)
  go_loopg [5, 10] vs.length (fun g s i wr => ∃ k : Nat, k + g = vs.length ∧ i = .int .i64 k ∧ s = .int .i64 (custF ns (vs.take k)) ∧ wr = w.alloc (.cells #[.slice A1 ns.length c1, .slice A2 ds.length c2] 26))
  case atStart => exact ⟨0, by omega, rfl, rfl, rfl⟩
  case round =>
    obtain ⟨k, hk, rfl, rfl, rfl⟩ := hrel
    have Hk := Lib.hid hk
    clear hk
    by_cases hlt : k < vs.length
    · obtain ⟨b, off, rfl, _, _, q⟩ := HV.at_ hlt
      have hm := Hin.out vs[k] (List.getElem_mem hlt)
      obtain ⟨j, hj⟩ : ∃ j : Nat, vs[k] = (j : Int) := ⟨vs[k].toNat, by omega⟩
      have ht : vs.take (k + 1) = vs.take k ++ [vs[k]] := List.take_succ_eq_append_getElem hlt
      rw [hj] at q hm ht
      have hjn : j < ns.length := by omega
      obtain ⟨b2, off2, rfl, _, _, p0, p1, p2⟩ := HN.node hjn
      have hcf := custF_snoc ns (vs.take k) (j : Int)
      rw [← ht, Hat.out j hjn] at hcf
      have h1 := custF_bound Hcu.out (vs.take k)
      have h2 := Hcu.out ns[j] (List.getElem_mem hjn)
      have h3 : ((vs.take k).length : Int) ≤ 65536 := by simp; omega
      have Hcf := Lib.hid hcf
      clear hcf ht hj hm
      generalize custF ns (vs.take k) = s0 at *
      generalize ns[j].cust = cj at *
      have h4 : 0 ≤ s0 ∧ s0 ≤ 68719476736 := by omega
      clear h1 h3
      go_wp2_with (fail)
      go_roundg (gk - 1)
      case measure => have := Hk.out; omega
      case rel => exact ⟨k + 1, by have := Hk.out; omega, by go_num, by rw [Hcf.out], rfl⟩
    · have hkn : vs.take k = vs := List.take_of_length_le (by omega)
      rw [hkn]
      go_wp2_with (fail)
      go_ret
      exact ⟨rfl, hb⟩

theorem customers_nil (w : World) (A1 A2 : Option Addr) (n1 c1 n2 c2 : Nat) (V : Option Addr) (cv : Nat) (ns : List Node) :
    Calls Tryd.prog 134 #[.agg #[.slice A1 n1 c1, .slice A2 n2 c2], .slice V ([] : List Int).length cv] w fun e w' => e = .returned (.int .i64 (custF ns [])) ∧ Below w.heap.size w w' := by
  have hb := (Below.refl w.heap.size w).alloc (Nat.le_refl _) (.cells #[.slice A1 n1 c1, .slice A2 n2 c2] 26)
  show Calls Tryd.prog 134 #[.agg #[.slice A1 n1 c1, .slice A2 n2 c2], .slice V 0 cv] w fun e w' => e = .returned (.int .i64 0) ∧ Below w.heap.size w w'
  go_enter Tryd.func134, Tryd.ntmps134
  go_wp2_with (fail)
  go_loopg [5, 10] 0 (fun _ s i wr => i = .int .i64 0 ∧ s = .int .i64 0 ∧ wr = w.alloc (.cells #[.slice A1 n1 c1, .slice A2 n2 c2] 26))
  case atStart => exact ⟨rfl, rfl, rfl⟩
  case round =>
    obtain ⟨rfl, rfl, rfl⟩ := hrel
    go_wp2_with (fail)
    go_ret
    exact ⟨rfl, hb⟩

def suppliedE (ns : List Node) (ds : List Dev) (st : List Int) : List Int × Int := if maskC isPos ns ds st ≠ 0 then ([], maskC isPos ns ds st) else (supL ns ds st, 0)

set_option maxHeartbeats 2000000 in
theorem Supplied_any (w : World) (h : TabC w) (ht : Tab w) (S : Nat → Prop) (A1 A2 : Option Addr) (c1 c2 : Nat) (ns : List Node) (ds : List Dev) (hn : NetIn w S A1 A2 ns ds) (hl1 : ns.length ≤ 65536) (hl2 : ds.length ≤ 65536)
    (U : Option Addr) (cu : Nat) (st : List Int) (hs : SI w S U st) (hsl : st.length ≤ 65536) :
    Calls Tryd.prog 133 #[.agg #[.slice A1 ns.length c1, .slice A2 ds.length c2], .slice U st.length cu] w (RetIE w (suppliedE ns ds st)) := by
  have hb := (Below.refl w.heap.size w).alloc (Nat.le_refl _) (.cells #[.slice A1 ns.length c1, .slice A2 ds.length c2] 26)
  have HC := Lib.hid (mstate_any _ (h.below hb) (ht.below hb) S A1 A2 c1 c2 ns ds (hn.below hb) hl1 hl2 U cu st (hs.keep (Kept.of_below hb)) hsl)
  have HZ := Lib.hid (@maskC_zero isPos ns ds st)
  have HE := Lib.hid (show suppliedE ns ds st = if maskC isPos ns ds st ≠ 0 then ([], maskC isPos ns ds st) else (supL ns ds st, 0) from rfl)
  generalize maskC isPos ns ds st = ce at *
  by_cases h0 : (ce != 0) = true
  · have H0 := Lib.hid (show ¬ ce = 0 by simpa using h0)
    go_enter Tryd.func133, Tryd.ntmps133
    go_wp2_with (fail)
    refine (HC.out).mono ?_
    rintro e w1 ⟨rfl, hb1⟩
    go_wp2_with (fail)
    go_ret2
    rw [HE.out, if_pos H0.out]
    exact ⟨none, 0, rfl, OI.nil _ _, hb.trans (hb1.mono hb.size)⟩
  · have h0' : (ce != 0) = false := by simpa using h0
    have hz : ce = 0 := by simpa using h0
    obtain ⟨z1, z2, z3⟩ := HZ.out hz
    have hD := checkL_zero z1
    rw [if_neg (by simpa using hz)] at HE
    have Z2 := Lib.hid z2
    clear h0 hz HZ z1 z2 z3
    go_enter Tryd.func133, Tryd.ntmps133
    go_wp2_with (fail)
    refine (HC.out).mono ?_
    rintro e w1 ⟨rfl, hb1⟩
    have hbA := hb.trans (hb1.mono hb.size)
    have Hbox := Lib.hid (box_at hb1)
    have n0 : w1.cell? ⟨w.heap.size, 0, none⟩ = some (.slice A1 ns.length c1) := by rw [cell_of_row w1 _ 0 _ _ _ Hbox.out]; rfl
    have n1 : w1.cell? ⟨w.heap.size, 1, none⟩ = some (.slice A2 ds.length c2) := by rw [cell_of_row w1 _ 1 _ _ _ Hbox.out]; rfl
    have HP := Lib.hid (supplied_any w1 S A1 A2 c1 c2 ns ds (hn.below hbA) hD U cu st (hs.keep (Kept.of_below hbA)) Z2.out)
    go_wp2_with (fail)
    refine (HP.out).mono ?_
    rintro e w2 ⟨A, c, rfl, ho, hb2⟩
    go_wp2_with (fail)
    go_ret2
    rw [HE.out]
    exact ⟨A, c, rfl, ho.mono (fun x _ hx => by show w.heap.size ≤ x; have := hbA.size; have : w1.heap.size ≤ x := hx; omega), hbA.trans (hb2.mono hbA.size)⟩

theorem suppliedE_ok {ns : List Node} {ds : List Dev} {st : List Int} (v : Int) (hv : v ∈ (suppliedE ns ds st).1) : checkL ns ds = 0 ∧ 0 ≤ v ∧ v < ns.length := by
  unfold suppliedE at hv
  split at hv
  · simp at hv
  · rename_i h0
    exact ⟨(maskC_zero (by simpa using h0)).1, supL_in ns ds st v hv⟩
theorem suppliedE_len (ns : List Node) (ds : List Dev) (st : List Int) : (suppliedE ns ds st).1.length ≤ ns.length := by
  unfold suppliedE
  split
  · simp
  · exact supL_len ns ds st

set_option maxHeartbeats 2000000 in
theorem Customers_any (w : World) (h : TabC w) (ht : Tab w) (S : Nat → Prop) (A1 A2 : Option Addr) (c1 c2 : Nat) (ns : List Node) (ds : List Dev) (hn : NetIn w S A1 A2 ns ds) (hl1 : ns.length ≤ 65536) (hl2 : ds.length ≤ 65536)
    (U : Option Addr) (cu : Nat) (st : List Int) (hs : SI w S U st) (hsl : st.length ≤ 65536) :
    Calls Tryd.prog 83 #[.agg #[.slice A1 ns.length c1, .slice A2 ds.length c2], .slice U st.length cu] w (RetPair w (custF ns (suppliedE ns ds st).1, (suppliedE ns ds st).2)) := by
  have hb := (Below.refl w.heap.size w).alloc (Nat.le_refl _) (.cells #[.slice A1 ns.length c1, .slice A2 ds.length c2] 26)
  have HC := Lib.hid (Supplied_any _ (h.below hb) (ht.below hb) S A1 A2 c1 c2 ns ds (hn.below hb) hl1 hl2 U cu st (hs.keep (Kept.of_below hb)) hsl)
  have hlen := suppliedE_len ns ds st
  have hok := @suppliedE_ok ns ds st
  generalize suppliedE ns ds st = r at *
  obtain ⟨vs, ce⟩ := r
  have hlen : vs.length ≤ ns.length := hlen
  go_enter Tryd.func83, Tryd.ntmps83
  go_wp2_with (fail)
  refine (HC.out).mono ?_
  rintro e w1 ⟨A, c, rfl, ho1, hb1⟩
  have hbA := hb.trans (hb1.mono hb.size)
  have Hbox := Lib.hid (box_at hb1)
  have n0 : w1.cell? ⟨w.heap.size, 0, none⟩ = some (.slice A1 ns.length c1) := by rw [cell_of_row w1 _ 0 _ _ _ Hbox.out]; rfl
  have n1 : w1.cell? ⟨w.heap.size, 1, none⟩ = some (.slice A2 ds.length c2) := by rw [cell_of_row w1 _ 1 _ _ _ Hbox.out]; rfl
  have HQ : Calls Tryd.prog 134 #[.agg #[.slice A1 ns.length c1, .slice A2 ds.length c2], .slice A vs.length c] w1 fun e w' => e = .returned (.int .i64 (custF ns vs)) ∧ Below w1.heap.size w1 w' := by
    by_cases he : vs = []
    · subst he
      exact customers_nil w1 A1 A2 ns.length c1 ds.length c2 A c ns
    · obtain ⟨v, hv⟩ := List.exists_mem_of_ne_nil vs he
      exact customers_any w1 S _ A1 A2 c1 c2 ns ds (hn.below hbA) (checkL_cust (hok v hv).1) A c vs (OI.si ho1) (by omega) (fun v hv => (hok v hv).2)
  have HQ := Lib.hid HQ
  go_wp2_with (fail)
  refine (HQ.out).mono ?_
  rintro e w2 ⟨rfl, hb2⟩
  go_wp2_with (fail)
  go_ret2
  exact ⟨rfl, hbA.trans (hb2.mono hbA.size)⟩
end Go.Proofs.YtglhplddjjoggaaDoor

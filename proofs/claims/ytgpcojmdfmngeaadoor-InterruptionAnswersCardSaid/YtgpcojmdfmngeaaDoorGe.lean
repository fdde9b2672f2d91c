/-
  The walk of network.Flood with the functions that colour.parts hands to it: which nodes are reached over closed devices.
  The walk of colour.parts: the least node of each node's part.
  The walk of colour.colours; maps from int to int.
  Walks of mask.position, mask.check, mask.State.
  Plain: the number of a part is the least node that reaches it.
  Walks of colour.Parts, Colours, Faults, Joined.
  Plain: parts depend on the devices that join alone; what the sources and the earths give to the colours.
  Plain: what closing one device does to parts and colours.
  The walk of colour.Both.
  Plain: which nodes are supplied, and how many customers they have.
  Walks of supply.supplied, customers, Supplied, Customers.
-/
import Derived.Test.YtgpcojmdfmngeaaDoorGk
import Derived.Test.YtgpcojmdfmngeaaDoorGa
import Derived.BigQuiet
namespace Go.Proofs.YtgpcojmdfmngeaaDoor
open Go.RowKit
set_option maxHeartbeats 400000
set_option maxRecDepth 100000

def marks (oc : List Int) : List Bool := oc.map (fun x => decide (0 ≤ x))
theorem marks_len (oc : List Int) : (marks oc).length = oc.length := by simp [marks]
theorem marks_at (oc : List Int) (u : Nat) (h : u < (marks oc).length) : (marks oc)[u] = decide (0 ≤ PO.at_ oc u) := by
  rw [marks_len] at h
  simp [marks, PO.at_, h]
theorem marks_set (oc : List Int) (u : Nat) (x : Int) (hx : 0 ≤ x) : (marks oc).set u true = marks (oc.set u x) := by
  unfold marks
  rw [List.map_set, decide_eq_true hx]
theorem marks_rep (n : Nat) : marks (List.replicate n (-1)) = List.replicate n false := by simp [marks]

/-- the distances over closed devices, of all nodes from some -/
def useOf (st : List Int) : List Bool := st.map (fun p => p == 2)
def floodD (n : Nat) (ds : List Dev) (st : List Int) (gs : List Nat) : List Int := PO.bfs (nbZ (ds.zip (useOf st))) (PO.negs (PO.mark (List.replicate n (-1)) gs) + gs.length) (PO.mark (List.replicate n (-1)) gs) gs

theorem closed_any (w : World) (S : Nat → Prop) (U : Option Addr) (cu : Nat) (st : List Int) (hs : SI w S U st) (bs : Nat) (hc : w.cell? ⟨bs, 0, none⟩ = some (.slice U st.length cu)) (i : Nat) (hi : i < st.length) :
    Calls Tryd.prog 162 #[.int .i64 i, .pointer (some ⟨bs, 0, none⟩)] w fun e w' => e = .returned (.bool (st[i] == 2)) ∧ w = w' := by
  obtain ⟨b, off, rfl, _, _, q⟩ := hs.at_ hi
  go_enter Tryd.func162, Tryd.ntmps162
  go_wp2_with (fail)
  go_ret
  exact ⟨rfl, rfl⟩
theorem never_any (w : World) (i : Int) : Calls Tryd.prog 163 #[.int .i64 i] w fun e w' => e = .returned (.bool false) ∧ w = w' := by
  go_enter Tryd.func163, Tryd.ntmps163
  go_wp2_with (fail)
  go_ret
  exact ⟨rfl, rfl⟩
theorem goes_closed : Goes 162 := fun args w => by kernel_rfl
theorem goes_never : Goes 163 := fun args w => by kernel_rfl

/-- The blocks of the flood: the boxed network, the marks. -/
structure FSt (w : World) (v1 v2 : Value) (n : Nat) (wr : World) (oc : List Int) : Prop where
  box : wr.heap[w.heap.size]? = some (.cells #[v1, v2] 26 (0, 0))
  out : OB wr (w.heap.size + 1) n (marks oc)
  bel : Below w.heap.size w wr
section
variable {w wr w' : World} {v1 v2 : Value} {n : Nat} {oc : List Int}
theorem FSt.size (h : FSt w v1 v2 n wr oc) : w.heap.size + 2 ≤ wr.heap.size := (OV.block h.out _ rfl).2
theorem FSt.belowB (h : FSt w v1 v2 n wr oc) (hb : Below (w.heap.size + 2) wr w') : FSt w v1 v2 n w' oc :=
  ⟨(hb.block _ (by omega)).trans h.box, h.out.fr (hb.block _ (by omega)), h.bel.trans (hb.mono (by omega))⟩
theorem FSt.below (h : FSt w v1 v2 n wr oc) (hb : Below wr.heap.size wr w') : FSt w v1 v2 n w' oc := h.belowB (hb.mono h.size)
theorem FSt.set (h : FSt w v1 v2 n wr oc) (k : Nat) (x : Int) (hx : 0 ≤ x) : FSt w v1 v2 n (wr.setCell ⟨w.heap.size + 1, k, none⟩ (.bool true)) (oc.set k x) :=
  ⟨(Below.heap_setCell _ _ _ _ (by show w.heap.size ≠ w.heap.size + 1; omega)).trans h.box, by rw [← marks_set oc k x hx]; exact h.out.set k true, h.bel.setCell (by show w.heap.size ≤ w.heap.size + 1; omega) _⟩
theorem FSt.n0 (h : FSt w v1 v2 n wr oc) : wr.cell? ⟨w.heap.size, 0, none⟩ = some v1 := by rw [cell_of_row wr _ 0 _ _ _ h.box]; rfl
theorem FSt.n1 (h : FSt w v1 v2 n wr oc) : wr.cell? ⟨w.heap.size, 1, none⟩ = some v2 := by rw [cell_of_row wr _ 1 _ _ _ h.box]; rfl
end

/-- What stays true while a queue is worked off, for n nodes. -/
structure QOn (n : Nat) (out : List Int) (q : List Nat) : Prop where
  len : out.length = n
  mem : ∀ u ∈ q, u < n ∧ 0 ≤ PO.at_ out u
theorem QOn.step {n : Nat} {out : List Int} {q : List Nat} (h : QOn n out q) {v u : Nat} (hv : 0 ≤ PO.at_ out v) (hu : u < n) (hn : PO.at_ out u < 0) : QOn n (out.set u (PO.at_ out v + 1)) (q ++ [u]) ∧ PO.negs (out.set u (PO.at_ out v + 1)) + 1 = PO.negs out ∧ PO.at_ (out.set u (PO.at_ out v + 1)) v = PO.at_ out v := by
  have hne : u ≠ v := fun e => by rw [e] at hn; omega
  have hng := PO.negs_set (x := PO.at_ out v + 1) (by rw [h.len]; exact hu) hn (by omega)
  refine ⟨⟨by simp [h.len], fun x hx => ?_⟩, hng, by rw [PO.at_set, if_neg (by omega)]⟩
  rcases List.mem_append.1 hx with hx | hx
  · refine ⟨(h.mem x hx).1, ?_⟩
    rw [PO.at_set]
    split
    · omega
    · exact (h.mem x hx).2
  · obtain rfl : x = u := by simpa using hx
    refine ⟨hu, ?_⟩
    rw [PO.at_set, if_pos ⟨rfl, by rw [h.len]; exact hu⟩]; omega
theorem start_n (n : Nat) (gs : List Nat) (hg : ∀ g ∈ gs, g < n) : QOn n (PO.mark (List.replicate n (-1)) gs) gs := by
  refine ⟨by rw [PO.mark_len]; simp, fun u hu => ⟨hg u hu, ?_⟩⟩
  rw [PO.at_mark _ _ _ (by simpa using hg), if_pos hu]; omega

set_option maxHeartbeats 4000000 in
theorem flood_any (w : World) (S : Nat → Prop) (A1 A2 : Option Addr) (c1 c2 : Nat) (ns : List Node) (ds : List Dev) (hn : NetIn w S A1 A2 ns ds) (hl1 : ns.length ≤ 32) (hl2 : ds.length ≤ 64)
    (U : Option Addr) (cu : Nat) (st : List Int) (hs : SI w S U st) (hsl : st.length = ds.length) (bs : Nat) (hc : w.cell? ⟨bs, 0, none⟩ = some (.slice U st.length cu))
    (G : Option Addr) (cg : Nat) (gs : List Nat) (hg : SI w S G (nats gs)) (hgl : gs.length ≤ 1000) (hgn : ∀ g ∈ gs, g < ns.length)
    (hd : ∀ d ∈ ds, ∀ v, acrossL d v < ns.length) :
    Calls Tryd.prog 164 #[.agg #[.slice A1 ns.length c1, .slice A2 ds.length c2], .slice G gs.length cg, .func (.func 162) #[] #[.pointer (some ⟨bs, 0, none⟩)], .func (.func 163) #[] #[]] w
      fun e w' => ∃ g, e = .returned (.slice (some ⟨g, 0, none⟩) ns.length ns.length) ∧ OB w' g ns.length (marks (floodD ns.length ds st gs)) ∧ w.heap.size ≤ g ∧ Below w.heap.size w w' := by
  have hgo := goes_closed
  unfold Goes at hgo
  have hgn2 := goes_never
  unfold Goes at hgn2
  have Hsl := Lib.hid hsl
  clear hsl
  obtain ⟨w2, hmk, ho2, hb2, hz2⟩ := make_bools (w.alloc (.cells #[.slice A1 ns.length c1, .slice A2 ds.length c2] 26)) ns.length (by omega)
  have D0 : FSt w (.slice A1 ns.length c1) (.slice A2 ds.length c2) ns.length w2 (List.replicate ns.length (-1)) :=
    ⟨(hb2.block _ (by simp)).trans (heap_alloc_new w _), by rw [marks_rep]; unfold OB; simpa using ho2, ((Below.refl _ _).alloc (Nat.le_refl _) _).trans (hb2.mono (by simp))⟩
  have hcl := clone_any w2 S G cg (nats gs) (hg.keep (Kept.of_below D0.bel)) (by rw [nats_len]; omega)
  rw [nats_len] at hcl
  have Hcl := Lib.hid hcl
  clear hcl hb2 hz2 ho2
  go_enter Tryd.func164, Tryd.ntmps164
  go_wp2_with (fail)
  refine (Hcl.out).mono ?_
  rintro e w3 ⟨Aq, cq, rfl, hoq, hb3⟩
  rw [nats_len]
  have D1 := D0.below hb3
  have hoq1 := hoq.mono (T := fun g => w.heap.size + 2 ≤ g) (fun g _ hg => by have := D0.size; show _ ≤ g; omega)
  go_wp2_with (fail)
  clear hoq Hcl D0 hb3 hmk
  go_loopg [24] gs.length (fun g i wr => ∃ (k : Nat) (out : List Int), k + g = gs.length ∧ i = .int .i64 k ∧ FSt w (.slice A1 ns.length c1) (.slice A2 ds.length c2) ns.length wr out ∧ out.length = ns.length ∧ PO.mark (List.replicate ns.length (-1)) gs = PO.mark out (gs.drop k) ∧ OI wr (fun g => w.heap.size + 2 ≤ g) Aq cq (nats gs))
  case atStart => exact ⟨0, _, by omega, rfl, D1, by simp, rfl, hoq1⟩
  case round =>
    clear D1 hoq1
    obtain ⟨k, out, hk, rfl, D, hol, hmk, hoq⟩ := hrel
    have Hk := Lib.hid hk
    have Hmk := Lib.hid hmk
    have Hol := Lib.hid hol
    clear hk hmk hol
    by_cases hlt : k < gs.length
    · have hgk : gs[k] < ns.length := hgn _ (List.getElem_mem hlt)
      obtain ⟨b, off, rfl, hS, hbl, q0⟩ := (hg.keep (Kept.of_below D.bel)).at_ (k := k) (by rw [nats_len]; exact hlt)
      have q0' : wr.cell? ⟨b, off + k, none⟩ = some (.int .i64 (gs[k] : Nat)) := by rw [q0]; simp [nats]
      obtain ⟨q1, q2, _⟩ := D.out.at_ (k := gs[k]) (by rw [marks_len, Hol.out]; exact hgk)
      clear q0
      go_wp2_with (fail)
      go_roundg (gk - 1)
      case measure => have := Hk.out; omega
      case rel =>
        refine ⟨k + 1, _, by have := Hk.out; omega, by go_num, D.set gs[k] 0 (by decide), by simp [Hol.out], ?_, hoq.keep (Kept.setCell (by show ¬ _ ≤ w.heap.size + 1; omega) _)⟩
        rw [Hmk.out, List.drop_eq_getElem_cons hlt]
        rfl
    · have hmk := Hmk.out
      rw [List.drop_of_length_le (by omega)] at hmk
      have hmk : PO.mark (List.replicate ns.length (-1)) gs = out := hmk
      have HD : Hid (floodD ns.length ds st gs = PO.bfs (nbZ (ds.zip (useOf st))) (PO.negs out + gs.length) out gs) := Lib.hid (by unfold floodD; rw [hmk])
      have hQ : QOn ns.length out gs := by rw [← hmk]; exact start_n ns.length gs hgn
      clear hmk Hmk Hk Hol
      go_wp2_with (fail)
      clear hlt
      obtain ⟨wo, rfl⟩ : ∃ wo : World, wo = wr := ⟨_, rfl⟩
      go_loopg [10] (PO.negs out + gs.length) (fun g v wr => ∃ (out : List Int) (q : List Nat) (A' : Option Addr) (c' : Nat), g = PO.negs out + q.length ∧ v = .slice A' q.length c' ∧ OI wr (fun g => w.heap.size + 2 ≤ g) A' c' (nats q) ∧ FSt w (.slice A1 ns.length c1) (.slice A2 ds.length c2) ns.length wr out ∧
        floodD ns.length ds st gs = PO.bfs (nbZ (ds.zip (useOf st))) g out q ∧ QOn ns.length out q ∧ PO.negs out + q.length ≤ 2000)
      case atStart => exact ⟨out, gs, Aq, cq, rfl, rfl, hoq, D, HD.out, hQ, by have := negs_le out; rw [hQ.len] at this; omega⟩
      case round =>
        clear D HD hQ hoq
        obtain ⟨out, q, A', c', hgk, rfl, hown, D, hdi, hQ, hql⟩ := hrel
        have Hgk := Lib.hid hgk
        have Hdi := Lib.hid hdi
        clear hgk hdi
        have n1 := D.n1
        cases q with
        | nil =>
          have hdi := Hdi.out
          have hdd : PO.bfs (nbZ (ds.zip (useOf st))) gk out [] = out := by cases gk <;> rfl
          rw [hdd] at hdi
          have Hdi := Lib.hid hdi
          clear hdi hdd
          go_wp2_with (fail)
          go_ret
          exact ⟨w.heap.size + 1, rfl, by rw [Hdi.out]; exact D.out, by omega, D.bel⟩
        | cons v q =>
          obtain ⟨g', off', rfl, hgB, hgl', hc0, _⟩ := hown.at_ (k := 0) (by simp [nats])
          have hc0' : wr.cell? ⟨g', off', none⟩ = some (.int .i64 (v : Nat)) := by simpa [nats] using hc0
          clear hc0
          have hv := hQ.mem v (by simp)
          have hQ' : QOn ns.length out q := ⟨hQ.len, fun u hu => hQ.mem u (by simp [hu])⟩
          go_wp2_with (fail)
          refine (never_any wr v).mono ?_
          rintro e w' ⟨rfl, rfl⟩
          go_wp2_with (fail)
          obtain ⟨wp, rfl⟩ : ∃ wp : World, wp = wr := ⟨_, rfl⟩
          obtain ⟨go, rfl⟩ : ∃ x : Nat, x = gk := ⟨_, rfl⟩
          go_loopg [10, 45] ds.length (fun g s10 i wr => ∃ (m : Nat) (oc : List Int) (qc : List Nat) (A' : Option Addr) (c' : Nat), m + g = ds.length ∧ i = .int .i64 m ∧ s10 = .slice A' (qc.length + 1) c' ∧ OI wr (fun g => w.heap.size + 2 ≤ g) A' c' (nats (v :: qc)) ∧ FSt w (.slice A1 ns.length c1) (.slice A2 ds.length c2) ns.length wr oc ∧
            PO.scan (PO.at_ out v + 1) (nbZ (ds.zip (useOf st)) v) out q = PO.scan (PO.at_ out v + 1) (nbZ ((ds.zip (useOf st)).drop m) v) oc qc ∧ PO.at_ oc v = PO.at_ out v ∧ QOn ns.length oc qc ∧ PO.negs oc + qc.length = PO.negs out + q.length)
          case atStart => exact ⟨0, out, q, _, _, by omega, rfl, rfl, hown, D, rfl, rfl, hQ', rfl⟩
          case round =>
            clear D hown hc0' hQ' n1 hgB hgl'
            obtain ⟨m, oc, qc, A2', c2', hm, rfl, rfl, hown, D, hsc, hov, hQc, hng⟩ := hrel
            have Hm := Lib.hid hm
            have Hsc := Lib.hid hsc
            have Hov := Lib.hid hov
            have Hng := Lib.hid hng
            have hqcl : qc.length ≤ 3000 := by
              simp at hql
              omega
            clear hm hsc hov hng
            obtain ⟨g2, off2, rfl, _, _, hc2, _⟩ := hown.at_ (k := 0) (by simp [nats])
            have hc2' : wr.cell? ⟨g2, off2, none⟩ = some (.int .i64 (v : Nat)) := by simpa [nats] using hc2
            clear hc2
            by_cases hlt : m < ds.length
            · obtain ⟨b, off, rfl, hS, hbl, q0, q1, q2, q3, q4⟩ := (hn.below D.bel).dev hlt
              have hmst : m < st.length := by have := Hsl.out; omega
              have hmz : m < (ds.zip (useOf st)).length := by simp [useOf]; omega
              have Hd := Lib.hid (show nbZ ((ds.zip (useOf st)).drop m) v = if 0 ≤ acrossL ds[m] v ∧ (st[m] == 2) = true then (acrossL ds[m] v).toNat :: nbZ ((ds.zip (useOf st)).drop (m + 1)) v else nbZ ((ds.zip (useOf st)).drop (m + 1)) v from by rw [nbZ_drop (ds.zip (useOf st)) v m hmz]; simp [useOf])
              have hy := hd ds[m] (List.getElem_mem hlt) v
              have hg2l : g2 < wr.heap.size := World.block_lt_of_cell? wr _ hc2'
              go_upto_region 14 with (fail)
              obtain ⟨W0, hW0⟩ : ∃ W0, W0 = wr.alloc (.cells #[.string ds[m].name, .int .i64 ds[m].kind, .int .i64 ds[m].a, .int .i64 ds[m].b, .int .i64 ds[m].comp] 78) := ⟨_, rfl⟩
              obtain ⟨bx, hbx⟩ : ∃ bx, bx = wr.heap.size := ⟨_, rfl⟩
              have hW0b : Below wr.heap.size wr W0 := by rw [hW0]; exact (Below.refl _ _).alloc (Nat.le_refl _) _
              have hx0 : W0.heap[bx]? = some (.cells #[.string ds[m].name, .int .i64 ds[m].kind, .int .i64 ds[m].a, .int .i64 ds[m].b, .int .i64 ds[m].comp] 78 (0, 0)) := by rw [hW0, hbx]; exact heap_alloc_new wr _
              have Hbx : Hid (∀ W, Below W0.heap.size W0 W → W.cell? ⟨bx, 0, none⟩ = some (.string ds[m].name) ∧ W.cell? ⟨bx, 1, none⟩ = some (.int .i64 ds[m].kind) ∧ W.cell? ⟨bx, 2, none⟩ = some (.int .i64 ds[m].a) ∧ W.cell? ⟨bx, 3, none⟩ = some (.int .i64 ds[m].b) ∧ W.cell? ⟨bx, 4, none⟩ = some (.int .i64 ds[m].comp)) := Lib.hid (fun W hW => by
                have hh := (hW.block bx (Array.getElem?_eq_some_iff.1 hx0).1).trans hx0
                exact ⟨by rw [cell_of_row W bx 0 _ _ _ hh]; rfl, by rw [cell_of_row W bx 1 _ _ _ hh]; rfl, by rw [cell_of_row W bx 2 _ _ _ hh]; rfl, by rw [cell_of_row W bx 3 _ _ _ hh]; rfl, by rw [cell_of_row W bx 4 _ _ _ hh]; rfl⟩)
              have hvc0 : W0.cell? ⟨g2, off2, none⟩ = some (.int .i64 (v : Nat)) := (hW0b.cell (p := ⟨g2, off2, none⟩) hg2l).trans hc2'
              have Hvc : Hid (∀ W, Below W0.heap.size W0 W → W.cell? ⟨g2, off2, none⟩ = some (.int .i64 (v : Nat))) := Lib.hid (fun W hW => (hW.cell (p := ⟨g2, off2, none⟩) (World.block_lt_of_cell? _ _ hvc0)).trans hvc0)
              rw [← hbx, ← hW0]
              have D0 := D.below hW0b
              have hown0 := hown.keep (Kept.of_below hW0b)
              clear hx0 hvc0 hW0b hW0 hbx q0 q1 q2 q3 q4
              go_cut [15] (fun v15 wx => v15 = .int .i64 (acrossL ds[m] v) ∧ Below W0.heap.size W0 wx)
              case first =>
                refine wp_region_ext1 (by kernel_rfl) 6 [50, 51, 52, 53, 54, 15] (fun w' => Below W0.heap.size W0 w') (fun _ _ => True) (fun d vv w' => if d = 50 then vv = .agg #[.string ds[m].name, .int .i64 ds[m].kind, .int .i64 ds[m].a, .int .i64 ds[m].b, .int .i64 ds[m].comp] else if d = 51 then vv = .slice (some ⟨g2, off2, none⟩) (qc.length + 1) c2' else if d = 52 then vv = .pointer (some ⟨g2, off2, none⟩) else if d = 53 then vv = .int .i64 (v : Nat) else if d = 54 then vv = .int .i64 (acrossL ds[m] v) else if d = 15 then vv = .int .i64 (acrossL ds[m] v) else False) (by kernel_rfl) ((Below.refl _ _).drew) (fun _ _ _ _ _ _ h => h) ?_ ?_
                · intro i o d hi ho hd f w1 hC hdep K hK
                  have hi' : i = 0 ∨ i = 1 ∨ i = 2 ∨ i = 3 ∨ i = 4 ∨ i = 5 := by omega
                  rcases hi' with rfl | rfl | rfl | rfl | rfl | rfl
                  · simp only [List.getElem?_toArray, List.getElem?_cons_zero, Option.some.injEq] at ho
                    subst ho
                    simp only [Option.some.injEq] at hd
                    subst hd
                    generalize hA : fr _ _ _ f = A at hK ⊢
                    have e14 : A.tmps[14]?.getD undef = .pointer (some ⟨bx, 0, none⟩) := by rw [← hA]; exact fr_out _ _ _ _ 14 _ (by decide) rfl
                    clear hA hdep
                    obtain ⟨x0, x1, x2, x3, x4⟩ := Hbx.out w1 hC
                    go_simp
                    exact hK _ _ trivial hC rfl
                  · simp only [List.getElem?_toArray, List.getElem?_cons_zero, List.getElem?_cons_succ, Option.some.injEq] at ho
                    subst ho
                    simp only [Option.some.injEq] at hd
                    subst hd
                    generalize hA : fr _ _ _ f = A at hK ⊢
                    have e10 : A.tmps[10]?.getD undef = .slice (some ⟨g2, off2, none⟩) (qc.length + 1) c2' := by rw [← hA]; exact fr_out _ _ _ _ 10 _ (by decide) rfl
                    clear hA hdep
                    go_simp
                    exact hK _ _ trivial hC rfl
                  · simp only [List.getElem?_toArray, List.getElem?_cons_zero, List.getElem?_cons_succ, Option.some.injEq] at ho
                    subst ho
                    simp only [Option.some.injEq] at hd
                    subst hd
                    have h51 : f 51 = .slice (some ⟨g2, off2, none⟩) (qc.length + 1) c2' := hdep { on := 1, ground := .data } (by simp) rfl 51 rfl
                    generalize hA : fr _ _ _ f = A at hK ⊢
                    have e51 : A.tmps[51]?.getD undef = f 51 := by rw [← hA]; exact fr_in _ _ _ _ 51 (by decide) (by simp)
                    clear hA hdep
                    rw [h51] at e51
                    clear h51
                    go_simp
                    exact hK _ _ trivial hC rfl
                  · simp only [List.getElem?_toArray, List.getElem?_cons_zero, List.getElem?_cons_succ, Option.some.injEq] at ho
                    subst ho
                    simp only [Option.some.injEq] at hd
                    subst hd
                    have h52 : f 52 = .pointer (some ⟨g2, off2, none⟩) := hdep { on := 2, ground := .data } (by simp) rfl 52 rfl
                    generalize hA : fr _ _ _ f = A at hK ⊢
                    have e52 : A.tmps[52]?.getD undef = f 52 := by rw [← hA]; exact fr_in _ _ _ _ 52 (by decide) (by simp)
                    clear hA hdep
                    rw [h52] at e52
                    clear h52
                    have xc := Hvc.out w1 hC
                    go_simp
                    exact hK _ _ trivial hC rfl
                  · simp only [List.getElem?_toArray, List.getElem?_cons_zero, List.getElem?_cons_succ, Option.some.injEq] at ho
                    subst ho
                    simp only [Option.some.injEq] at hd
                    subst hd
                    have h50 : f 50 = .agg #[.string ds[m].name, .int .i64 ds[m].kind, .int .i64 ds[m].a, .int .i64 ds[m].b, .int .i64 ds[m].comp] := hdep { on := 0, ground := .data } (by simp) rfl 50 rfl
                    have h53 : f 53 = .int .i64 (v : Nat) := hdep { on := 3, ground := .data } (by simp) rfl 53 rfl
                    generalize hA : fr _ _ _ f = A at hK ⊢
                    have e50 : A.tmps[50]?.getD undef = f 50 := by rw [← hA]; exact fr_in _ _ _ _ 50 (by decide) (by simp)
                    have e53 : A.tmps[53]?.getD undef = f 53 := by rw [← hA]; exact fr_in _ _ _ _ 53 (by decide) (by simp)
                    clear hA hdep
                    rw [h50] at e50
                    clear h50
                    rw [h53] at e53
                    clear h53
                    go_simp
                    refine (across_any ds[m] v w1).mono ?_
                    rintro e w2 ⟨rfl, hb2⟩
                    exact hK _ _ trivial (hC.trans (hb2.mono hC.size)) rfl
                  · simp only [List.getElem?_toArray, List.getElem?_cons_zero, List.getElem?_cons_succ, Option.some.injEq] at ho
                    subst ho
                    simp only [Option.some.injEq] at hd
                    subst hd
                    have h54 : f 54 = .int .i64 (acrossL ds[m] v) := hdep { on := 4, ground := .data } (by simp) rfl 54 rfl
                    generalize hA : fr _ _ _ f = A at hK ⊢
                    have e54 : A.tmps[54]?.getD undef = f 54 := by rw [← hA]; exact fr_in _ _ _ _ 54 (by decide) (by simp)
                    clear hA hdep
                    rw [h54] at e54
                    clear h54
                    go_simp
                    exact hK _ _ trivial hC rfl
                · intro f w1 hC hall
                  have q15 : f 15 = .int .i64 (acrossL ds[m] v) := hall 5 15 (by decide) rfl
                  have H15 := Lib.hid q15
                  clear hall q15
                  simp only [fr, upd, List.mapIdx_cons, List.mapIdx_nil]
                  simp
                  go_wp2_with fail
                  go_meet
                  case rel => exact ⟨H15.out, hC⟩
              case rest =>
                obtain ⟨rfl, hbw⟩ := hcut
                obtain ⟨w1, rfl⟩ : ∃ w1, w1 = wc := ⟨_, rfl⟩
                have D1 := D0.below hbw
                have hown1 := hown0.keep (Kept.of_below hbw)
                clear D0 hown0 Hbx Hvc D hown hc2' hbw
                generalize acrossL ds[m] v = y at *
                by_cases hy0 : 0 ≤ y
                · obtain ⟨u, rfl⟩ := Int.eq_ofNat_of_zero_le hy0
                  have hun : u < ns.length := by omega
                  have humk : u < (marks oc).length := by rw [marks_len, hQc.len]; exact hun
                  obtain ⟨a1, a2, _⟩ := D1.out.at_ humk
                  rw [marks_at oc u humk] at a1
                  have hcs : w1.cell? ⟨bs, 0, none⟩ = some (.slice U st.length cu) := (D1.bel.cell (p := ⟨bs, 0, none⟩) (World.block_lt_of_cell? _ _ hc)).trans hc
                  have HC := Lib.hid (closed_any w1 S U cu st (hs.keep (Kept.of_below D1.bel)) bs hcs m hmst)
                  by_cases hneg : PO.at_ oc u < 0
                  · rw [decide_eq_false (by omega)] at a1
                    by_cases huse : (st[m] == 2) = true
                    · rw [if_pos ⟨hy0, huse⟩, Int.toNat_natCast] at Hd
                      rw [huse] at HC
                      have hst' := hQc.step (v := v) (by rw [Hov.out]; exact hv.2) hun hneg
                      rw [Hov.out] at hst'
                      have Hst := Lib.hid hst'
                      clear hst' huse
                      have hown2 := hown1.keep (Kept.setCell (S := fun g => w.heap.size + 2 ≤ g) (p := ⟨w.heap.size + 1, u, none⟩) (by show ¬ _ ≤ w.heap.size + 1; omega) (.bool true))
                      have D2 := D1.set u (PO.at_ out v + 1) (by have := hv.2; omega)
                      have hsz2 := D2.size
                      go_wp2_with (fail)
                      refine (HC.out).mono ?_
                      rintro e w' ⟨rfl, rfl⟩
                      go_wp2_with (at_builtin; go_must (refine wpList_push (B := w.heap.size + 2) rfl (.tmp 72) (.tmp 74) rfl rfl rfl (by simp [nats]) (hown2.keep (Kept.alloc _ _ _)) (new_cell' _ _ _ _ (by simp [World.setCell])) (by simp [nats]; omega) (by simp at hsz2 ⊢; omega) ?_); intro A4 c4 w4 ho4 hb4 _ _)
                      go_roundg (gk - 1)
                      case measure => have := Hm.out; omega
                      case rel =>
                        refine ⟨m + 1, _, _, A4, c4, by have := Hm.out; omega, by go_num, ?_, ?_, (D2.belowB ((Below.refl _ _).alloc hsz2 _)).belowB hb4, ?_, Hst.out.2.2, Hst.out.1, ?_⟩
                        · simp [nats]
                        · have e : nats (v :: qc) ++ [(u : Int)] = nats (v :: (qc ++ [u])) := by simp [nats]
                          rw [← e]; exact ho4
                        · rw [Hsc.out, Hd.out]
                          simp only [PO.scan]
                          rw [if_pos hneg]
                        · have := Hst.out.2.1
                          have := Hng.out
                          simp; omega
                    · have huse : (st[m] == 2) = false := by simpa using huse
                      rw [if_neg (by simp [huse])] at Hd
                      rw [huse] at HC
                      clear huse
                      go_wp2_with (fail)
                      refine (HC.out).mono ?_
                      rintro e w' ⟨rfl, rfl⟩
                      go_wp2_with (fail)
                      go_roundg (gk - 1)
                      case measure => have := Hm.out; omega
                      case rel => exact ⟨m + 1, oc, qc, _, _, by have := Hm.out; omega, by go_num, rfl, hown1, D1, by rw [Hsc.out, Hd.out], Hov.out, hQc, Hng.out⟩
                  · rw [decide_eq_true (by omega)] at a1
                    have Hd2 : Hid (PO.scan (PO.at_ out v + 1) (nbZ ((ds.zip (useOf st)).drop m) v) oc qc = PO.scan (PO.at_ out v + 1) (nbZ ((ds.zip (useOf st)).drop (m + 1)) v) oc qc) := Lib.hid (by
                      rw [Hd.out]
                      split
                      · simp only [Int.toNat_natCast, PO.scan]
                        rw [if_neg hneg]
                      · rfl)
                    clear Hd HC
                    go_wp2_with (fail)
                    go_roundg (gk - 1)
                    case measure => have := Hm.out; omega
                    case rel => exact ⟨m + 1, oc, qc, _, _, by have := Hm.out; omega, by go_num, rfl, hown1, D1, by rw [Hsc.out, Hd2.out], Hov.out, hQc, Hng.out⟩
                · rw [if_neg (fun h => hy0 h.1)] at Hd
                  go_wp2_with (fail)
                  go_roundg (gk - 1)
                  case measure => have := Hm.out; omega
                  case rel => exact ⟨m + 1, oc, qc, _, _, by have := Hm.out; omega, by go_num, rfl, hown1, D1, by rw [Hsc.out, Hd.out], Hov.out, hQc, Hng.out⟩
            · have hsc := Hsc.out
              rw [List.drop_of_length_le (by simp; omega)] at hsc
              have Hsc := Lib.hid (show PO.scan (PO.at_ out v + 1) (nbZ (ds.zip (useOf st)) v) out q = (oc, qc) from hsc)
              clear hsc
              have hcap := hown.cap
              rw [nats_len, List.length_cons] at hcap
              have hgo' := Hgk.out
              rw [List.length_cons] at hgo'
              obtain ⟨g1, rfl⟩ : ∃ x, go = x + 1 := ⟨go - 1, by omega⟩
              have hdi := Hdi.out
              simp only [PO.bfs] at hdi
              rw [Hsc.out] at hdi
              have Hdi := Lib.hid hdi
              have Hgo := Lib.hid (show g1 = PO.negs oc + qc.length by have := Hng.out; omega)
              have hqb : PO.negs oc + qc.length ≤ 2000 := by
                have h1 := Hng.out
                simp at hql
                omega
              clear hdi hgo'
              by_cases hc1 : c2' = 1
              · subst hc1
                obtain rfl : qc = [] := List.eq_nil_of_length_eq_zero (by omega)
                go_wp2_with (fail)
                go_roundg g1
                case measure => omega
                case rel => exact ⟨oc, [], _, _, Hgo.out, rfl, hown.cut0, D, Hdi.out, hQc, hqb⟩
              · go_wp2_with (fail)
                go_roundg g1
                case measure => omega
                case rel => exact ⟨oc, qc, _, _, Hgo.out, rfl, hown.cut1, D, Hdi.out, hQc, hqb⟩
end Go.Proofs.YtgpcojmdfmngeaaDoor

namespace Go.Proofs.YtgpcojmdfmngeaaDoor
open Go.RowKit
set_option maxHeartbeats 400000
set_option maxRecDepth 100000

/-- where a mark is, the number is v -/
def fillP : List Int → List Bool → Int → List Int
  | o :: os, b :: bs, v => (if b then v else o) :: fillP os bs v
  | os, _, _ => os
def partStep (n : Nat) (ds : List Dev) (st : List Int) (out : List Int) (v : Nat) : List Int := if 0 ≤ PO.at_ out v then out else fillP out (marks (floodD n ds st [v])) v
def partsTo (n : Nat) (ds : List Dev) (st : List Int) (k : Nat) : List Int := (List.range k).foldl (partStep n ds st) (List.replicate n (-1))
def partsL (n : Nat) (ds : List Dev) (st : List Int) : List Int := partsTo n ds st n
theorem partsTo_succ (n : Nat) (ds : List Dev) (st : List Int) (k : Nat) : partsTo n ds st (k + 1) = partStep n ds st (partsTo n ds st k) k := by
  unfold partsTo
  rw [List.range_succ, List.foldl_append]
  rfl
theorem fillP_len : ∀ (out : List Int) (bs : List Bool) (v : Int), (fillP out bs v).length = out.length
  | [], _, _ => by simp [fillP]
  | _ :: _, [], _ => by simp [fillP]
  | _ :: os, _ :: bs, v => by simp [fillP, fillP_len os bs v]
theorem fillP_at : ∀ (out : List Int) (bs : List Bool) (v : Int) (i : Nat) (h1 : i < out.length) (h2 : i < bs.length), (fillP out bs v)[i]'(by rw [fillP_len]; exact h1) = if bs[i] then v else out[i]
  | [], _, _, i, h1, _ => by simp at h1
  | _ :: _, [], _, i, _, h2 => by simp at h2
  | o :: os, b :: bs, v, 0, _, _ => by simp [fillP]
  | o :: os, b :: bs, v, i + 1, h1, h2 => by simp [fillP]; exact fillP_at os bs v i (by simpa using h1) (by simpa using h2)
theorem partStep_len (n : Nat) (ds : List Dev) (st : List Int) (out : List Int) (v : Nat) : (partStep n ds st out v).length = out.length := by
  unfold partStep
  split
  · rfl
  · exact fillP_len _ _ _
theorem partsTo_len (n : Nat) (ds : List Dev) (st : List Int) : ∀ k, (partsTo n ds st k).length = n
  | 0 => by simp [partsTo]
  | k + 1 => by rw [partsTo_succ, partStep_len, partsTo_len n ds st k]
/-- the first i places filled -/
theorem fillP_step (out : List Int) (bs : List Bool) (v : Int) (i : Nat) (h1 : i < out.length) (h2 : i < bs.length) : (fillP out (bs.take i) v).set i (if bs[i] then v else out[i]) = fillP out (bs.take (i + 1)) v := by
  induction out generalizing bs i with
  | nil => simp at h1
  | cons o os ih =>
    cases bs with
    | nil => simp at h2
    | cons b bs =>
      cases i with
      | zero => simp [fillP]
      | succ i => simp [fillP]; exact ih bs i (by simpa using h1) (by simpa using h2)
theorem fillP_same (out : List Int) (bs : List Bool) (v : Int) (i : Nat) (h1 : i < out.length) (h2 : i < bs.length) (hb : bs[i] = false) : fillP out (bs.take i) v = fillP out (bs.take (i + 1)) v := by
  rw [← fillP_step out bs v i h1 h2, hb]
  have e : (fillP out (bs.take i) v)[i]'(by rw [fillP_len]; exact h1) = out[i] := by
    clear hb
    induction out generalizing bs i with
    | nil => simp at h1
    | cons o os ih =>
      cases bs with
      | nil => simp at h2
      | cons b bs =>
        cases i with
        | zero => simp [fillP]
        | succ i => simp [fillP]; exact ih bs i (by simpa using h1) (by simpa using h2)
  have : (if false = true then v else out[i]) = (fillP out (bs.take i) v)[i]'(by rw [fillP_len]; exact h1) := by rw [e]; simp
  rw [this]
  simp
theorem fillP_zero (out : List Int) (v : Int) : fillP out [] v = out := by cases out <;> rfl

/-- A slice of ints that fills its own block. -/
def OIb (w : World) (g n : Nat) (xs : List Int) : Prop := OI w (fun x => x = g) (some ⟨g, 0, none⟩) n xs
theorem OIb.at_ {w : World} {g n : Nat} {xs : List Int} (h : OIb w g n xs) {k : Nat} (hk : k < xs.length) : w.cell? ⟨g, k, none⟩ = some (.int .i64 xs[k]) ∧ w.frozen? ⟨g, k, none⟩ = false ∧ g < w.heap.size := by
  obtain ⟨g', off, e, _, hgl, hc, hf⟩ := OI.at_ h hk
  injection e with e
  injection e with e1 e2
  subst e1
  subst e2
  rw [Nat.zero_add] at hc hf
  exact ⟨hc, hf, hgl⟩
theorem OIb.set {w : World} {g n : Nat} {xs : List Int} (h : OIb w g n xs) (k : Nat) (x : Int) : OIb (w.setCell ⟨g, k, none⟩ (.int .i64 x)) g n (xs.set k x) := by
  have := OI.set h k x
  rw [Nat.zero_add] at this
  exact this
theorem OIb.fr {w w' : World} {g n : Nat} {xs : List Int} (h : OIb w g n xs) (e : w'.heap[g]? = w.heap[g]?) : OIb w' g n xs := OV.keep1 h (fun k hk => by simp [blockOf] at hk; subst hk; exact e)
theorem OIb.lt {w : World} {g n : Nat} {xs : List Int} (h : OIb w g n xs) : g < w.heap.size := (OV.block h g rfl).2
theorem OIb.si {w : World} {g n : Nat} {xs : List Int} (h : OIb w g n xs) : SI w (fun x => x = g) (some ⟨g, 0, none⟩) xs := OI.si h
theorem make_ints (w : World) (n : Nat) (hn : n ≤ 65536) : ∃ w', (Instr.makeSlice 22 (.int .i64 n) (.int .i64 n)).run Tryd.prog w = .ok (.slice (some ⟨w.heap.size, 0, none⟩) n n) w' ∧
    OIb w' w.heap.size n (List.replicate n 0) ∧ Below w.heap.size w w' ∧ w'.heap.size = w.heap.size + 1 := by
  refine ⟨_, run_make_row' (P := Tryd.prog) 22 3 (.int .i64 0) 8 Tryd.underlying22 intInfo rfl .i64 .i64 n (by omega) (by omega) w, ?_, (Below.refl _ _).alloc (Nat.le_refl _) _, by simp⟩
  unfold OIb OI
  rw [List.length_replicate]
  refine ⟨Nat.le_refl _, by simp only [maxLen]; omega, by simp [ints], .inr ⟨w.heap.size, 0, _, rfl, rfl, heap_alloc_new w _, by simp [size_madeCells], fun j u hj => ?_⟩⟩
  rw [ints, List.map_replicate, List.getElem?_replicate] at hj
  split at hj
  · rename_i hlt
    simp at hj
    subst hj
    simp [madeCells, hlt, Nat.mod_one]
  · cases hj

/-- The blocks of parts: the boxed network, the boxed state, the numbers. -/
structure PSt (w : World) (v1 v2 v3 : Value) (n : Nat) (wr : World) (out : List Int) : Prop where
  box : wr.heap[w.heap.size]? = some (.cells #[v1, v2] 26 (0, 0))
  bst : wr.heap[w.heap.size + 1]? = some (.cells #[v3] 22 (0, 0))
  out : OIb wr (w.heap.size + 1 + 1) n out
  bel : Below w.heap.size w wr
section
variable {w wr w' : World} {v1 v2 v3 : Value} {n : Nat} {out : List Int}
theorem PSt.size (h : PSt w v1 v2 v3 n wr out) : w.heap.size + 3 ≤ wr.heap.size := h.out.lt
theorem PSt.below (h : PSt w v1 v2 v3 n wr out) (hb : Below wr.heap.size wr w') : PSt w v1 v2 v3 n w' out := by
  have hs := h.size
  exact ⟨(hb.block _ (by omega)).trans h.box, (hb.block _ (by omega)).trans h.bst, h.out.fr (hb.block _ (by omega)), h.bel.trans (hb.mono h.bel.size)⟩
theorem PSt.set (h : PSt w v1 v2 v3 n wr out) (k : Nat) (x : Int) : PSt w v1 v2 v3 n (wr.setCell ⟨w.heap.size + 1 + 1, k, none⟩ (.int .i64 x)) (out.set k x) :=
  ⟨(Below.heap_setCell _ _ _ _ (by show w.heap.size ≠ w.heap.size + 1 + 1; omega)).trans h.box, (Below.heap_setCell _ _ _ _ (by show w.heap.size + 1 ≠ w.heap.size + 1 + 1; omega)).trans h.bst, h.out.set k x, h.bel.setCell (by show w.heap.size ≤ w.heap.size + 1 + 1; omega) _⟩
theorem PSt.n0 (h : PSt w v1 v2 v3 n wr out) : wr.cell? ⟨w.heap.size, 0, none⟩ = some v1 := by rw [cell_of_row wr _ 0 _ _ _ h.box]; rfl
theorem PSt.n1 (h : PSt w v1 v2 v3 n wr out) : wr.cell? ⟨w.heap.size, 1, none⟩ = some v2 := by rw [cell_of_row wr _ 1 _ _ _ h.box]; rfl
theorem PSt.n2 (h : PSt w v1 v2 v3 n wr out) : wr.cell? ⟨w.heap.size + 1, 0, none⟩ = some v3 := by rw [cell_of_row wr _ 0 _ _ _ h.bst]; rfl
end

set_option maxHeartbeats 4000000 in
theorem parts_any (w : World) (S : Nat → Prop) (A1 A2 : Option Addr) (c1 c2 : Nat) (ns : List Node) (ds : List Dev) (hn : NetIn w S A1 A2 ns ds) (hl1 : ns.length ≤ 32) (hl2 : ds.length ≤ 64)
    (U : Option Addr) (cu : Nat) (st : List Int) (hs : SI w S U st) (hsl : st.length = ds.length) (hd : ∀ d ∈ ds, ∀ v, acrossL d v < ns.length) :
    Calls Tryd.prog 137 #[.agg #[.slice A1 ns.length c1, .slice A2 ds.length c2], .slice U st.length cu] w
      fun e w' => ∃ g, e = .returned (.slice (some ⟨g, 0, none⟩) ns.length ns.length) ∧ OIb w' g ns.length (partsL ns.length ds st) ∧ w.heap.size ≤ g ∧ Below w.heap.size w w' := by
  have Hsl := Lib.hid hsl
  clear hsl
  obtain ⟨w2, hmk, ho2, hb2, hz2⟩ := make_ints ((w.alloc (.cells #[.slice A1 ns.length c1, .slice A2 ds.length c2] 26)).alloc (.cells #[.slice U st.length cu] 22)) ns.length (by omega)
  have D0 : PSt w (.slice A1 ns.length c1) (.slice A2 ds.length c2) (.slice U st.length cu) ns.length w2 (List.replicate ns.length 0) := by
    have hb0 := ((Below.refl w.heap.size w).alloc (Nat.le_refl _) (.cells #[.slice A1 ns.length c1, .slice A2 ds.length c2] 26)).alloc (by simp) (.cells #[.slice U st.length cu] 22)
    refine ⟨(hb2.block _ (by simp; omega)).trans ((Below.heap_alloc _ _ _ (by simp)).trans (heap_alloc_new w _)), (hb2.block _ (by simp)).trans ?_, by simpa using ho2, hb0.trans (hb2.mono (by simp; omega))⟩
    have := heap_alloc_new (w.alloc (.cells #[.slice A1 ns.length c1, .slice A2 ds.length c2] 26)) (.cells #[.slice U st.length cu] 22)
    simpa using this
  clear hb2 hz2 ho2
  go_enter Tryd.func137, Tryd.ntmps137
  go_wp2_with (fail)
  clear hmk
  go_loopg [18] ns.length (fun g i wr => ∃ (k : Nat) (out : List Int), k + g = ns.length ∧ i = .int .i64 k ∧ PSt w (.slice A1 ns.length c1) (.slice A2 ds.length c2) (.slice U st.length cu) ns.length wr out ∧ out.length = ns.length ∧ out.take k = List.replicate k (-1))
  case atStart => exact ⟨0, _, by omega, rfl, D0, by simp, rfl⟩
  case round =>
    clear D0
    obtain ⟨k, out, hk, rfl, D, hol, htk⟩ := hrel
    have Hk := Lib.hid hk
    have Hol := Lib.hid hol
    have Htk := Lib.hid htk
    clear hk hol htk
    by_cases hlt : k < ns.length
    · obtain ⟨q1, q2, _⟩ := D.out.at_ (k := k) (by rw [Hol.out]; exact hlt)
      go_wp2_with (fail)
      go_roundg (gk - 1)
      case measure => have := Hk.out; omega
      case rel =>
        refine ⟨k + 1, _, by have := Hk.out; omega, by go_num, D.set k (-1), by simp [Hol.out], ?_⟩
        rw [List.take_succ_eq_append_getElem (by simp [Hol.out]; exact hlt), List.getElem_set_self, List.take_set_of_le (Nat.le_refl _), Htk.out, List.replicate_succ']
    · have hout : out = List.replicate ns.length (-1) := by
        have := Htk.out
        rw [List.take_of_length_le (by rw [Hol.out]; omega)] at this
        rw [this]
        have := Hk.out
        rw [show k = ns.length by omega]
      rw [hout] at D
      clear hout Htk Hol Hk
      go_wp2_with (fail)
      clear hlt
      obtain ⟨wo, rfl⟩ : ∃ wo : World, wo = wr := ⟨_, rfl⟩
      go_loopg [28] ns.length (fun g i wr => ∃ (v : Nat), v + g = ns.length ∧ i = .int .i64 v ∧ PSt w (.slice A1 ns.length c1) (.slice A2 ds.length c2) (.slice U st.length cu) ns.length wr (partsTo ns.length ds st v))
      case atStart => exact ⟨0, by omega, rfl, D⟩
      case round =>
        clear D
        obtain ⟨v, hv, rfl, D⟩ := hrel
        have Hv := Lib.hid hv
        clear hv
        by_cases hlt : v < ns.length
        · have hvl : v < (partsTo ns.length ds st v).length := by rw [partsTo_len]; exact hlt
          obtain ⟨q1, q2, _⟩ := D.out.at_ hvl
          rw [← at_get hvl] at q1
          have Hsu := Lib.hid (show partsTo ns.length ds st (v + 1) = if 0 ≤ PO.at_ (partsTo ns.length ds st v) v then partsTo ns.length ds st v else fillP (partsTo ns.length ds st v) (marks (floodD ns.length ds st [v])) v by rw [partsTo_succ]; rfl)
          have Hol := Lib.hid (partsTo_len ns.length ds st v)
          generalize hP : partsTo ns.length ds st v = out at *
          clear hP hvl
          by_cases hge : 0 ≤ PO.at_ out v
          · rw [if_pos hge] at Hsu
            go_wp2_with (fail)
            go_roundg (gk - 1)
            case measure => have := Hv.out; omega
            case rel => exact ⟨v + 1, by have := Hv.out; omega, by go_num, by rw [Hsu.out]; exact D⟩
          · rw [if_neg hge] at Hsu
            have n0 := D.n0
            have n1 := D.n1
            have hbv := (Below.refl wr.heap.size wr).alloc (Nat.le_refl _) (.cells #[.int .i64 (v : Int)] 3)
            have D1 := D.below hbv
            have HF := Lib.hid (flood_any _ (fun _ => True) A1 A2 c1 c2 ns ds ((hn.below D1.bel).mono (fun _ _ _ => trivial)) hl1 hl2 U cu st ((hs.keep (Kept.of_below D1.bel)).mono (fun _ _ _ => trivial)) Hsl.out (w.heap.size + 1) D1.n2
              (some ⟨wr.heap.size, 0, none⟩) 1 [v] ((OI.lit wr [(v : Int)] (by simp [maxLen])).si.mono (fun _ _ _ => trivial)) (by simp) (by simpa using hlt) hd)
            go_wp2_with (fail)
            refine (HF.out).mono ?_
            rintro e w5 ⟨g, rfl, hob, hg, hb5⟩
            have D5 := D1.below hb5
            have hgl : wr.heap.size + 1 ≤ g := by simpa using hg
            have hml : (marks (floodD ns.length ds st [v])).length = ns.length := OB.len hob
            generalize hM : marks (floodD ns.length ds st [v]) = mk at *
            have Hml := Lib.hid hml
            have hsz := D.size
            clear hM hml n0 n1 HF D1 hbv hg q1 q2 hb5
            go_wp2_with (fail)
            obtain ⟨go, rfl⟩ : ∃ x : Nat, x = gk := ⟨_, rfl⟩
            obtain ⟨wp, rfl⟩ : ∃ wp : World, wp = wr := ⟨_, rfl⟩
            go_loopg [43] ns.length (fun g' i wr => ∃ (k : Nat), k + g' = ns.length ∧ i = .int .i64 k ∧ PSt w (.slice A1 ns.length c1) (.slice A2 ds.length c2) (.slice U st.length cu) ns.length wr (fillP out (mk.take k) v) ∧ OB wr g ns.length mk)
            case atStart => exact ⟨0, by omega, rfl, by rw [List.take_zero, fillP_zero]; exact D5, hob⟩
            case round =>
              clear D5 hob D
              obtain ⟨k, hk, rfl, D, hob⟩ := hrel
              have Hk := Lib.hid hk
              clear hk
              by_cases hlt2 : k < ns.length
              · have hkm : k < mk.length := by rw [Hml.out]; exact hlt2
                have hko : k < out.length := by rw [Hol.out]; exact hlt2
                obtain ⟨m1, _, _⟩ := hob.at_ hkm
                obtain ⟨a1, a2, _⟩ := D.out.at_ (k := k) (by rw [fillP_len]; exact hko)
                by_cases hb : mk[k] = true
                · rw [hb] at m1
                  have Hst := Lib.hid (fillP_step out mk v k hko hkm)
                  rw [if_pos hb] at Hst
                  clear hb
                  go_wp2_with (fail)
                  go_roundg (gk - 1)
                  case measure => have := Hk.out; omega
                  case rel => exact ⟨k + 1, by have := Hk.out; omega, by go_num, by rw [← Hst.out]; exact D.set k v, hob.fr (Below.heap_setCell _ _ _ _ (by show g ≠ w.heap.size + 1 + 1; omega))⟩
                · have hb : mk[k] = false := by simpa using hb
                  rw [hb] at m1
                  have Hst := Lib.hid (fillP_same out mk v k hko hkm hb)
                  clear hb
                  go_wp2_with (fail)
                  go_roundg (gk - 1)
                  case measure => have := Hk.out; omega
                  case rel => exact ⟨k + 1, by have := Hk.out; omega, by go_num, by rw [← Hst.out]; exact D, hob⟩
              · have htk : mk.take k = mk := List.take_of_length_le (by rw [Hml.out]; omega)
                rw [htk] at D
                clear htk
                go_wp2_with (fail)
                go_roundg (go - 1)
                case measure => have := Hv.out; omega
                case rel => exact ⟨v + 1, by have := Hv.out; omega, by go_num, by rw [Hsu.out]; exact D⟩
        · have hvn : v = ns.length := by have := Hv.out; omega
          rw [hvn] at D
          clear hvn
          go_wp2_with (fail)
          go_ret
          exact ⟨_, rfl, D.out, by omega, D.bel⟩
end Go.Proofs.YtgpcojmdfmngeaaDoor

namespace Go.Proofs.YtgpcojmdfmngeaaDoor
open Go.RowKit
open Go.Maps (Keyed)
set_option maxHeartbeats 400000
set_option maxRecDepth 100000

theorem lawI : Keyed Tryd.prog 3 := Maps.int_keyed Tryd.underlying3
theorem zeroI (w : World) : (zeroValue 3).run Tryd.prog w = .ok (.int .i64 0) w := by kernel_rfl
/-- Block b is a map from int to int. -/
def IMap (w : World) (b n : Nat) (f : Int → Int) : Prop :=
  ∃ D : DataW Unit, w.ownsMap Tryd.prog 3 (plainElem Tryd.prog 3) b n D ∧ ∀ p : Int, D.atKey (.int .i64 p) (.lit (.int .i64 0)) = .lit (.int .i64 (f p))
theorem IMap.made (w : World) : IMap (w.alloc (.map #[] 0)) w.heap.size 0 (fun _ => 0) := ⟨_, World.ownsMap_made w _ _ _, fun _ => rfl⟩
theorem IMap.lt {w : World} {b n : Nat} {f : Int → Int} (h : IMap w b n f) : b < w.heap.size := by
  obtain ⟨D, h, _⟩ := h
  exact h.lt
theorem IMap.fr {w w' : World} {b n : Nat} {f : Int → Int} (h : IMap w b n f) (e : w'.heap[b]? = w.heap[b]?) : IMap w' b n f := by
  obtain ⟨D, h, hD⟩ := h
  obtain ⟨es, clock, h1, F, hs, e1⟩ := h
  exact ⟨D, ⟨es, clock, e.trans h1, F, hs, e1⟩, hD⟩
theorem IMap.below {w w' : World} {b n : Nat} {f : Int → Int} (h : IMap w b n f) (hb : Below w.heap.size w w') : IMap w' b n f := h.fr (hb.block b h.lt)
theorem IMap.look {w : World} {b n : Nat} {f : Int → Int} (h : IMap w b n f) {p : Int} (hp : (Lit.int .i64 p).wf = true) : (Instr.lookup 160 (.map (some b)) (.int .i64 p) false).run Tryd.prog w = .ok (.int .i64 (f p)) w := by
  obtain ⟨D, h, hD⟩ := h
  obtain ⟨c, hrun, hat, _⟩ := h.lookup_int lawI Tryd.underlying160 Tryd.underlying3 (zeroI w) (Maps.keyOf_int_mk Tryd.underlying3 hp)
  rw [hD p] at hat
  injection hat with hat
  injection hat with _ hat
  rw [hrun, hat]
theorem IMap.put {w : World} {b n : Nat} {f : Int → Int} (h : IMap w b n f) (hn : n < maxLen) {p x : Int} (hp : (Lit.int .i64 p).wf = true) (hx : (Lit.int .i64 x).wf = true) :
    ∃ w', (Instr.mapUpdate 160 (.map (some b)) (.int .i64 p) (.int .i64 x)).run Tryd.prog w = .ok () w' ∧ IMap w' b (n + 1) (fun q => if q = p then x else f q) ∧ w.grownBy w' (some b) := by
  obtain ⟨D, h, hD⟩ := h
  obtain ⟨w', hrun, h1, hg⟩ := h.update lawI Tryd.underlying160 hn (Maps.keyOf_int_mk Tryd.underlying3 hp) (plainElem_int Tryd.underlying3 hx)
  refine ⟨w', hrun, ⟨_, h1, fun q => ?_⟩, hg⟩
  by_cases e : q = p
  · subst e
    rw [Maps.atKey_put_same h.isMap (by trivial)]
    simp
  · rw [Maps.atKey_put_other (fun h => e (by injection h)), hD q]
    simp [e]

/-- The boxed network. -/
structure RSb (w : World) (v1 v2 : Value) (wr : World) : Prop where
  box : wr.heap[w.heap.size]? = some (.cells #[v1, v2] 26 (0, 0))
  bel : Below w.heap.size w wr
section
variable {w wr w' : World} {v1 v2 : Value}
theorem RSb.below (h : RSb w v1 v2 wr) (hb : Below wr.heap.size wr w') : RSb w v1 v2 w' :=
  ⟨(hb.block _ (Array.getElem?_eq_some_iff.1 h.box).1).trans h.box, h.bel.trans (hb.mono h.bel.size)⟩
theorem RSb.belowB {B : Nat} (h : RSb w v1 v2 wr) (hb : Below B wr w') (hB : w.heap.size < B) : RSb w v1 v2 w' :=
  ⟨(hb.block _ hB).trans h.box, h.bel.trans (hb.mono (by omega))⟩
theorem RSb.n0 (h : RSb w v1 v2 wr) : wr.cell? ⟨w.heap.size, 0, none⟩ = some v1 := by rw [cell_of_row wr _ 0 _ _ _ h.box]; rfl
theorem RSb.n1 (h : RSb w v1 v2 wr) : wr.cell? ⟨w.heap.size, 1, none⟩ = some v2 := by rw [cell_of_row wr _ 1 _ _ _ h.box]; rfl
end
def colV (l e : Bool) : Int := (if l then 1 else 0) + (if e then 2 else 0)
def liveZ (ps : List Int) (p : Int) (z : Dev × Int) : Bool := (z.2 == 2) && ((z.1.kind == 5) || (z.1.kind == 6)) && (PO.at_ ps z.1.a.toNat == p)
def earthZ (ps : List Int) (p : Int) (z : Dev × Int) : Bool := (z.2 == 2) && (z.1.kind == 4) && (PO.at_ ps z.1.a.toNat == p)
/-- the colour of a part -/
def bitsZ (ps : List Int) (zs : List (Dev × Int)) (p : Int) : Int := colV (zs.any (liveZ ps p)) (zs.any (earthZ ps p))
def colL (ds : List Dev) (st ps : List Int) : List Int := ps.map (bitsZ ps (ds.zip st))

theorem bits_snoc (ps : List Int) (zs : List (Dev × Int)) (z : Dev × Int) (p : Int) : bitsZ ps (zs ++ [z]) p = colV (zs.any (liveZ ps p) || liveZ ps p z) (zs.any (earthZ ps p) || earthZ ps p z) := by
  unfold bitsZ
  rw [List.any_append, List.any_append]
  simp
theorem bits_not (ps : List Int) (zs : List (Dev × Int)) (z : Dev × Int) (h : ((z.2 == 2) && ((z.1.kind == 4) || (z.1.kind == 5) || (z.1.kind == 6))) = false) : bitsZ ps (zs ++ [z]) = bitsZ ps zs := by
  funext p
  rw [bits_snoc]
  have h1 : liveZ ps p z = false := by
    unfold liveZ
    cases h2 : (z.2 == 2) <;> cases h4 : (z.1.kind == 4) <;> cases h5 : (z.1.kind == 5) <;> cases h6 : (z.1.kind == 6) <;> simp_all
  have h2 : earthZ ps p z = false := by
    unfold earthZ
    cases h2 : (z.2 == 2) <;> cases h4 : (z.1.kind == 4) <;> cases h5 : (z.1.kind == 5) <;> cases h6 : (z.1.kind == 6) <;> simp_all
  rw [h1, h2, Bool.or_false, Bool.or_false]
  rfl
theorem bits_cases (ps : List Int) (zs : List (Dev × Int)) (p : Int) : bitsZ ps zs p = 0 ∨ bitsZ ps zs p = 1 ∨ bitsZ ps zs p = 2 ∨ bitsZ ps zs p = 3 := by
  unfold bitsZ
  cases zs.any (liveZ ps p) <;> cases zs.any (earthZ ps p) <;> decide
def orE (x : Int) : Int := if x = 0 then 2 else if x = 1 then 3 else x
def orL (x : Int) : Int := if x = 0 then 1 else if x = 2 then 3 else x
theorem bits_earth (ps : List Int) (zs : List (Dev × Int)) (z : Dev × Int) (h2 : z.2 = 2) (hk : z.1.kind = 4) : bitsZ ps (zs ++ [z]) = fun q => if q = PO.at_ ps z.1.a.toNat then orE (bitsZ ps zs q) else bitsZ ps zs q := by
  funext q
  rw [bits_snoc]
  have h1 : liveZ ps q z = false := by simp [liveZ, hk]
  rw [h1, Bool.or_false]
  by_cases hq : q = PO.at_ ps z.1.a.toNat
  · rw [if_pos hq]
    have h3 : earthZ ps q z = true := by simp [earthZ, h2, hk, hq]
    rw [h3, Bool.or_true]
    unfold bitsZ orE
    cases zs.any (liveZ ps q) <;> cases zs.any (earthZ ps q) <;> decide
  · rw [if_neg hq]
    have h3 : earthZ ps q z = false := by simp [earthZ, h2, hk]; omega
    rw [h3, Bool.or_false]; rfl
theorem bits_live (ps : List Int) (zs : List (Dev × Int)) (z : Dev × Int) (h2 : z.2 = 2) (hk : z.1.kind = 5 ∨ z.1.kind = 6) : bitsZ ps (zs ++ [z]) = fun q => if q = PO.at_ ps z.1.a.toNat then orL (bitsZ ps zs q) else bitsZ ps zs q := by
  funext q
  rw [bits_snoc]
  have h1 : earthZ ps q z = false := by rcases hk with hk | hk <;> simp [earthZ, hk]
  rw [h1, Bool.or_false]
  by_cases hq : q = PO.at_ ps z.1.a.toNat
  · rw [if_pos hq]
    have h3 : liveZ ps q z = true := by rcases hk with hk | hk <;> simp [liveZ, h2, hk, hq]
    rw [h3, Bool.or_true]
    unfold bitsZ orL
    cases zs.any (liveZ ps q) <;> cases zs.any (earthZ ps q) <;> decide
  · rw [if_neg hq]
    have h3 : liveZ ps q z = false := by rcases hk with hk | hk <;> (simp [liveZ, h2, hk]; omega)
    rw [h3, Bool.or_false]; rfl

theorem wf_small {p : Int} (h : -1 ≤ p) (h2 : p ≤ 1000) : (Lit.int .i64 p).wf = true := WalkArith.wf_i64 (by omega)

set_option maxHeartbeats 4000000 in
theorem colours_any (w : World) (S : Nat → Prop) (A1 A2 : Option Addr) (c1 c2 : Nat) (ns : List Node) (ds : List Dev) (hn : NetIn w S A1 A2 ns ds) (hl1 : ns.length ≤ 32) (hl2 : ds.length ≤ 64)
    (U : Option Addr) (cu : Nat) (st : List Int) (hs : SI w S U st) (hsl : st.length = ds.length) (V : Option Addr) (cv : Nat) (ps : List Int) (hp : SI w S V ps) (hpl : ps.length = ns.length)
    (hpb : ∀ p ∈ ps, 0 ≤ p ∧ p < 32) (hda : ∀ d ∈ ds, 0 ≤ d.a ∧ d.a < ns.length) :
    Calls Tryd.prog 138 #[.agg #[.slice A1 ns.length c1, .slice A2 ds.length c2], .slice U st.length cu, .slice V ns.length cv] w
      fun e w' => ∃ g, e = .returned (.slice (some ⟨g, 0, none⟩) ns.length ns.length) ∧ OIb w' g ns.length (colL ds st ps) ∧ w.heap.size ≤ g ∧ Below w.heap.size w w' := by
  have Hsl := Lib.hid hsl
  have Hpl := Lib.hid hpl
  clear hsl hpl
  have hmm := @run_makeMap Tryd.prog
  go_enter Tryd.func138, Tryd.ntmps138
  go_wp2_with (fail)
  clear hmm
  have hM0 : IMap ((w.alloc (.cells #[.slice A1 ns.length c1, .slice A2 ds.length c2] 26)).alloc (.map #[] 0)) (w.heap.size + 1) 0 (bitsZ ps []) := by
    have := IMap.made (w.alloc (.cells #[.slice A1 ns.length c1, .slice A2 ds.length c2] 26))
    have e : bitsZ ps [] = fun _ => 0 := rfl
    rw [e]
    simpa using this
  go_loopg [17] ds.length (fun g i wr => ∃ (k : Nat), k + g = ds.length ∧ i = .int .i64 k ∧ IMap wr (w.heap.size + 1) k (bitsZ ps ((ds.zip st).take k)) ∧ RSb w (.slice A1 ns.length c1) (.slice A2 ds.length c2) wr)
  case atStart =>
    refine ⟨0, by omega, rfl, hM0, ⟨?_, ((Below.refl _ _).alloc (Nat.le_refl _) _).alloc (by simp) _⟩⟩
    rw [Below.heap_alloc _ _ _ (by simp)]; exact heap_alloc_new w _
  case round =>
    clear hM0
    obtain ⟨k, hk, rfl, hM, D⟩ := hrel
    have Hk := Lib.hid hk
    clear hk
    by_cases hlt : k < ds.length
    · obtain ⟨b, off, rfl, hS, hbl, q0, q1, q2, q3, q4⟩ := (hn.below D.bel).dev hlt
      have hks : k < st.length := by have := Hsl.out; omega
      obtain ⟨bu, ou, rfl, _, _, u1⟩ := (hs.keep (Kept.of_below D.bel)).at_ hks
      have hda1 := hda ds[k] (List.getElem_mem hlt)
      obtain ⟨ka, hka⟩ := Int.eq_ofNat_of_zero_le hda1.1
      have hbA := (Below.refl wr.heap.size wr).alloc (Nat.le_refl _) (.cells #[.string ds[k].name, .int .i64 ds[k].kind, .int .i64 ka, .int .i64 ds[k].b, .int .i64 ds[k].comp] 78)
      have hM3 := hM.below hbA
      have hkal : ka < ps.length := by have := Hpl.out; omega
      obtain ⟨bv, ov, rfl, _, hbvl, v1⟩ := (hp.keep (Kept.of_below D.bel)).at_ hkal
      have hpr := hpb ps[ka] (List.getElem_mem hkal)
      have hpw : (Lit.int .i64 ps[ka]).wf = true := wf_small (by omega) (by omega)
      have hat : PO.at_ ps ds[k].a.toNat = ps[ka] := by rw [hka, Int.toNat_natCast, at_get hkal]
      have Hat := Lib.hid hat
      have Htk := Lib.hid (show (ds.zip st).take (k + 1) = (ds.zip st).take k ++ [(ds[k], st[k])] by rw [List.take_succ_eq_append_getElem (by simp; omega), List.getElem_zip])
      rw [hka] at q2
      have hkan : ka < ns.length := by omega
      clear hat hda1 hka
      by_cases hst : (st[k] == 2) = true
      · have hst' : (st[k] != 2) = false := by simpa using hst
        have hst2 : st[k] = 2 := by simpa using hst
        have Hst2 := Lib.hid hst2
        clear hst2
        have hlk := hM3.look hpw
        have hbc := bits_cases ps ((ds.zip st).take k) ps[ka]
        by_cases h4 : (ds[k].kind == 4) = true
        · have Hnx := Lib.hid (bits_earth ps ((ds.zip st).take k) (ds[k], st[k]) Hst2.out (by simpa using h4))
          have Hnx : Hid (bitsZ ps ((ds.zip st).take k ++ [(ds[k], st[k])]) = fun q => if q = ps[ka] then orE (bitsZ ps ((ds.zip st).take k) ps[ka]) else bitsZ ps ((ds.zip st).take k) q) := Lib.hid (by
            rw [Hnx.out, Hat.out]
            funext q
            by_cases e : q = ps[ka]
            · simp [e]
            · simp [e])
          have hox : bits BinOp.or IntKind.i64 (bitsZ ps ((ds.zip st).take k) ps[ka]) 2 = orE (bitsZ ps ((ds.zip st).take k) ps[ka]) := by rcases hbc with hv | hv | hv | hv <;> rw [hv] <;> decide
          have hxw : (Lit.int .i64 (bits BinOp.or IntKind.i64 (bitsZ ps ((ds.zip st).take k) ps[ka]) 2)).wf = true := by rcases hbc with hv | hv | hv | hv <;> rw [hv] <;> decide
          rw [← hox] at Hnx
          clear hox hbc
          obtain ⟨w4, hup, hM4, hg4⟩ := hM3.put (show k < maxLen by unfold maxLen; omega) hpw hxw
          have Hbz := Lib.hid hM4
          have hbB : Below (w.heap.size + 1) wr w4 := ((Below.refl _ _).alloc (by have := D.bel.size; have := hM.lt; omega) _).grown hg4 (by simp; have := hM.lt; omega) (fun g hg => by injection hg with hg; omega)
          clear hM4
          go_wp2_with (fail)
          go_roundg (gk - 1)
          case measure => have := Hk.out; omega
          case rel =>
            refine ⟨k + 1, by have := Hk.out; omega, by go_num, ?_, D.belowB hbB (by omega)⟩
            rw [Htk.out, Hnx.out]
            exact Hbz.out
        · have h4 : (ds[k].kind == 4) = false := by simpa using h4
          by_cases h56 : ds[k].kind = 5 ∨ ds[k].kind = 6
          · have Hnx := Lib.hid (bits_live ps ((ds.zip st).take k) (ds[k], st[k]) Hst2.out h56)
            have Hnx : Hid (bitsZ ps ((ds.zip st).take k ++ [(ds[k], st[k])]) = fun q => if q = ps[ka] then orL (bitsZ ps ((ds.zip st).take k) ps[ka]) else bitsZ ps ((ds.zip st).take k) q) := Lib.hid (by
              rw [Hnx.out, Hat.out]
              funext q
              by_cases e : q = ps[ka]
              · simp [e]
              · simp [e])
            rcases h56 with h56 | h56
            · have h5 : (ds[k].kind == 5) = true := by simpa using h56
              clear h56
              have hox : bits BinOp.or IntKind.i64 (bitsZ ps ((ds.zip st).take k) ps[ka]) 1 = orL (bitsZ ps ((ds.zip st).take k) ps[ka]) := by rcases hbc with hv | hv | hv | hv <;> rw [hv] <;> decide
              have hxw : (Lit.int .i64 (bits BinOp.or IntKind.i64 (bitsZ ps ((ds.zip st).take k) ps[ka]) 1)).wf = true := by rcases hbc with hv | hv | hv | hv <;> rw [hv] <;> decide
              rw [← hox] at Hnx
              clear hox hbc
              obtain ⟨w4, hup, hM4, hg4⟩ := hM3.put (show k < maxLen by unfold maxLen; omega) hpw hxw
              have Hbz := Lib.hid hM4
              have hbB : Below (w.heap.size + 1) wr w4 := ((Below.refl _ _).alloc (by have := D.bel.size; have := hM.lt; omega) _).grown hg4 (by simp; have := hM.lt; omega) (fun g hg => by injection hg with hg; omega)
              clear hM4
              go_wp2_with (fail)
              go_roundg (gk - 1)
              case measure => have := Hk.out; omega
              case rel =>
                refine ⟨k + 1, by have := Hk.out; omega, by go_num, ?_, D.belowB hbB (by omega)⟩
                rw [Htk.out, Hnx.out]
                exact Hbz.out
            · have h5 : (ds[k].kind == 5) = false := by simp [h56]
              have h6 : (ds[k].kind == 6) = true := by simpa using h56
              clear h56
              have hox : bits BinOp.or IntKind.i64 (bitsZ ps ((ds.zip st).take k) ps[ka]) 1 = orL (bitsZ ps ((ds.zip st).take k) ps[ka]) := by rcases hbc with hv | hv | hv | hv <;> rw [hv] <;> decide
              have hxw : (Lit.int .i64 (bits BinOp.or IntKind.i64 (bitsZ ps ((ds.zip st).take k) ps[ka]) 1)).wf = true := by rcases hbc with hv | hv | hv | hv <;> rw [hv] <;> decide
              rw [← hox] at Hnx
              clear hox hbc
              obtain ⟨w4, hup, hM4, hg4⟩ := hM3.put (show k < maxLen by unfold maxLen; omega) hpw hxw
              have Hbz := Lib.hid hM4
              have hbB : Below (w.heap.size + 1) wr w4 := ((Below.refl _ _).alloc (by have := D.bel.size; have := hM.lt; omega) _).grown hg4 (by simp; have := hM.lt; omega) (fun g hg => by injection hg with hg; omega)
              clear hM4
              go_wp2_with (fail)
              go_roundg (gk - 1)
              case measure => have := Hk.out; omega
              case rel =>
                refine ⟨k + 1, by have := Hk.out; omega, by go_num, ?_, D.belowB hbB (by omega)⟩
                rw [Htk.out, Hnx.out]
                exact Hbz.out
          · have h5 : (ds[k].kind == 5) = false := by simp; omega
            have h6 : (ds[k].kind == 6) = false := by simp; omega
            have Hnx := Lib.hid (bits_not ps ((ds.zip st).take k) (ds[k], st[k]) (by simp [h4, h5, h6]))
            clear hlk hbc
            go_wp2_with (fail)
            go_roundg (gk - 1)
            case measure => have := Hk.out; omega
            case rel =>
              refine ⟨k + 1, by have := Hk.out; omega, by go_num, ?_, D.below hbA⟩
              rw [Htk.out, Hnx.out]
              obtain ⟨DD, hh, hD⟩ := hM3
              exact ⟨DD, hh.mono (by omega), hD⟩
      · have hst : (st[k] == 2) = false := by simpa using hst
        have hst' : (st[k] != 2) = true := by simpa using hst
        have Hnx := Lib.hid (bits_not ps ((ds.zip st).take k) (ds[k], st[k]) (by simp [hst]))
        go_wp2_with (fail)
        go_roundg (gk - 1)
        case measure => have := Hk.out; omega
        case rel =>
          refine ⟨k + 1, by have := Hk.out; omega, by go_num, ?_, D.below hbA⟩
          rw [Htk.out, Hnx.out]
          obtain ⟨DD, hh, hD⟩ := hM3
          exact ⟨DD, hh.mono (by omega), hD⟩
    · have htk : (ds.zip st).take k = ds.zip st := List.take_of_length_le (by simp; omega)
      rw [htk] at hM
      clear htk
      have n0 := D.n0
      obtain ⟨w5, hmk, ho5, hb5, hz5⟩ := make_ints wr ns.length (by omega)
      have D5 := D.below hb5
      have hM5 := hM.below hb5
      have hwl := hM.lt
      go_wp2_with (fail)
      obtain ⟨go, hgo⟩ : ∃ x, x = wr.heap.size := ⟨_, rfl⟩
      rw [← hgo] at ho5 ⊢
      have hgo2 : w.heap.size + 1 < go := by omega
      have Hb0 : Below w.heap.size w w5 := D5.bel
      have hkd : k ≤ ds.length := by have := Hk.out; omega
      clear hmk n0 hb5 hz5 hgo hM D D5 Hk hwl hlt
      obtain ⟨wo, rfl⟩ : ∃ wo : World, wo = wr := ⟨_, rfl⟩
      have Hcl := Lib.hid (show (colL ds st ps).length = ns.length by simp [colL, Hpl.out])
      have hfz : filled (colL ds st ps) 0 0 = List.replicate ns.length 0 := by rw [filled_zero, Hcl.out]
      go_loopg [64] ns.length (fun g i wr => ∃ (k : Nat), k + g = ns.length ∧ i = .int .i64 k ∧ OIb wr go ns.length (filled (colL ds st ps) 0 k) ∧ IMap wr (w.heap.size + 1) ds.length (bitsZ ps (ds.zip st)) ∧ Below w.heap.size w wr)
      case atStart => exact ⟨0, by omega, rfl, by rw [hfz]; exact ho5, by clear hfz; obtain ⟨DD, hh, hD⟩ := hM5; exact ⟨DD, hh.mono (by omega), hD⟩, Hb0⟩
      case round =>
        clear hfz ho5 hM5 Hb0
        obtain ⟨k, hk, rfl, ho, hM, hB⟩ := hrel
        have Hk := Lib.hid hk
        clear hk
        by_cases hlt : k < ns.length
        · have hkp : k < ps.length := by rw [Hpl.out]; exact hlt
          obtain ⟨bv, ov, rfl, _, hbvl, v1⟩ := (hp.keep (Kept.of_below hB)).at_ hkp
          have hpr := hpb ps[k] (List.getElem_mem hkp)
          have hpw : (Lit.int .i64 ps[k]).wf = true := wf_small (by omega) (by omega)
          have hlk := hM.look hpw
          have hkc : k < (colL ds st ps).length := by rw [Hcl.out]; exact hlt
          obtain ⟨a1, a2, _⟩ := ho.at_ (k := k) (by rw [filled_len _ _ _ (by omega)]; exact hkc)
          have Hst := Lib.hid (filled_step (colL ds st ps) 0 k hkc)
          have Hce := Lib.hid (show (colL ds st ps)[k] = bitsZ ps (ds.zip st) ps[k] by simp [colL])
          go_wp2_with (fail)
          go_roundg (gk - 1)
          case measure => have := Hk.out; omega
          case rel =>
            refine ⟨k + 1, by have := Hk.out; omega, by go_num, ?_, hM.fr (Below.heap_setCell _ _ _ _ (by show w.heap.size + 1 ≠ go; omega)), hB.setCell (p := ⟨go, k, none⟩) (by show w.heap.size ≤ go; omega) _⟩
            rw [← Hst.out, Hce.out]
            exact ho.set k _
        · have hf : filled (colL ds st ps) 0 k = colL ds st ps := filled_all _ _ _ (by rw [Hcl.out]; omega)
          rw [hf] at ho
          clear hf
          go_wp2_with (fail)
          go_ret
          exact ⟨_, rfl, ho, by omega, hB⟩
end Go.Proofs.YtgpcojmdfmngeaaDoor

namespace Go.Proofs.YtgpcojmdfmngeaaDoor
open Go.RowKit
set_option maxHeartbeats 400000
set_option maxRecDepth 100000

def isPos (m : Int) : Bool := decide (1 ≤ m) && decide (m ≤ 2)

theorem position_any (m : Int) (w : World) (h : Tab w) : Calls Tryd.prog 127 #[.int .i64 m] w fun e w' => e = .returned (.bool (isPos m)) ∧ w = w' := by
  obtain ⟨h0, h1, h2, h3, h4, h5, h6, h7⟩ := h
  by_cases a : 0 ≤ m
  · by_cases b : m < 4
    · have : m = 0 ∨ m = 1 ∨ m = 2 ∨ m = 3 := by omega
      rcases this with rfl | rfl | rfl | rfl
      all_goals
        go_enter Tryd.func127, Tryd.ntmps127
        go_wp2
        go_ret
        exact ⟨rfl, rfl⟩
    · go_enter Tryd.func127, Tryd.ntmps127
      go_wp2
      go_ret
      exact ⟨by simp [isPos]; omega, rfl⟩
  · go_enter Tryd.func127, Tryd.ntmps127
    go_wp2
    go_ret
    exact ⟨by simp [isPos]; omega, rfl⟩
theorem goes_position : Goes 127 := fun args w => by kernel_rfl

/-- what mask.check says -/
def maskC (p : Int → Bool) (ns : List Node) (ds : List Dev) (st : List Int) : Int :=
  if checkL ns ds ≠ 0 then checkL ns ds else if st.length ≠ ds.length then 9 else if st.all p = true then 0 else 10
theorem all_drop (p : Int → Bool) (xs : List Int) (k : Nat) (h : k < xs.length) : (xs.drop k).all p = (p xs[k] && (xs.drop (k + 1)).all p) := by
  rw [List.drop_eq_getElem_cons h]; rfl

set_option maxHeartbeats 2000000 in
theorem mcheck_any (f : FuncId) (hgo : Goes f) (p : Int → Bool) (hf : ∀ x w, Tab w → Calls Tryd.prog f #[.int .i64 x] w fun e w' => e = .returned (.bool (p x)) ∧ w = w')
    (w : World) (h : TabC w) (ht : Tab w) (S : Nat → Prop) (A1 A2 : Option Addr) (c1 c2 : Nat) (ns : List Node) (ds : List Dev) (hn : NetIn w S A1 A2 ns ds) (hl1 : ns.length ≤ 65536) (hl2 : ds.length ≤ 65536)
    (U : Option Addr) (cu : Nat) (st : List Int) (hs : SI w S U st) (hsl : st.length ≤ 65536) :
    Calls Tryd.prog 124 #[.agg #[.slice A1 ns.length c1, .slice A2 ds.length c2], .slice U st.length cu, .func (.func f) #[] #[]] w fun e w' => e = .returned (.int .i64 (maskC p ns ds st)) ∧ Below w.heap.size w w' := by
  unfold Goes at hgo
  have HF := Lib.hid hf
  clear hf
  have hb := (Below.refl w.heap.size w).alloc (Nat.le_refl _) (.cells #[.slice A1 ns.length c1, .slice A2 ds.length c2] 26)
  have HC := Lib.hid (check_any _ (h.below hb) S A1 A2 c1 c2 ns ds (hn.below hb) hl1 hl2)
  have HE := Lib.hid (show maskC p ns ds st = if checkL ns ds ≠ 0 then checkL ns ds else if st.length ≠ ds.length then 9 else if st.all p = true then 0 else 10 from rfl)
  generalize checkL ns ds = ce at *
  by_cases h0 : (ce != 0) = true
  · have H0 := Lib.hid (show ¬ ce = 0 by simpa using h0)
    go_enter Tryd.func124, Tryd.ntmps124
    go_wp2_with (fail)
    refine (HC.out).mono ?_
    rintro e w1 ⟨rfl, hb1⟩
    go_wp2_with (fail)
    go_ret
    rw [HE.out, if_pos H0.out]
    exact ⟨rfl, hb.trans (hb1.mono hb.size)⟩
  · have h0' : (ce != 0) = false := by simpa using h0
    have hz : ce = 0 := by simpa using h0
    rw [if_neg (by simpa using hz)] at HE
    clear h0 hz
    by_cases hlen : st.length = ds.length
    · have hlb : ((st.length : Int) != ds.length) = false := by simp [hlen]
      rw [if_neg (by simpa using hlen)] at HE
      clear hlen
      go_enter Tryd.func124, Tryd.ntmps124
      go_wp2_with (fail)
      refine (HC.out).mono ?_
      rintro e w1 ⟨rfl, hb1⟩
      have hbA := hb.trans (hb1.mono hb.size)
      have Hbox := Lib.hid (box_at hb1)
      have n1 : w1.cell? ⟨w.heap.size, 1, none⟩ = some (.slice A2 ds.length c2) := by rw [cell_of_row w1 _ 1 _ _ _ Hbox.out]; rfl
      go_wp2_with (fail)
      clear n1 Hbox hb1 hb
      have hs1 := hs.keep (Kept.of_below hbA)
      have ht1 := ht.below hbA
      go_loopg [23] st.length (fun g i wr => wr = w1 ∧ ∃ k : Nat, k + g = st.length ∧ i = .int .i64 k ∧ st.all p = (st.drop k).all p)
      case atStart => exact ⟨rfl, 0, by omega, rfl, rfl⟩
      case round =>
        obtain ⟨rfl, k, hk, rfl, hi⟩ := hrel
        have Hi := Lib.hid hi
        clear hi
        have Hk := Lib.hid hk
        clear hk
        by_cases hlt : k < st.length
        · obtain ⟨b, off, rfl, _, _, hc⟩ := hs1.at_ hlt
          have Hd := Lib.hid (all_drop p st k hlt)
          go_wp2_with (fail)
          refine (HF.out _ _ ht1).mono ?_
          rintro e w' ⟨rfl, rfl⟩
          by_cases hp : p st[k] = true
          · rw [hp] at Hd ⊢
            clear hp
            go_wp2_with (fail)
            go_roundg (gk - 1)
            case measure => have := Hk.out; omega
            case rel =>
              have := Hk.out
              refine ⟨rfl, k + 1, by omega, by go_num, ?_⟩
              rw [Hi.out, Hd.out, Bool.true_and]
          · have hp : p st[k] = false := by simpa using hp
            rw [hp] at Hd ⊢
            clear hp
            go_wp2_with (fail)
            go_ret
            rw [HE.out, Hi.out, Hd.out]
            exact ⟨rfl, hbA⟩
        · go_wp2_with (fail)
          go_ret
          rw [HE.out, Hi.out, List.drop_of_length_le (by omega)]
          exact ⟨rfl, hbA⟩
    · have hlb : ((st.length : Int) != ds.length) = true := by simp; omega
      rw [if_pos (by simpa using hlen)] at HE
      clear hlen
      go_enter Tryd.func124, Tryd.ntmps124
      go_wp2_with (fail)
      refine (HC.out).mono ?_
      rintro e w1 ⟨rfl, hb1⟩
      have hbA := hb.trans (hb1.mono hb.size)
      have Hbox := Lib.hid (box_at hb1)
      have n1 : w1.cell? ⟨w.heap.size, 1, none⟩ = some (.slice A2 ds.length c2) := by rw [cell_of_row w1 _ 1 _ _ _ Hbox.out]; rfl
      go_wp2_with (fail)
      go_ret
      rw [HE.out]
      exact ⟨rfl, hbA⟩

theorem mstate_any (w : World) (h : TabC w) (ht : Tab w) (S : Nat → Prop) (A1 A2 : Option Addr) (c1 c2 : Nat) (ns : List Node) (ds : List Dev) (hn : NetIn w S A1 A2 ns ds) (hl1 : ns.length ≤ 65536) (hl2 : ds.length ≤ 65536)
    (U : Option Addr) (cu : Nat) (st : List Int) (hs : SI w S U st) (hsl : st.length ≤ 65536) :
    Calls Tryd.prog 47 #[.agg #[.slice A1 ns.length c1, .slice A2 ds.length c2], .slice U st.length cu] w fun e w' => e = .returned (.int .i64 (maskC isPos ns ds st)) ∧ Below w.heap.size w w' := by
  have hb := (Below.refl w.heap.size w).alloc (Nat.le_refl _) (.cells #[.slice A1 ns.length c1, .slice A2 ds.length c2] 26)
  have HC := Lib.hid (mcheck_any 127 goes_position isPos position_any _ (h.below hb) (ht.below hb) S A1 A2 c1 c2 ns ds (hn.below hb) hl1 hl2 U cu st (hs.keep (Kept.of_below hb)) hsl)
  go_enter Tryd.func47, Tryd.ntmps47
  go_wp2_with (fail)
  refine (HC.out).mono ?_
  rintro e w1 ⟨rfl, hb1⟩
  go_wp2_with (fail)
  go_ret
  exact ⟨rfl, hb.trans (hb1.mono hb.size)⟩
end Go.Proofs.YtgpcojmdfmngeaaDoor

namespace Go.Proofs.YtgpcojmdfmngeaaDoor
set_option maxHeartbeats 400000

def nbS (ds : List Dev) (st : List Int) : Nat → List Nat := nbZ (ds.zip (useOf st))
/-- v is reached from u by closed devices. -/
def Rch (ds : List Dev) (st : List Int) (u v : Nat) : Prop := ∃ k, PO.Steps (nbS ds st) k u v
theorem Rch.refl (ds : List Dev) (st : List Int) (u : Nat) : Rch ds st u u := ⟨0, rfl⟩
theorem Rch.trans {ds : List Dev} {st : List Int} {u v x : Nat} (h : Rch ds st u v) (k : Rch ds st v x) : Rch ds st u x := by
  obtain ⟨a, h⟩ := h
  obtain ⟨b, k⟩ := k
  exact h.trans k
theorem Rch.symm {n : Nat} {ds : List Dev} {st : List Int} (hD : DevsIn n ds) {u v : Nat} (h : Rch ds st u v) : Rch ds st v u := by
  obtain ⟨a, h⟩ := h
  exact ⟨a, h.symm (nbZ_symm hD _)⟩

theorem flood_dist {n : Nat} {ds : List Dev} (h : DevsIn n ds) (st : List Int) (v : Nat) (hv : v < n) : PO.Dist n (nbS ds st) [v] (floodD n ds st [v]) :=
  (PO.inv_bfs (fun u w hw => nbZ_lt h (by omega) _ u w hw) _ _ _ (PO.inv_start (fun g hm => (List.mem_singleton.1 hm) ▸ hv)) (Nat.le_refl _)).dist
theorem flood_rch {n : Nat} {ds : List Dev} (h : DevsIn n ds) (st : List Int) (v : Nat) (hv : v < n) (u : Nat) : 0 ≤ PO.at_ (floodD n ds st [v]) u ↔ Rch ds st v u := by
  have D := flood_dist h st v hv
  constructor
  · intro h0
    obtain ⟨g, hg, hs⟩ := D.path (PO.at_ (floodD n ds st [v]) u).toNat u (by omega)
    obtain rfl : g = v := by simpa using hg
    exact ⟨_, hs⟩
  · rintro ⟨k, hk⟩
    exact (D.le (u := v) (by rw [(D.zero v).2 (by simp)]; omega) hk).1

def Least (ds : List Dev) (st : List Int) (v u : Nat) : Prop := Rch ds st v u ∧ ∀ x, x < v → ¬ Rch ds st x u

theorem at_fill {out : List Int} {bs : List Bool} {v : Int} {u : Nat} (h1 : u < out.length) (h2 : u < bs.length) : PO.at_ (fillP out bs v) u = if bs[u] then v else PO.at_ out u := by
  rw [at_get (by rw [fillP_len]; exact h1), fillP_at out bs v u h1 h2, at_get h1]

theorem partsTo_inv {n : Nat} {ds : List Dev} (h : DevsIn n ds) (st : List Int) : ∀ k, k ≤ n → ∀ u, u < n →
    (PO.at_ (partsTo n ds st k) u = -1 ∧ ∀ v, v < k → ¬ Rch ds st v u) ∨ ∃ v : Nat, v < k ∧ PO.at_ (partsTo n ds st k) u = v ∧ Least ds st v u
  | 0, _, u, _ => .inl ⟨by show PO.at_ (List.replicate n (-1)) u = -1; exact PO.at_rep n u, fun v hv => by omega⟩
  | k + 1, hk, u, hu => by
    have ih := partsTo_inv h st k (by omega)
    rw [partsTo_succ]
    unfold partStep
    by_cases hge : 0 ≤ PO.at_ (partsTo n ds st k) k
    · rw [if_pos hge]
      rcases ih k (by omega) with ⟨e, _⟩ | ⟨x, hx, _, hL⟩
      · omega
      · rcases ih u hu with ⟨e, hn⟩ | ⟨v, hv, e, hl⟩
        · refine .inl ⟨e, fun v hv hr => ?_⟩
          by_cases hvk : v = k
          · subst hvk; exact hn x hx (hL.1.trans hr)
          · exact hn v (by omega) hr
        · exact .inr ⟨v, by omega, e, hl⟩
    · rw [if_neg hge]
      have hnk : ∀ v, v < k → ¬ Rch ds st v k := by
        rcases ih k (by omega) with ⟨_, hn⟩ | ⟨x, _, e, _⟩
        · exact hn
        · omega
      have hml : u < (marks (floodD n ds st [k])).length := by rw [marks_len, (flood_dist h st k (by omega)).len]; exact hu
      rw [at_fill (by rw [partsTo_len]; exact hu) hml, marks_at]
      by_cases hr : Rch ds st k u
      · have := (flood_rch h st k (by omega) u).2 hr
        rw [decide_eq_true this]
        exact .inr ⟨k, by omega, rfl, hr, fun v hv hv2 => hnk v hv (hv2.trans (hr.symm h))⟩
      · have : ¬ 0 ≤ PO.at_ (floodD n ds st [k]) u := fun h0 => hr ((flood_rch h st k (by omega) u).1 h0)
        rw [decide_eq_false this]
        rcases ih u hu with ⟨e, hn⟩ | ⟨v, hv, e, hl⟩
        · refine .inl ⟨e, fun v hv hr2 => ?_⟩
          by_cases hvk : v = k
          · subst hvk; exact hr hr2
          · exact hn v (by omega) hr2
        · exact .inr ⟨v, by omega, e, hl⟩

/-- The number of a node's part is the least node that reaches it. -/
theorem parts_least {n : Nat} {ds : List Dev} (h : DevsIn n ds) (st : List Int) (u : Nat) (hu : u < n) : ∃ v : Nat, v ≤ u ∧ PO.at_ (partsL n ds st) u = v ∧ Least ds st v u := by
  rcases partsTo_inv h st n (Nat.le_refl _) u hu with ⟨_, hn⟩ | ⟨v, _, e, hl⟩
  · exact absurd (Rch.refl ds st u) (hn u hu)
  · refine ⟨v, ?_, e, hl⟩
    by_cases hv : v ≤ u
    · exact hv
    · exact absurd (Rch.refl ds st u) (hl.2 u (by omega))
theorem partsL_len (n : Nat) (ds : List Dev) (st : List Int) : (partsL n ds st).length = n := partsTo_len n ds st n
theorem parts_bound {n : Nat} {ds : List Dev} (h : DevsIn n ds) (hn : n ≤ 32) (st : List Int) : ∀ p ∈ partsL n ds st, 0 ≤ p ∧ p < 32 := by
  intro p hp
  obtain ⟨u, hu, rfl⟩ := List.getElem_of_mem hp
  have hu' : u < n := by rw [partsL_len] at hu; exact hu
  obtain ⟨v, hv, e, _⟩ := parts_least h st u hu'
  rw [at_get hu] at e
  omega
/-- Two nodes have one number exactly if one reaches the other. -/
theorem parts_iff {n : Nat} {ds : List Dev} (h : DevsIn n ds) (st : List Int) {u x : Nat} (hu : u < n) (hx : x < n) : PO.at_ (partsL n ds st) u = PO.at_ (partsL n ds st) x ↔ Rch ds st u x := by
  obtain ⟨a, _, ea, ha⟩ := parts_least h st u hu
  obtain ⟨b, _, eb, hb⟩ := parts_least h st x hx
  constructor
  · intro e
    obtain rfl : a = b := by omega
    exact (ha.1.symm h).trans hb.1
  · intro hr
    have h1 : ¬ a < b := fun hl => hb.2 a hl (ha.1.trans hr)
    have h2 : ¬ b < a := fun hl => ha.2 b hl (hb.1.trans (hr.symm h))
    omega
end Go.Proofs.YtgpcojmdfmngeaaDoor

namespace Go.Proofs.YtgpcojmdfmngeaaDoor
open Go.RowKit
set_option maxHeartbeats 400000
set_option maxRecDepth 100000

/-- A call hands back a new slice of ints and an error. -/
def RetIE (w : World) (r : List Int × Int) (e : Ending) (w' : World) : Prop :=
  ∃ A c, e = .returned (.tuple #[.slice A r.1.length c, .int .i64 r.2]) ∧ OI w' (fun g => w.heap.size ≤ g) A c r.1 ∧ Below w.heap.size w w'

theorem maskC_zero {p : Int → Bool} {ns : List Node} {ds : List Dev} {st : List Int} (h : maskC p ns ds st = 0) : checkL ns ds = 0 ∧ st.length = ds.length ∧ st.all p = true := by
  unfold maskC at h
  split at h
  · rename_i h1; exact absurd h h1
  · rename_i h1
    split at h
    · cases h
    · rename_i h2
      split at h
      · rename_i h3; exact ⟨by omega, by omega, h3⟩
      · cases h
def partsE (ns : List Node) (ds : List Dev) (st : List Int) : List Int × Int := if maskC isPos ns ds st ≠ 0 then ([], maskC isPos ns ds st) else (partsL ns.length ds st, 0)
def coloursE (ns : List Node) (ds : List Dev) (st : List Int) : List Int × Int := if maskC isPos ns ds st ≠ 0 then ([], maskC isPos ns ds st) else (colL ds st (partsL ns.length ds st), 0)

theorem DevsIn.across {n : Nat} {ds : List Dev} (h : DevsIn n ds) : ∀ d ∈ ds, ∀ v, acrossL d v < n := fun d hd v => by
  have := endsB_parts (h.ends d hd).2.2
  exact across_lt (h.ends d hd).2.2 (by omega) v
theorem DevsIn.first {n : Nat} {ds : List Dev} (h : DevsIn n ds) : ∀ d ∈ ds, 0 ≤ d.a ∧ d.a < n := fun d hd => by
  have := endsB_parts (h.ends d hd).2.2
  exact ⟨this.1, this.2.1⟩

set_option maxHeartbeats 2000000 in
theorem Parts_any (w : World) (h : TabC w) (ht : Tab w) (S : Nat → Prop) (A1 A2 : Option Addr) (c1 c2 : Nat) (ns : List Node) (ds : List Dev) (hn : NetIn w S A1 A2 ns ds) (hl1 : ns.length ≤ 65536) (hl2 : ds.length ≤ 65536)
    (U : Option Addr) (cu : Nat) (st : List Int) (hs : SI w S U st) (hsl : st.length ≤ 65536) :
    Calls Tryd.prog 65 #[.agg #[.slice A1 ns.length c1, .slice A2 ds.length c2], .slice U st.length cu] w (RetIE w (partsE ns ds st)) := by
  have hb := (Below.refl w.heap.size w).alloc (Nat.le_refl _) (.cells #[.slice A1 ns.length c1, .slice A2 ds.length c2] 26)
  have HC := Lib.hid (mstate_any _ (h.below hb) (ht.below hb) S A1 A2 c1 c2 ns ds (hn.below hb) hl1 hl2 U cu st (hs.keep (Kept.of_below hb)) hsl)
  have HZ := Lib.hid (@maskC_zero isPos ns ds st)
  have HE := Lib.hid (show partsE ns ds st = if maskC isPos ns ds st ≠ 0 then ([], maskC isPos ns ds st) else (partsL ns.length ds st, 0) from rfl)
  generalize maskC isPos ns ds st = ce at *
  by_cases h0 : (ce != 0) = true
  · have H0 := Lib.hid (show ¬ ce = 0 by simpa using h0)
    go_enter Tryd.func65, Tryd.ntmps65
    go_wp2_with (fail)
    refine (HC.out).mono ?_
    rintro e w1 ⟨rfl, hb1⟩
    go_wp2_with (fail)
    go_ret2
    rw [HE.out, if_pos H0.out]
    exact ⟨none, 0, rfl, OI.nil _ _, hb.trans (hb1.mono hb.size)⟩
  · have h0' : (ce != 0) = false := by simpa using h0
    have hz : ce = 0 := by simpa using h0
    obtain ⟨z1, z2, z3⟩ := HZ.out hz
    have hD := checkL_zero z1
    rw [if_neg (by simpa using hz)] at HE
    have Z2 := Lib.hid z2
    clear h0 hz HZ z1 z2 z3
    go_enter Tryd.func65, Tryd.ntmps65
    go_wp2_with (fail)
    refine (HC.out).mono ?_
    rintro e w1 ⟨rfl, hb1⟩
    have hbA := hb.trans (hb1.mono hb.size)
    have Hbox := Lib.hid (box_at hb1)
    have n0 : w1.cell? ⟨w.heap.size, 0, none⟩ = some (.slice A1 ns.length c1) := by rw [cell_of_row w1 _ 0 _ _ _ Hbox.out]; rfl
    have n1 : w1.cell? ⟨w.heap.size, 1, none⟩ = some (.slice A2 ds.length c2) := by rw [cell_of_row w1 _ 1 _ _ _ Hbox.out]; rfl
    have HP := Lib.hid (parts_any w1 S A1 A2 c1 c2 ns ds (hn.below hbA) hD.few hD.dev U cu st (hs.keep (Kept.of_below hbA)) Z2.out hD.across)
    go_wp2_with (fail)
    refine (HP.out).mono ?_
    rintro e w2 ⟨g, rfl, ho, hg, hb2⟩
    go_wp2_with (fail)
    go_ret2
    rw [HE.out]
    refine ⟨some ⟨g, 0, none⟩, ns.length, by simp [partsL_len], ho.mono (fun x _ hx => by subst hx; show w.heap.size ≤ x; have := hbA.size; omega), hbA.trans (hb2.mono hbA.size)⟩

set_option maxHeartbeats 2000000 in
theorem Colours_any (w : World) (h : TabC w) (ht : Tab w) (S : Nat → Prop) (A1 A2 : Option Addr) (c1 c2 : Nat) (ns : List Node) (ds : List Dev) (hn : NetIn w S A1 A2 ns ds) (hl1 : ns.length ≤ 65536) (hl2 : ds.length ≤ 65536)
    (U : Option Addr) (cu : Nat) (st : List Int) (hs : SI w S U st) (hsl : st.length ≤ 65536) :
    Calls Tryd.prog 67 #[.agg #[.slice A1 ns.length c1, .slice A2 ds.length c2], .slice U st.length cu] w (RetIE w (coloursE ns ds st)) := by
  have hb := (Below.refl w.heap.size w).alloc (Nat.le_refl _) (.cells #[.slice A1 ns.length c1, .slice A2 ds.length c2] 26)
  have HC := Parts_any _ (h.below hb) (ht.below hb) S A1 A2 c1 c2 ns ds (hn.below hb) hl1 hl2 U cu st (hs.keep (Kept.of_below hb)) hsl
  have HZ := Lib.hid (@maskC_zero isPos ns ds st)
  have HE := Lib.hid (show coloursE ns ds st = if maskC isPos ns ds st ≠ 0 then ([], maskC isPos ns ds st) else (colL ds st (partsL ns.length ds st), 0) from rfl)
  unfold partsE at HC
  generalize maskC isPos ns ds st = ce at *
  by_cases h0 : (ce != 0) = true
  · have H0 := Lib.hid (show ¬ ce = 0 by simpa using h0)
    rw [if_pos H0.out] at HC
    have HC := Lib.hid HC
    go_enter Tryd.func67, Tryd.ntmps67
    go_wp2_with (fail)
    refine (HC.out).mono ?_
    rintro e w1 ⟨A, c, rfl, ho1, hb1⟩
    go_wp2_with (fail)
    go_ret2
    rw [HE.out, if_pos H0.out]
    exact ⟨none, 0, rfl, OI.nil _ _, hb.trans (hb1.mono hb.size)⟩
  · have h0' : (ce != 0) = false := by simpa using h0
    have hz : ce = 0 := by simpa using h0
    obtain ⟨z1, z2, z3⟩ := HZ.out hz
    have hD := checkL_zero z1
    rw [if_neg (by simpa using hz)] at HE HC
    have HC := Lib.hid HC
    have Z2 := Lib.hid z2
    clear h0 h0' hz HZ z1 z2 z3
    have Hpl := Lib.hid (partsL_len ns.length ds st)
    have Hpb := Lib.hid (parts_bound hD hD.few st)
    generalize partsL ns.length ds st = ps at *
    go_enter Tryd.func67, Tryd.ntmps67
    go_wp2_with (fail)
    refine (HC.out).mono ?_
    rintro e w1 ⟨A, c, rfl, ho1, hb1⟩
    have hbA := hb.trans (hb1.mono hb.size)
    have Hbox := Lib.hid (box_at hb1)
    have n0 : w1.cell? ⟨w.heap.size, 0, none⟩ = some (.slice A1 ns.length c1) := by rw [cell_of_row w1 _ 0 _ _ _ Hbox.out]; rfl
    have n1 : w1.cell? ⟨w.heap.size, 1, none⟩ = some (.slice A2 ds.length c2) := by rw [cell_of_row w1 _ 1 _ _ _ Hbox.out]; rfl
    have HP := colours_any w1 (fun _ => True) A1 A2 c1 c2 ns ds ((hn.below hbA).mono (fun _ _ _ => trivial)) hD.few hD.dev U cu st ((hs.keep (Kept.of_below hbA)).mono (fun _ _ _ => trivial)) Z2.out A c ps ((OI.si ho1).mono (fun _ _ _ => trivial)) Hpl.out Hpb.out hD.first
    have HP : Calls Tryd.prog 138 #[.agg #[.slice A1 ns.length c1, .slice A2 ds.length c2], .slice U st.length cu, .slice A ps.length c] w1
      fun e w' => ∃ g, e = .returned (.slice (some ⟨g, 0, none⟩) ns.length ns.length) ∧ OIb w' g ns.length (colL ds st ps) ∧ w1.heap.size ≤ g ∧ Below w1.heap.size w1 w' := by
      rw [Hpl.out]; exact HP
    have HP := Lib.hid HP
    go_wp2_with (fail)
    refine (HP.out).mono ?_
    rintro e w2 ⟨g, rfl, ho, hg, hb2⟩
    go_wp2_with (fail)
    go_ret2
    rw [HE.out]
    refine ⟨some ⟨g, 0, none⟩, ns.length, by simp [colL, Hpl.out], ho.mono (fun x _ hx => by subst hx; show w.heap.size ≤ x; have := hbA.size; omega), hbA.trans (hb2.mono hbA.size)⟩

/-- the nodes that are live and earthed, from k on -/
def flt : List Int → Nat → List Int
  | [], _ => []
  | x :: xs, k => if x = 3 then (k : Int) :: flt xs (k + 1) else flt xs (k + 1)
theorem flt_drop (xs : List Int) (k : Nat) (h : k < xs.length) : flt (xs.drop k) k = if xs[k] = 3 then (k : Int) :: flt (xs.drop (k + 1)) (k + 1) else flt (xs.drop (k + 1)) (k + 1) := by
  rw [List.drop_eq_getElem_cons h]; rfl
def faultsE (ns : List Node) (ds : List Dev) (st : List Int) : List Int × Int := (flt (coloursE ns ds st).1 0, (coloursE ns ds st).2)

theorem coloursE_len (ns : List Node) (ds : List Dev) (st : List Int) : (coloursE ns ds st).1.length ≤ ns.length := by
  unfold coloursE
  split
  · simp
  · simp [colL, partsL_len]

set_option maxHeartbeats 2000000 in
theorem Faults_any (w : World) (h : TabC w) (ht : Tab w) (S : Nat → Prop) (A1 A2 : Option Addr) (c1 c2 : Nat) (ns : List Node) (ds : List Dev) (hn : NetIn w S A1 A2 ns ds) (hl1 : ns.length ≤ 65536) (hl2 : ds.length ≤ 65536)
    (U : Option Addr) (cu : Nat) (st : List Int) (hs : SI w S U st) (hsl : st.length ≤ 65536) :
    Calls Tryd.prog 71 #[.agg #[.slice A1 ns.length c1, .slice A2 ds.length c2], .slice U st.length cu] w (RetIE w (faultsE ns ds st)) := by
  have hb := (Below.refl w.heap.size w).alloc (Nat.le_refl _) (.cells #[.slice A1 ns.length c1, .slice A2 ds.length c2] 26)
  have HC := Lib.hid (Colours_any _ (h.below hb) (ht.below hb) S A1 A2 c1 c2 ns ds (hn.below hb) hl1 hl2 U cu st (hs.keep (Kept.of_below hb)) hsl)
  have hcl := coloursE_len ns ds st
  unfold faultsE
  generalize coloursE ns ds st = r at *
  obtain ⟨cs, ce⟩ := r
  have hcl : cs.length ≤ 65536 := by simp at hcl; omega
  go_enter Tryd.func71, Tryd.ntmps71
  go_wp2_with (fail)
  refine (HC.out).mono ?_
  rintro e w1 ⟨A, c, rfl, ho1, hb1⟩
  have hbA := hb.trans (hb1.mono hb.size)
  have hs1 : SI w1 (fun g => w.heap.size < g) A cs := (OI.si ho1).mono (fun x _ hx => by simp at hx; show w.heap.size < x; omega)
  clear ho1 hb1 hb HC
  go_wp2_with (fail)
  go_loopg [8, 19] cs.length (fun g v i wr => ∃ (k : Nat) (A' : Option Addr) (c' : Nat) (ys : List Int), k + g = cs.length ∧ i = .int .i64 k ∧ v = .slice A' ys.length c' ∧ OI wr (fun g => w1.heap.size ≤ g) A' c' ys ∧ Below w1.heap.size w1 wr ∧
    ys ++ flt (cs.drop k) k = flt cs 0 ∧ ys.length ≤ k)
  case atStart => exact ⟨0, none, 0, [], by simp, rfl, rfl, OI.nil _ _, Below.refl _ _, rfl, Nat.le_refl _⟩
  case round =>
    obtain ⟨k, A', c', ys, hk, rfl, rfl, hown, hbel, hi, hyl⟩ := hrel
    have Hi := Lib.hid hi
    clear hi
    have Hk := Lib.hid hk
    clear hk
    have hs' := hs1.keep (Kept.of_below hbel)
    by_cases hlt : k < cs.length
    · obtain ⟨b, off, rfl, _, _, hc⟩ := hs'.at_ hlt
      have Hd := Lib.hid (flt_drop cs k hlt)
      go_wp2_with (at_builtin; go_must (refine wpList_push (B := w1.heap.size) rfl (.tmp 26) (.tmp 28) rfl rfl rfl rfl (hown.keep (Kept.alloc _ _ _)) (new_cell _ _ _) (by omega) (by simp; have := hbel.size; omega) ?_); intro A1 c1 w1 ho1 hb1 _ _)
      · go_roundg (gk - 1)
        case measure => have := Hk.out; omega
        case rel =>
          have := Hk.out
          refine ⟨k + 1, _, _, _, by omega, by go_num, ?_, ho1, (hbel.alloc hbel.size _).trans hb1, ?_, ?_⟩
          · simp
          · rw [← Hi.out, Hd.out, if_pos (by simp_all)]; simp
          · simp; omega
      · go_roundg (gk - 1)
        case measure => have := Hk.out; omega
        case rel =>
          have := Hk.out
          refine ⟨k + 1, _, _, _, by omega, by go_num, rfl, hown, hbel, ?_, by omega⟩
          rw [← Hi.out, Hd.out, if_neg (by simp_all)]
    · go_wp2_with (fail)
      go_ret2
      have e := Hi.out
      rw [List.drop_of_length_le (by omega)] at e
      have e : flt cs 0 = ys := by rw [← e]; simp [flt]
      rw [e]
      exact ⟨A', c', rfl, hown.mono (fun x _ hx => by show w.heap.size ≤ x; have := hbA.size; have : w1.heap.size ≤ x := hx; omega), hbA.trans (hbel.mono hbA.size)⟩

def joinedE (ns : List Node) (ds : List Dev) (st : List Int) (a b : Int) : Bool × Int :=
  if maskC isPos ns ds st ≠ 0 then (false, maskC isPos ns ds st) else if existsB ns.length a = false ∨ existsB ns.length b = false then (false, 7) else (PO.at_ (partsL ns.length ds st) a.toNat == PO.at_ (partsL ns.length ds st) b.toNat, 0)

set_option maxHeartbeats 2000000 in
theorem Joined_any (w : World) (h : TabC w) (ht : Tab w) (S : Nat → Prop) (A1 A2 : Option Addr) (c1 c2 : Nat) (ns : List Node) (ds : List Dev) (hn : NetIn w S A1 A2 ns ds) (hl1 : ns.length ≤ 65536) (hl2 : ds.length ≤ 65536)
    (U : Option Addr) (cu : Nat) (st : List Int) (hs : SI w S U st) (hsl : st.length ≤ 65536) (a b : Int) :
    Calls Tryd.prog 74 #[.agg #[.slice A1 ns.length c1, .slice A2 ds.length c2], .slice U st.length cu, .int .i64 a, .int .i64 b] w fun e w' => e = .returned (.tuple #[.bool (joinedE ns ds st a b).1, .int .i64 (joinedE ns ds st a b).2]) ∧ Below w.heap.size w w' := by
  have hb := (Below.refl w.heap.size w).alloc (Nat.le_refl _) (.cells #[.slice A1 ns.length c1, .slice A2 ds.length c2] 26)
  have HC := Parts_any _ (h.below hb) (ht.below hb) S A1 A2 c1 c2 ns ds (hn.below hb) hl1 hl2 U cu st (hs.keep (Kept.of_below hb)) hsl
  have HE := Lib.hid (show joinedE ns ds st a b = if maskC isPos ns ds st ≠ 0 then (false, maskC isPos ns ds st) else if existsB ns.length a = false ∨ existsB ns.length b = false then (false, 7) else (PO.at_ (partsL ns.length ds st) a.toNat == PO.at_ (partsL ns.length ds st) b.toNat, 0) from rfl)
  unfold partsE at HC
  have HX := fun w => exists_any A1 A2 ns.length c1 ds.length c2 a w
  have HY := fun w => exists_any A1 A2 ns.length c1 ds.length c2 b w
  have Xa := @exists_pos ns.length a
  have Xb := @exists_pos ns.length b
  generalize maskC isPos ns ds st = ce at *
  generalize existsB ns.length a = ea at *
  generalize existsB ns.length b = eb at *
  have HX := Lib.hid HX
  have HY := Lib.hid HY
  have Xa := Lib.hid Xa
  have Xb := Lib.hid Xb
  by_cases h0 : (ce != 0) = true
  · have H0 := Lib.hid (show ¬ ce = 0 by simpa using h0)
    rw [if_pos H0.out] at HC
    have HC := Lib.hid HC
    go_enter Tryd.func74, Tryd.ntmps74
    go_wp2_with (fail)
    refine (HC.out).mono ?_
    rintro e w1 ⟨A, c, rfl, ho1, hb1⟩
    go_wp2_with (fail)
    go_ret2
    rw [HE.out, if_pos H0.out]
    exact ⟨rfl, hb.trans (hb1.mono hb.size)⟩
  · have h0' : (ce != 0) = false := by simpa using h0
    have hz : ce = 0 := by simpa using h0
    rw [if_neg (by simpa using hz)] at HE HC
    have HC := Lib.hid HC
    clear h0 h0' hz
    have Hpl := Lib.hid (partsL_len ns.length ds st)
    generalize partsL ns.length ds st = ps at *
    go_enter Tryd.func74, Tryd.ntmps74
    go_wp2_with (fail)
    refine (HC.out).mono ?_
    rintro e w1 ⟨A, c, rfl, ho1, hb1⟩
    have hbA := hb.trans (hb1.mono hb.size)
    have Hbox := Lib.hid (box_at hb1)
    have n0 : w1.cell? ⟨w.heap.size, 0, none⟩ = some (.slice A1 ns.length c1) := by rw [cell_of_row w1 _ 0 _ _ _ Hbox.out]; rfl
    have n1 : w1.cell? ⟨w.heap.size, 1, none⟩ = some (.slice A2 ds.length c2) := by rw [cell_of_row w1 _ 1 _ _ _ Hbox.out]; rfl
    go_wp2_with (fail)
    refine (HX.out w1).mono ?_
    rintro e w2 ⟨rfl, hb2⟩
    have hbB := hbA.trans (hb2.mono hbA.size)
    have n0' : w2.cell? ⟨w.heap.size, 0, none⟩ = some (.slice A1 ns.length c1) := (hb2.cell (p := ⟨w.heap.size, 0, none⟩) (World.block_lt_of_cell? _ _ n0)).trans n0
    have n1' : w2.cell? ⟨w.heap.size, 1, none⟩ = some (.slice A2 ds.length c2) := (hb2.cell (p := ⟨w.heap.size, 1, none⟩) (World.block_lt_of_cell? _ _ n1)).trans n1
    clear n0 n1 Hbox
    cases ea
    · go_wp2_with (fail)
      go_ret2
      rw [HE.out, if_pos (by simp)]
      exact ⟨rfl, hbB⟩
    · go_wp2_with (fail)
      refine (HY.out w2).mono ?_
      rintro e w3 ⟨rfl, hb3⟩
      have hbC := hbB.trans (hb3.mono hbB.size)
      clear n0' n1'
      cases eb
      · go_wp2_with (fail)
        go_ret2
        rw [HE.out, if_pos (by simp)]
        exact ⟨rfl, hbC⟩
      · rw [if_neg (by decide)] at HE
        obtain ⟨ka, rfl, hka⟩ := Xa.out (by simp)
        obtain ⟨kb, rfl, hkb⟩ := Xb.out (by simp)
        simp only [Int.toNat_natCast] at HE
        have hka' : ka < ps.length := by rw [Hpl.out]; exact hka
        have hkb' : kb < ps.length := by rw [Hpl.out]; exact hkb
        have hs3 := (OI.si ho1).keep (Kept.of_below (hb2.trans (hb3.mono hb2.size)))
        obtain ⟨g, off, rfl, _, _, q1⟩ := hs3.at_ hka'
        obtain ⟨g2, off2, e2, _, _, q2⟩ := hs3.at_ hkb'
        injection e2 with e2
        injection e2 with e2 e3
        subst e2 e3
        rw [← at_get hka'] at q1
        rw [← at_get hkb'] at q2
        clear hs3 Xa Xb HX HY hb2 hb3
        go_wp2_with (go_quiet (fail))
        go_ret2
        rw [HE.out]
        exact ⟨rfl, hbC.trans (below_drewN _ _ nq)⟩
end Go.Proofs.YtgpcojmdfmngeaaDoor

namespace Go.Proofs.YtgpcojmdfmngeaaDoor
set_option maxHeartbeats 400000

theorem across_not {d : Dev} (h : joinsB d.kind = false) (v : Int) : acrossL d v = -1 := by unfold acrossL; rw [if_pos h]
/-- The states of the devices that join are the same. -/
inductive SameJ : List Dev → List Int → List Int → Prop
  | nil : SameJ [] [] []
  | cons {d : Dev} {ds : List Dev} {x y : Int} {st st' : List Int} (h : joinsB d.kind = true → x = y) (t : SameJ ds st st') : SameJ (d :: ds) (x :: st) (y :: st')
theorem SameJ.nb {ds : List Dev} {st st' : List Int} (h : SameJ ds st st') (v : Nat) : nbZ (ds.zip (useOf st)) v = nbZ (ds.zip (useOf st')) v := by
  induction h with
  | nil => rfl
  | @cons d ds x y st st' hj t ih =>
    unfold nbZ useOf at *
    simp only [List.map_cons, List.zip_cons_cons, List.filterMap_cons]
    cases hk : joinsB d.kind
    · rw [across_not hk]
      simpa using ih
    · rw [hj hk, ih]
theorem SameJ.parts {ds : List Dev} {st st' : List Int} (h : SameJ ds st st') (n : Nat) : partsL n ds st = partsL n ds st' := by
  have e : nbZ (ds.zip (useOf st)) = nbZ (ds.zip (useOf st')) := funext h.nb
  have f : partStep n ds st = partStep n ds st' := by
    funext out v
    unfold partStep floodD
    rw [e]
  unfold partsL partsTo
  rw [f]

/-- The devices of a sort opened. -/
def putL (p : Dev → Bool) : List Dev → List Int → List Int
  | d :: ds, x :: st => (if p d then 1 else x) :: putL p ds st
  | _, st => st
theorem putL_len (p : Dev → Bool) : ∀ (ds : List Dev) (st : List Int), (putL p ds st).length = st.length
  | [], st => by cases st <;> rfl
  | _ :: _, [] => rfl
  | d :: ds, x :: st => by simp [putL, putL_len p ds st]
theorem putL_at (p : Dev → Bool) : ∀ (ds : List Dev) (st : List Int) (i : Nat) (h1 : i < ds.length) (h2 : i < st.length), (putL p ds st)[i]'(by rw [putL_len]; exact h2) = if p ds[i] then 1 else st[i]
  | [], _, _, h, _ => by simp at h
  | _ :: _, [], _, _, h => by simp at h
  | d :: ds, x :: st, 0, _, _ => rfl
  | d :: ds, x :: st, i + 1, h1, h2 => by simpa [putL] using putL_at p ds st i (by simpa using h1) (by simpa using h2)
theorem putL_same {p : Dev → Bool} (hp : ∀ d, joinsB d.kind = true → p d = false) : ∀ (ds : List Dev) (st : List Int), st.length = ds.length → SameJ ds (putL p ds st) st
  | [], [], _ => .nil
  | [], _ :: _, h => by simp at h
  | _ :: _, [], h => by simp at h
  | d :: ds, x :: st, h => .cons (fun hj => by simp [hp d hj]) (putL_same hp ds st (by simpa using h))
theorem putL_pos {p : Dev → Bool} : ∀ (ds : List Dev) (st : List Int), (∀ x ∈ st, x = 1 ∨ x = 2) → ∀ x ∈ putL p ds st, x = 1 ∨ x = 2
  | [], st, h => by cases st <;> exact h
  | _ :: _, [], h => h
  | d :: ds, x :: st, h => fun y hy => by
    rcases List.mem_cons.1 hy with rfl | hy
    · split
      · exact .inl rfl
      · exact h x (by simp)
    · exact putL_pos ds st (fun z hz => h z (by simp [hz])) y hy
def isSrc (d : Dev) : Bool := (d.kind == 5) || (d.kind == 6)
def isEar (d : Dev) : Bool := d.kind == 4
theorem joins_src (d : Dev) (h : joinsB d.kind = true) : isSrc d = false := by unfold joinsB at h; simp [isSrc] at *; omega
theorem joins_ear (d : Dev) (h : joinsB d.kind = true) : isEar d = false := by unfold joinsB at h; simp [isEar] at *; omega

theorem live_dark (ps : List Int) (p : Int) : ∀ (ds : List Dev) (st : List Int), (ds.zip (putL isSrc ds st)).any (liveZ ps p) = false
  | [], st => by cases st <;> rfl
  | _ :: _, [] => rfl
  | d :: ds, x :: st => by
    simp only [putL, List.zip_cons_cons, List.any_cons, live_dark ps p ds st, Bool.or_false]
    unfold liveZ isSrc
    cases h5 : (d.kind == 5) <;> cases h6 : (d.kind == 6) <;> simp
theorem earth_dark (ps : List Int) (p : Int) : ∀ (ds : List Dev) (st : List Int), (ds.zip (putL isSrc ds st)).any (earthZ ps p) = (ds.zip st).any (earthZ ps p)
  | [], st => by cases st <;> rfl
  | _ :: _, [] => rfl
  | d :: ds, x :: st => by
    simp only [putL, List.zip_cons_cons, List.any_cons, earth_dark ps p ds st]
    congr 1
    unfold earthZ isSrc
    cases h4 : (d.kind == 4)
    · simp
    · have : d.kind = 4 := by simpa using h4
      simp [this]
theorem earth_free (ps : List Int) (p : Int) : ∀ (ds : List Dev) (st : List Int), (ds.zip (putL isEar ds st)).any (earthZ ps p) = false
  | [], st => by cases st <;> rfl
  | _ :: _, [] => rfl
  | d :: ds, x :: st => by
    simp only [putL, List.zip_cons_cons, List.any_cons, earth_free ps p ds st, Bool.or_false]
    unfold earthZ isEar
    cases h4 : (d.kind == 4) <;> simp
theorem live_free (ps : List Int) (p : Int) : ∀ (ds : List Dev) (st : List Int), (ds.zip (putL isEar ds st)).any (liveZ ps p) = (ds.zip st).any (liveZ ps p)
  | [], st => by cases st <;> rfl
  | _ :: _, [] => rfl
  | d :: ds, x :: st => by
    simp only [putL, List.zip_cons_cons, List.any_cons, live_free ps p ds st]
    congr 1
    unfold liveZ isEar
    cases h4 : (d.kind == 4)
    · simp
    · have : d.kind = 4 := by simpa using h4
      simp [this]

theorem mask_ok {ns : List Node} {ds : List Dev} {st : List Int} (hc : checkL ns ds = 0) (hl : st.length = ds.length) (hp : ∀ x ∈ st, x = 1 ∨ x = 2) : maskC isPos ns ds st = 0 := by
  have ha : st.all isPos = true := List.all_eq_true.2 (fun x hx => by rcases hp x hx with rfl | rfl <;> rfl)
  unfold maskC
  rw [if_neg (by simpa using hc), if_neg (by simpa using hl), if_pos ha]
theorem colours_ok {ns : List Node} {ds : List Dev} {st : List Int} (hc : checkL ns ds = 0) (hl : st.length = ds.length) (hp : ∀ x ∈ st, x = 1 ∨ x = 2) : coloursE ns ds st = (colL ds st (partsL ns.length ds st), 0) := by
  unfold coloursE; rw [mask_ok hc hl hp]; rfl
theorem parts_ok {ns : List Node} {ds : List Dev} {st : List Int} (hc : checkL ns ds = 0) (hl : st.length = ds.length) (hp : ∀ x ∈ st, x = 1 ∨ x = 2) : partsE ns ds st = (partsL ns.length ds st, 0) := by
  unfold partsE; rw [mask_ok hc hl hp]; rfl
theorem colL_len (ds : List Dev) (st ps : List Int) : (colL ds st ps).length = ps.length := by simp [colL]

/-- What the three lists of colours hold at a node. -/
theorem sources_at {n : Nat} {ds : List Dev} {st : List Int} (hl : st.length = ds.length) (v : Nat) (hv : v < n) : ∃ l e : Bool,
    PO.at_ (colL ds (putL isSrc ds st) (partsL n ds (putL isSrc ds st))) v = colV false e ∧ PO.at_ (colL ds (putL isEar ds st) (partsL n ds (putL isEar ds st))) v = colV l false ∧ PO.at_ (colL ds st (partsL n ds st)) v = colV l e := by
  rw [(putL_same joins_src ds st hl).parts, (putL_same joins_ear ds st hl).parts]
  have hlen := partsL_len n ds st
  generalize partsL n ds st = ps at *
  have hv' : v < ps.length := by omega
  rw [at_get (by rw [colL_len]; exact hv'), at_get (by rw [colL_len]; exact hv'), at_get (by rw [colL_len]; exact hv')]
  simp only [colL, List.getElem_map, bitsZ, live_dark, earth_dark, live_free, earth_free]
  exact ⟨_, _, rfl, rfl, rfl⟩
theorem flt_mem : ∀ (cs : List Int) (k v : Nat), (((v : Nat) : Int) ∈ flt cs k) ↔ k ≤ v ∧ cs[v - k]? = some 3
  | [], k, v => by simp [flt]
  | c :: cs, k, v => by
    have ih := flt_mem cs (k + 1) v
    unfold flt
    by_cases hkv : k = v
    · subst hkv
      have : ¬ ((k : Int) ∈ flt cs (k + 1)) := fun h => by have := ih.1 h; omega
      by_cases hc : c = 3
      · simp [hc]
      · simp [hc, this]
    · by_cases hlt : k < v
      · have e : v - k = (v - (k + 1)) + 1 := by omega
        rw [e, List.getElem?_cons_succ]
        have ne : ¬ ((v : Int) = k) := by omega
        split
        · rw [List.mem_cons, ih]
          simp only [ne, false_or]
          constructor <;> rintro ⟨_, h⟩ <;> exact ⟨by omega, h⟩
        · rw [ih]
          constructor <;> rintro ⟨_, h⟩ <;> exact ⟨by omega, h⟩
      · have h1 : ¬ ((v : Int) ∈ flt cs (k + 1)) := fun h => by have := ih.1 h; omega
        have ne : ¬ ((v : Int) = k) := by omega
        split
        · simp [ne, h1]; omega
        · simp [h1]; omega
end Go.Proofs.YtgpcojmdfmngeaaDoor

namespace Go.Proofs.YtgpcojmdfmngeaaDoor
set_option maxHeartbeats 400000

/-- every device closed in st is closed in st' -/
def Up (st st' : List Int) : Prop := st.length = st'.length ∧ ∀ j : Nat, st[j]? = some 2 → st'[j]? = some 2
theorem mem_nbS {ds : List Dev} {st : List Int} {u v : Nat} : v ∈ nbS ds st u ↔ ∃ (j : Nat) (d : Dev), ds[j]? = some d ∧ st[j]? = some 2 ∧ acrossL d u = v := by
  unfold nbS
  rw [mem_nbZ]
  constructor
  · rintro ⟨d, hm, he⟩
    obtain ⟨j, hj, e⟩ := List.getElem_of_mem hm
    rw [List.getElem_zip] at e
    simp only [Prod.mk.injEq] at e
    have h1 : j < ds.length := by simp at hj; omega
    have h2 : j < st.length := by simp [useOf] at hj; omega
    refine ⟨j, d, by rw [List.getElem?_eq_getElem h1, e.1], ?_, he⟩
    have := e.2
    simp [useOf] at this
    rw [List.getElem?_eq_getElem h2, this]
  · rintro ⟨j, d, h1, h2, he⟩
    refine ⟨d, ?_, he⟩
    obtain ⟨l1, e1⟩ := List.getElem?_eq_some_iff.1 h1
    obtain ⟨l2, e2⟩ := List.getElem?_eq_some_iff.1 h2
    have hl : j < (ds.zip (useOf st)).length := by simp [useOf]; omega
    have : (ds.zip (useOf st))[j] = (d, true) := by rw [List.getElem_zip]; simp [useOf, e1, e2]
    rw [← this]
    exact List.getElem_mem hl
theorem Up.rch {ds : List Dev} {st st' : List Int} (h : Up st st') {u v : Nat} (hr : Rch ds st u v) : Rch ds st' u v := by
  obtain ⟨k, hk⟩ := hr
  refine ⟨k, hk.mono (fun a b hb => ?_)⟩
  obtain ⟨j, d, h1, h2, he⟩ := mem_nbS.1 hb
  exact mem_nbS.2 ⟨j, d, h1, h.2 j h2, he⟩
theorem Up.parts {n : Nat} {ds : List Dev} {st st' : List Int} (hD : DevsIn n ds) (h : Up st st') {v : Nat} (hv : v < n) : PO.at_ (partsL n ds st') v ≤ PO.at_ (partsL n ds st) v := by
  obtain ⟨a, _, ea, ha⟩ := parts_least hD st v hv
  obtain ⟨b, _, eb, hb⟩ := parts_least hD st' v hv
  have : ¬ a < b := fun hl => hb.2 a hl (h.rch ha.1)
  omega

def kindZ (K : Dev → Bool) (ps : List Int) (p : Int) (z : Dev × Int) : Bool := (z.2 == 2) && K z.1 && (PO.at_ ps z.1.a.toNat == p)
theorem any_kind {K : Dev → Bool} {ds : List Dev} {st ps : List Int} {p : Int} : (ds.zip st).any (kindZ K ps p) = true ↔ ∃ (j : Nat) (d : Dev), ds[j]? = some d ∧ st[j]? = some 2 ∧ K d = true ∧ PO.at_ ps d.a.toNat = p := by
  rw [List.any_eq_true]
  constructor
  · rintro ⟨z, hm, hz⟩
    obtain ⟨j, hj, e⟩ := List.getElem_of_mem hm
    rw [List.getElem_zip] at e
    have h1 : j < ds.length := by simp at hj; omega
    have h2 : j < st.length := by simp at hj; omega
    subst e
    simp only [kindZ, Bool.and_eq_true, beq_iff_eq] at hz
    exact ⟨j, ds[j], List.getElem?_eq_getElem h1, by rw [List.getElem?_eq_getElem h2, hz.1.1], hz.1.2, hz.2⟩
  · rintro ⟨j, d, h1, h2, hK, hp⟩
    obtain ⟨l1, e1⟩ := List.getElem?_eq_some_iff.1 h1
    obtain ⟨l2, e2⟩ := List.getElem?_eq_some_iff.1 h2
    have hl : j < (ds.zip st).length := by simp; omega
    refine ⟨(ds.zip st)[j], List.getElem_mem hl, ?_⟩
    rw [List.getElem_zip, e1, e2]
    simp [kindZ, hK, hp]
theorem Up.kind {n : Nat} {ds : List Dev} {st st' : List Int} (hD : DevsIn n ds) (h : Up st st') (K : Dev → Bool) {v : Nat} (hv : v < n)
    (ha : (ds.zip st).any (kindZ K (partsL n ds st) (PO.at_ (partsL n ds st) v)) = true) : (ds.zip st').any (kindZ K (partsL n ds st') (PO.at_ (partsL n ds st') v)) = true := by
  obtain ⟨j, d, h1, h2, hK, hp⟩ := any_kind.1 ha
  have hd := hD.first d (List.mem_of_getElem? h1)
  have hr := h.rch ((parts_iff hD st (by omega) hv).1 hp)
  exact any_kind.2 ⟨j, d, h1, h.2 j h2, hK, (parts_iff hD st' (by omega) hv).2 hr⟩
/-- A node keeps its colours. -/
theorem Up.col {n : Nat} {ds : List Dev} {st st' : List Int} (hD : DevsIn n ds) (h : Up st st') {v : Nat} (hv : v < n) :
    ∃ l e l' e' : Bool, PO.at_ (colL ds st (partsL n ds st)) v = colV l e ∧ PO.at_ (colL ds st' (partsL n ds st')) v = colV l' e' ∧ (l = true → l' = true) ∧ (e = true → e' = true) := by
  have h1 := partsL_len n ds st
  have h2 := partsL_len n ds st'
  rw [at_get (by rw [colL_len, h1]; exact hv), at_get (by rw [colL_len, h2]; exact hv)]
  simp only [colL, List.getElem_map, bitsZ]
  have e1 : (partsL n ds st)[v]'(by omega) = PO.at_ (partsL n ds st) v := (at_get (by omega)).symm
  have e2 : (partsL n ds st')[v]'(by omega) = PO.at_ (partsL n ds st') v := (at_get (by omega)).symm
  rw [e1, e2]
  exact ⟨_, _, _, _, rfl, rfl, h.kind hD (fun d => (d.kind == 5) || (d.kind == 6)) hv, h.kind hD (fun d => d.kind == 4) hv⟩

theorem rch_of_edges {ds : List Dev} {st st' : List Int} (h : ∀ u v, v ∈ nbS ds st' u → Rch ds st u v) {u v : Nat} (hr : Rch ds st' u v) : Rch ds st u v := by
  obtain ⟨k, hk⟩ := hr
  induction k generalizing u with
  | zero => have e : u = v := hk; subst e; exact Rch.refl _ _ _
  | succ k ih =>
    obtain ⟨m, hm, hk⟩ := hk
    exact (h u m hm).trans (ih hk)
theorem Least.unique {ds : List Dev} {st : List Int} {a b u : Nat} (ha : Least ds st a u) (hb : Least ds st b u) : a = b := by
  have h1 : ¬ a < b := fun hl => hb.2 a hl ha.1
  have h2 : ¬ b < a := fun hl => ha.2 b hl hb.1
  omega
theorem parts_root {n : Nat} {ds : List Dev} (h : DevsIn n ds) (st : List Int) {u : Nat} (hu : u < n) : PO.at_ (partsL n ds st) u = u ↔ ∀ x, x < u → ¬ Rch ds st x u := by
  obtain ⟨a, hau, ea, ha⟩ := parts_least h st u hu
  constructor
  · intro e
    obtain rfl : a = u := by omega
    exact ha.2
  · intro hx
    have : ¬ a < u := fun hl => hx a hl ha.1
    omega
theorem parts_same {n : Nat} {ds : List Dev} (h : DevsIn n ds) {st st' : List Int} (hr : ∀ u v, Rch ds st u v ↔ Rch ds st' u v) {u : Nat} (hu : u < n) : PO.at_ (partsL n ds st) u = PO.at_ (partsL n ds st') u := by
  obtain ⟨a, _, ea, ha⟩ := parts_least h st u hu
  obtain ⟨b, _, eb, hb⟩ := parts_least h st' u hu
  have : a = b := Least.unique (st := st') ⟨(hr a u).1 ha.1, fun x hx h' => ha.2 x hx ((hr x u).2 h')⟩ hb
  omega
/-- One edge more. -/
theorem rch_more {ds : List Dev} {st st' : List Int} {A B : Nat} (h : ∀ u v, v ∈ nbS ds st' u → Rch ds st u v ∨ (u = A ∧ v = B) ∨ (u = B ∧ v = A)) {u v : Nat} (hr : Rch ds st' u v) :
    Rch ds st u v ∨ (Rch ds st u A ∧ Rch ds st B v) ∨ (Rch ds st u B ∧ Rch ds st A v) := by
  obtain ⟨k, hk⟩ := hr
  induction k generalizing u with
  | zero => have e : u = v := hk; subst e; exact .inl (Rch.refl _ _ _)
  | succ k ih =>
    obtain ⟨m, hm, hk⟩ := hk
    rcases h u m hm with h1 | ⟨rfl, rfl⟩ | ⟨rfl, rfl⟩
    · rcases ih hk with h2 | ⟨h2, h3⟩ | ⟨h2, h3⟩
      · exact .inl (h1.trans h2)
      · exact .inr (.inl ⟨h1.trans h2, h3⟩)
      · exact .inr (.inr ⟨h1.trans h2, h3⟩)
    · rcases ih hk with h2 | ⟨h2, h3⟩ | ⟨h2, h3⟩
      · exact .inr (.inl ⟨Rch.refl _ _ _, h2⟩)
      · exact .inr (.inl ⟨Rch.refl _ _ _, h3⟩)
      · exact .inl h3
    · rcases ih hk with h2 | ⟨h2, h3⟩ | ⟨h2, h3⟩
      · exact .inr (.inr ⟨Rch.refl _ _ _, h2⟩)
      · exact .inl h3
      · exact .inr (.inr ⟨Rch.refl _ _ _, h3⟩)

/-- the roots before k -/
def cntR (ps : List Int) : Nat → Nat
  | 0 => 0
  | k + 1 => cntR ps k + if PO.at_ ps k = k then 1 else 0
theorem cnt_same {ps qs : List Int} {n : Nat} (h : ∀ u, u < n → PO.at_ ps u = PO.at_ qs u) : ∀ k, k ≤ n → cntR ps k = cntR qs k
  | 0, _ => rfl
  | k + 1, hk => by
    unfold cntR
    rw [cnt_same h k (by omega), h k (by omega)]
theorem cnt_less {ps qs : List Int} {n M : Nat} (hM : PO.at_ ps M = M) (h : ∀ u, u < n → (PO.at_ qs u = u ↔ PO.at_ ps u = u ∧ u ≠ M)) : ∀ k, k ≤ n → cntR qs k + (if M < k then 1 else 0) = cntR ps k
  | 0, _ => by simp [cntR]
  | k + 1, hk => by
    have ih := cnt_less hM h k (by omega)
    have hi := h k (by omega)
    unfold cntR
    by_cases hMk : k = M
    · subst hMk
      rw [if_neg (by omega)] at ih
      have h1 : ¬ PO.at_ qs k = k := fun e => (hi.1 e).2 rfl
      rw [if_neg h1, if_pos hM, if_pos (by omega)]
      omega
    · by_cases hp : PO.at_ ps k = k
      · rw [if_pos (hi.2 ⟨hp, hMk⟩), if_pos hp]
        by_cases hl : M < k
        · rw [if_pos hl] at ih; rw [if_pos (by omega)]; omega
        · rw [if_neg hl] at ih; rw [if_neg (by omega)]; omega
      · rw [if_neg (fun e => hp (hi.1 e).1), if_neg hp]
        by_cases hl : M < k
        · rw [if_pos hl] at ih; rw [if_pos (by omega)]; omega
        · rw [if_neg hl] at ih; rw [if_neg (by omega)]; omega

theorem up_set (st : List Int) (i : Nat) : Up st (st.set i 2) := by
  refine ⟨by simp, fun j hj => ?_⟩
  rw [List.getElem?_set]
  obtain ⟨l, e⟩ := List.getElem?_eq_some_iff.1 hj
  split
  · rename_i e2; subst e2; simp [l]
  · exact hj
theorem edge_set {ds : List Dev} {st : List Int} {i : Nat} {d : Dev} (hd : ds[i]? = some d) {u v : Nat} (h : v ∈ nbS ds (st.set i 2) u) : v ∈ nbS ds st u ∨ acrossL d u = v := by
  obtain ⟨j, x, h1, h2, he⟩ := mem_nbS.1 h
  by_cases e : i = j
  · subst e
    rw [hd] at h1
    injection h1 with h1
    subst h1
    exact .inr he
  · rw [List.getElem?_set_ne e] at h2
    exact .inl (mem_nbS.2 ⟨j, x, h1, h2, he⟩)
theorem edge_rch {ds : List Dev} {st : List Int} {u v : Nat} (h : v ∈ nbS ds st u) : Rch ds st u v := ⟨1, v, h, rfl⟩
theorem across_two {d : Dev} (hj : joinsB d.kind = true) {u v : Nat} (h : acrossL d u = v) : (u = d.a.toNat ∧ v = d.b.toNat) ∨ (u = d.b.toNat ∧ v = d.a.toNat) := by
  unfold acrossL at h
  rw [if_neg (by simp [hj])] at h
  by_cases h1 : (d.a == (u : Int)) = true
  · rw [if_pos h1] at h
    have : d.a = u := by simpa using h1
    exact .inl ⟨by omega, by omega⟩
  · rw [if_neg h1] at h
    by_cases h2 : (d.b == (u : Int)) = true
    · rw [if_pos h2] at h
      have : d.b = u := by simpa using h2
      exact .inr ⟨by omega, by omega⟩
    · rw [if_neg h2] at h; omega
theorem across_ab {d : Dev} {n : Nat} (he : endsB d n = true) (hj : joinsB d.kind = true) : acrossL d (d.a.toNat : Nat) = d.b.toNat := by
  obtain ⟨h1, _, h3, _⟩ := endsB_parts he
  have := h3 hj
  unfold acrossL
  rw [if_neg (by simp [hj]), if_pos (by simp; omega)]
  omega
def lessZ (ps : List Int) (d : Dev) : Nat := if joinsB d.kind = true ∧ PO.at_ ps d.a.toNat ≠ PO.at_ ps d.b.toNat then 1 else 0
/-- Closing a device joins at most two parts. -/
theorem close_cnt {n : Nat} {ds : List Dev} (hD : DevsIn n ds) (st : List Int) (hl : st.length = ds.length) {i : Nat} {d : Dev} (hd : ds[i]? = some d) :
    cntR (partsL n ds (st.set i 2)) n + lessZ (partsL n ds st) d = cntR (partsL n ds st) n := by
  have he := (hD.ends d (List.mem_of_getElem? hd)).2.2
  obtain ⟨ha0, han, hjj, _⟩ := endsB_parts he
  have hup := up_set st i
  have hi : i < ds.length := (List.getElem?_eq_some_iff.1 hd).1
  have same : (∀ u v, v ∈ nbS ds (st.set i 2) u → Rch ds st u v) → cntR (partsL n ds (st.set i 2)) n = cntR (partsL n ds st) n := fun hall =>
    cnt_same (n := n) (fun u hu => parts_same hD (fun a b => ⟨rch_of_edges hall, hup.rch⟩) hu) n (Nat.le_refl _)
  unfold lessZ
  cases hj : joinsB d.kind
  · rw [if_neg (by simp)]
    refine same (fun u v hv => ?_)
    rcases edge_set hd hv with h1 | h1
    · exact edge_rch h1
    · rw [across_not hj] at h1; omega
  · have hb := hjj hj
    by_cases hne : PO.at_ (partsL n ds st) d.a.toNat = PO.at_ (partsL n ds st) d.b.toNat
    · rw [if_neg (by simp [hne])]
      have hr := (parts_iff hD st (by omega) (by omega)).1 hne
      refine same (fun u v hv => ?_)
      rcases edge_set hd hv with h1 | h1
      · exact edge_rch h1
      · rcases across_two hj h1 with ⟨rfl, rfl⟩ | ⟨rfl, rfl⟩
        · exact hr
        · exact hr.symm hD
    · rw [if_pos ⟨rfl, hne⟩]
      have hmore := fun {u v : Nat} => rch_more (A := d.a.toNat) (B := d.b.toNat) (st := st) (st' := st.set i 2) (fun u v hv => by
        rcases edge_set hd hv with h1 | h1
        · exact .inl (edge_rch h1)
        · exact .inr (across_two hj h1)) (u := u) (v := v)
      have hAB : Rch ds (st.set i 2) d.a.toNat d.b.toNat := edge_rch (mem_nbS.2 ⟨i, d, hd, by rw [List.getElem?_set]; simp; omega, across_ab he hj⟩)
      obtain ⟨pa, hpa, ea, la⟩ := parts_least hD st d.a.toNat (by omega)
      obtain ⟨pb, hpb, eb, lb⟩ := parts_least hD st d.b.toNat (by omega)
      have hpn : pa ≠ pb := by omega
      have roota : ∀ x, x < pa → ¬ Rch ds st x pa := fun x hx hr => la.2 x hx (hr.trans la.1)
      have rootb : ∀ x, x < pb → ¬ Rch ds st x pb := fun x hx hr => lb.2 x hx (hr.trans lb.1)
      have key : ∀ (M : Nat), (M = pa ∧ pb < pa) ∨ (M = pb ∧ pa < pb) → cntR (partsL n ds (st.set i 2)) n + 1 = cntR (partsL n ds st) n := by
        intro M hM
        have hMn : M < n := by omega
        have hMr : PO.at_ (partsL n ds st) M = M := (parts_root hD st hMn).2 (by rcases hM with ⟨rfl, _⟩ | ⟨rfl, _⟩; exact roota; exact rootb)
        have := cnt_less (ps := partsL n ds st) (qs := partsL n ds (st.set i 2)) (n := n) hMr (fun u hu => by
          rw [parts_root hD _ hu, parts_root hD _ hu]
          constructor
          · intro h
            refine ⟨fun x hx hr => h x hx (hup.rch hr), fun e => ?_⟩
            subst e
            rcases hM with ⟨rfl, hlt⟩ | ⟨rfl, hlt⟩
            · exact h pb hlt ((hup.rch lb.1).trans ((hAB.symm hD).trans ((hup.rch la.1).symm hD)))
            · exact h pa hlt ((hup.rch la.1).trans (hAB.trans ((hup.rch lb.1).symm hD)))
          · rintro ⟨h, hne⟩ x hx hr
            rcases hmore hr with h1 | ⟨h1, h2⟩ | ⟨h1, h2⟩
            · exact h x hx h1
            · have eu : u = pb := Least.unique ⟨h2.symm hD, fun y hy hr => h y hy (hr.trans h2)⟩ lb
              have : ¬ x < pa := fun hl => la.2 x hl h1
              omega
            · have eu : u = pa := Least.unique ⟨h2.symm hD, fun y hy hr => h y hy (hr.trans h2)⟩ la
              have : ¬ x < pb := fun hl => lb.2 x hl h1
              omega) n (Nat.le_refl _)
        rw [if_pos hMn] at this
        exact this
      rcases Nat.lt_or_gt_of_ne hpn with hlt | hlt
      · exact key pb (.inr ⟨rfl, hlt⟩)
      · exact key pa (.inl ⟨rfl, hlt⟩)
theorem cntR_le (ps : List Int) : ∀ k, cntR ps k ≤ k
  | 0 => Nat.le_refl _
  | k + 1 => by
    have := cntR_le ps k
    unfold cntR
    split <;> omega
end Go.Proofs.YtgpcojmdfmngeaaDoor

namespace Go.Proofs.YtgpcojmdfmngeaaDoor
open Go.RowKit
set_option maxHeartbeats 400000
set_option maxRecDepth 100000

theorem both_any (w : World) (S : Nat → Prop) (A1 A2 : Option Addr) (c1 c2 : Nat) (ns : List Node) (ds : List Dev) (hn : NetIn w S A1 A2 ns ds) (hD : DevsIn ns.length ds)
    (U : Option Addr) (cu : Nat) (st : List Int) (hs : SI w S U st) (hsl : st.length = ds.length) :
    Calls Tryd.prog 139 #[.agg #[.slice A1 ns.length c1, .slice A2 ds.length c2], .slice U st.length cu] w
      fun e w' => ∃ g1 g2, e = .returned (.tuple #[.slice (some ⟨g1, 0, none⟩) ns.length ns.length, .slice (some ⟨g2, 0, none⟩) ns.length ns.length]) ∧ OIb w' g1 ns.length (partsL ns.length ds st) ∧ OIb w' g2 ns.length (colL ds st (partsL ns.length ds st)) ∧
        w.heap.size ≤ g1 ∧ w.heap.size ≤ g2 ∧ Below w.heap.size w w' := by
  have hb := (Below.refl w.heap.size w).alloc (Nat.le_refl _) (.cells #[.slice A1 ns.length c1, .slice A2 ds.length c2] 26)
  have HP := Lib.hid (parts_any _ S A1 A2 c1 c2 ns ds (hn.below hb) hD.few hD.dev U cu st (hs.keep (Kept.of_below hb)) hsl hD.across)
  have HL := Lib.hid (partsL_len ns.length ds st)
  have HB := Lib.hid (parts_bound hD hD.few st)
  have HD := Lib.hid hD
  have Hsl := Lib.hid hsl
  clear hD hsl
  generalize partsL ns.length ds st = ps at *
  go_enter Tryd.func139, Tryd.ntmps139
  go_wp2_with (fail)
  refine (HP.out).mono ?_
  rintro e w1 ⟨g1, rfl, ho1, hg1, hb1⟩
  have hbA := hb.trans (hb1.mono hb.size)
  have Hbox := Lib.hid (box_at hb1)
  have n0 : w1.cell? ⟨w.heap.size, 0, none⟩ = some (.slice A1 ns.length c1) := by rw [cell_of_row w1 _ 0 _ _ _ Hbox.out]; rfl
  have n1 : w1.cell? ⟨w.heap.size, 1, none⟩ = some (.slice A2 ds.length c2) := by rw [cell_of_row w1 _ 1 _ _ _ Hbox.out]; rfl
  have HQ := Lib.hid (colours_any w1 (fun _ => True) A1 A2 c1 c2 ns ds ((hn.below hbA).mono (fun _ _ _ => trivial)) HD.out.few HD.out.dev U cu st ((hs.keep (Kept.of_below hbA)).mono (fun _ _ _ => trivial)) Hsl.out (some ⟨g1, 0, none⟩) ns.length ps (ho1.si.mono (fun _ _ _ => trivial)) HL.out HB.out HD.out.first)
  go_wp2_with (fail)
  refine (HQ.out).mono ?_
  rintro e w2 ⟨g2, rfl, ho2, hg2, hb2⟩
  have hbB := hbA.trans (hb2.mono hbA.size)
  have hg0 : w.heap.size ≤ g1 := by have := hb.size; omega
  have hg3 : w.heap.size ≤ g2 := by have := hbA.size; omega
  have ho12 := ho1.fr (hb2.block _ ho1.lt)
  go_wp2_with (fail)
  go_ret2
  exact ⟨g1, g2, rfl, ho12, ho2, hg0, hg3, hbB⟩
end Go.Proofs.YtgpcojmdfmngeaaDoor

namespace Go.Proofs.YtgpcojmdfmngeaaDoor
set_option maxHeartbeats 400000

/-- the numbers below k with a property, in order -/
def supN (P : Nat → Bool) : Nat → List Int
  | 0 => []
  | k + 1 => supN P k ++ (if P k then [(k : Int)] else [])
/-- the sum of f over the numbers below k with a property -/
def sumN (f : Nat → Int) (P : Nat → Bool) : Nat → Int
  | 0 => 0
  | k + 1 => sumN f P k + (if P k then f k else 0)
theorem supN_len (P : Nat → Bool) : ∀ k, (supN P k).length ≤ k
  | 0 => Nat.le_refl _
  | k + 1 => by
    have := supN_len P k
    unfold supN
    split <;> simp <;> omega
theorem supN_mem (P : Nat → Bool) : ∀ (k : Nat) (v : Int), v ∈ supN P k ↔ ∃ j : Nat, v = j ∧ j < k ∧ P j = true
  | 0, v => by simp [supN]
  | k + 1, v => by
    have ih := supN_mem P k v
    unfold supN
    rw [List.mem_append, ih]
    constructor
    · rintro (⟨j, e, hj, hp⟩ | h)
      · exact ⟨j, e, by omega, hp⟩
      · split at h
        · rename_i hp
          exact ⟨k, by simpa using h, by omega, hp⟩
        · simp at h
    · rintro ⟨j, rfl, hj, hp⟩
      by_cases e : j = k
      · subst e
        right
        rw [if_pos hp]
        simp
      · exact .inl ⟨j, rfl, by omega, hp⟩
theorem supN_filter (P Q : Nat → Bool) (n : Nat) : ∀ k, k ≤ n → (supN P k).filter (fun v => !(supN Q n).contains v) = supN (fun v => P v && !Q v) k
  | 0, _ => rfl
  | k + 1, hk => by
    have ih := supN_filter P Q n k (by omega)
    show (supN P k ++ (if P k then [(k : Int)] else [])).filter (fun v => !(supN Q n).contains v) = supN (fun v => P v && !Q v) k ++ (if (P k && !Q k) = true then [(k : Int)] else [])
    rw [List.filter_append, ih]
    congr 1
    by_cases hp : P k = true
    · have hc : (supN Q n).contains (k : Int) = Q k := by
        rw [Bool.eq_iff_iff, List.contains_iff_mem, supN_mem]
        constructor
        · rintro ⟨j, e, _, hq⟩
          obtain rfl : k = j := by omega
          exact hq
        · exact fun hq => ⟨k, rfl, by omega, hq⟩
      rw [if_pos hp]
      cases hq : Q k
      · rw [hq] at hc
        rw [List.filter_cons_of_pos (by rw [hc]; rfl), hp]
        rfl
      · rw [hq] at hc
        rw [List.filter_cons_of_neg (by rw [hc]; decide), hp]
        rfl
    · have hp : P k = false := by simpa using hp
      simp [hp]
def custAt (ns : List Node) (v : Int) : Int := ((ns[v.toNat]?).map (·.cust)).getD 0
def custF (ns : List Node) (l : List Int) : Int := (l.map (custAt ns)).sum
theorem custF_snoc (ns : List Node) (l : List Int) (v : Int) : custF ns (l ++ [v]) = custF ns l + custAt ns v := by simp [custF]
theorem custF_supN (ns : List Node) (P : Nat → Bool) : ∀ k, custF ns (supN P k) = sumN (fun v => custAt ns v) P k
  | 0 => rfl
  | k + 1 => by
    unfold supN sumN
    rw [← custF_supN ns P k]
    split
    · exact custF_snoc _ _ _
    · simp
theorem sumN_swap (f : Nat → Int) (P Q : Nat → Bool) : ∀ k, sumN f P k - sumN f (fun v => P v && !Q v) k + sumN f (fun v => Q v && !P v) k = sumN f Q k
  | 0 => rfl
  | k + 1 => by
    have := sumN_swap f P Q k
    unfold sumN
    cases P k <;> cases Q k <;> simp <;> omega
theorem sumN_none {f : Nat → Int} {P : Nat → Bool} : ∀ k, (∀ v, v < k → P v = false) → sumN f P k = 0
  | 0, _ => rfl
  | k + 1, h => by
    unfold sumN
    rw [sumN_none k (fun v hv => h v (by omega)), h k (by omega)]
    rfl
theorem supN_none {P : Nat → Bool} : ∀ k, (∀ v, v < k → P v = false) → supN P k = []
  | 0, _ => rfl
  | k + 1, h => by
    unfold supN
    rw [supN_none k (fun v hv => h v (by omega)), h k (by omega)]
    rfl
/-- Is a node supplied? -/
def suppB (ns : List Node) (ds : List Dev) (st : List Int) (v : Nat) : Bool := decide (0 < custAt ns v) && (PO.at_ (colL ds st (partsL ns.length ds st)) v == 1)
def supL (ns : List Node) (ds : List Dev) (st : List Int) : List Int := supN (suppB ns ds st) ns.length
def lostL (a b : List Int) : List Int := a.filter (fun v => !b.contains v)
theorem lost_sup (ns : List Node) (ds : List Dev) (s t : List Int) : lostL (supL ns ds s) (supL ns ds t) = supN (fun v => suppB ns ds s v && !suppB ns ds t v) ns.length := supN_filter _ _ _ _ (Nat.le_refl _)
theorem lost_sum (ns : List Node) (ds : List Dev) (s t : List Int) : custF ns (supL ns ds s) - custF ns (lostL (supL ns ds s) (supL ns ds t)) + custF ns (lostL (supL ns ds t) (supL ns ds s)) = custF ns (supL ns ds t) := by
  rw [lost_sup, lost_sup]
  unfold supL
  rw [custF_supN, custF_supN, custF_supN, custF_supN]
  exact sumN_swap _ _ _ _
theorem lost_self (ns : List Node) (ds : List Dev) (s : List Int) : lostL (supL ns ds s) (supL ns ds s) = [] := by
  rw [lost_sup]
  exact supN_none _ (fun v _ => by cases suppB ns ds s v <;> rfl)
theorem lost_apart (ns : List Node) (ds : List Dev) (s t : List Int) (v : Int) (h : v ∈ lostL (supL ns ds s) (supL ns ds t)) : ¬ v ∈ lostL (supL ns ds t) (supL ns ds s) := by
  rw [lost_sup, supN_mem] at *
  obtain ⟨j, rfl, _, h⟩ := h
  rintro ⟨i, e, _, h'⟩
  obtain rfl : j = i := by omega
  revert h h'
  cases suppB ns ds s j <;> cases suppB ns ds t j <;> simp
theorem lostL_len (a b : List Int) : (lostL a b).length ≤ a.length := List.length_filter_le _ _
theorem supL_len (ns : List Node) (ds : List Dev) (st : List Int) : (supL ns ds st).length ≤ ns.length := supN_len _ _
theorem supL_in (ns : List Node) (ds : List Dev) (st : List Int) : ∀ v ∈ supL ns ds st, 0 ≤ v ∧ v < ns.length := fun v hv => by
  obtain ⟨j, rfl, hj, _⟩ := (supN_mem _ _ _).1 hv
  omega
theorem lostL_in {a b : List Int} {n : Nat} (h : ∀ v ∈ a, 0 ≤ v ∧ v < n) : ∀ v ∈ lostL a b, 0 ≤ v ∧ v < n := fun v hv => h v (List.mem_filter.1 hv).1

theorem nodeErr_zero {x : Node} {u : List (List UInt8)} (h : nodeErr x u = 0) : 0 ≤ x.cust ∧ x.cust ≤ 1048576 := by
  unfold nodeErr at h
  split at h
  · cases h
  · split at h
    · cases h
    · split at h
      · cases h
      · rename_i h3
        omega
theorem chkN_cust {n : Int} {ds : List Dev} : ∀ {xs : List Node} {u : List (List UInt8)}, chkN n ds xs u = 0 → ∀ x ∈ xs, 0 ≤ x.cust ∧ x.cust ≤ 1048576
  | [], _, _ => by simp
  | x :: xs, u, h => by
    simp only [chkN] at h
    split at h
    · rename_i h0
      intro y hy
      rcases List.mem_cons.1 hy with rfl | hy
      · exact nodeErr_zero h0
      · exact chkN_cust h y hy
    · rename_i h0
      exact absurd h h0
theorem checkL_cust {ns : List Node} {ds : List Dev} (h : checkL ns ds = 0) : ∀ x ∈ ns, 0 ≤ x.cust ∧ x.cust ≤ 1048576 := by
  unfold checkL at h
  split at h
  · cases h
  · exact chkN_cust h
theorem custAt_nat {ns : List Node} {v : Nat} (hv : v < ns.length) : custAt ns v = ns[v].cust := by
  unfold custAt
  rw [Int.toNat_natCast, List.getElem?_eq_getElem hv]
  rfl

/-- Where no earth is closed, closing takes the supply from nobody. -/
theorem supp_grows {ns : List Node} {ds : List Dev} (hD : DevsIn ns.length ds) {s t : List Int} (h : Up s t) (he : ∀ z ∈ ds.zip t, z.2 = 2 → z.1.kind ≠ 4) {v : Nat} (hv : v < ns.length) (hs : suppB ns ds s v = true) : suppB ns ds t v = true := by
  unfold suppB at *
  simp only [Bool.and_eq_true, decide_eq_true_eq, beq_iff_eq] at *
  refine ⟨hs.1, ?_⟩
  obtain ⟨l, e, l', e', ea, eb, i1, i2⟩ := h.col hD hv
  have hne : e' = false := by
    have h1 := partsL_len ns.length ds t
    have hlen : v < (colL ds t (partsL ns.length ds t)).length := by rw [colL_len, h1]; exact hv
    rw [at_get hlen] at eb
    simp only [colL, List.getElem_map, bitsZ] at eb
    have h0 : (ds.zip t).any (earthZ (partsL ns.length ds t) (partsL ns.length ds t)[v]) = false := by
      rw [List.any_eq_false]
      intro z hz hez
      unfold earthZ at hez
      simp only [Bool.and_eq_true, beq_iff_eq] at hez
      exact he z hz hez.1.1 hez.1.2
    rw [h0] at eb
    revert eb
    generalize (ds.zip t).any _ = q
    cases q <;> cases l' <;> cases e' <;> simp [colV]
  rw [ea] at hs
  rw [eb, hne]
  have hl : l = true := by
    have := hs.2
    revert this
    cases l <;> cases e <;> simp [colV]
  rw [i1 hl]
  rfl
theorem lost_grows {ns : List Node} {ds : List Dev} {s t : List Int} (h : ∀ v, v < ns.length → suppB ns ds s v = true → suppB ns ds t v = true) :
    lostL (supL ns ds s) (supL ns ds t) = [] ∧ custF ns (supL ns ds t) = custF ns (supL ns ds s) + custF ns (lostL (supL ns ds t) (supL ns ds s)) := by
  have h0 : lostL (supL ns ds s) (supL ns ds t) = [] := by
    rw [lost_sup]
    refine supN_none _ (fun v hv => ?_)
    have := h v hv
    cases hs : suppB ns ds s v
    · rfl
    · rw [this hs]; rfl
  refine ⟨h0, ?_⟩
  have := lost_sum ns ds s t
  rw [h0] at this
  simp only [custF, List.map_nil, List.sum_nil] at this ⊢
  omega
end Go.Proofs.YtgpcojmdfmngeaaDoor

namespace Go.Proofs.YtgpcojmdfmngeaaDoor
open Go.RowKit
set_option maxHeartbeats 400000
set_option maxRecDepth 100000

theorem new_cell1 (w : World) (o : Obj) (u : Value) (t : TypeId) : ((w.alloc o).alloc (.cells #[u] t)).cell? ⟨w.heap.size + 1, 0, none⟩ = some u := by
  have e : (w.alloc o).heap.size = w.heap.size + 1 := by simp
  rw [← e]
  exact new_cell (w.alloc o) u t

set_option maxHeartbeats 2000000 in
theorem supplied_any (w : World) (S : Nat → Prop) (A1 A2 : Option Addr) (c1 c2 : Nat) (ns : List Node) (ds : List Dev) (hn : NetIn w S A1 A2 ns ds) (hD : DevsIn ns.length ds)
    (U : Option Addr) (cu : Nat) (st : List Int) (hs : SI w S U st) (hsl : st.length = ds.length) :
    Calls Tryd.prog 140 #[.agg #[.slice A1 ns.length c1, .slice A2 ds.length c2], .slice U st.length cu] w (RetOI w (supL ns ds st)) := by
  have hb := (Below.refl w.heap.size w).alloc (Nat.le_refl _) (.cells #[.slice A1 ns.length c1, .slice A2 ds.length c2] 26)
  have HB := Lib.hid (both_any _ S A1 A2 c1 c2 ns ds (hn.below hb) hD U cu st (hs.keep (Kept.of_below hb)) hsl)
  have HL := Lib.hid (show (colL ds st (partsL ns.length ds st)).length = ns.length by rw [colL_len, partsL_len])
  have HP := Lib.hid (show ∀ v : Nat, suppB ns ds st v = (decide (0 < custAt ns v) && (PO.at_ (colL ds st (partsL ns.length ds st)) v == 1)) from fun _ => rfl)
  have hfew := hD.few
  clear hD hsl hs
  unfold supL
  generalize suppB ns ds st = P at *
  generalize colL ds st (partsL ns.length ds st) = cs at *
  generalize partsL ns.length ds st = ps at *
  go_enter Tryd.func140, Tryd.ntmps140
  go_wp2_with (fail)
  refine (HB.out).mono ?_
  rintro e w1 ⟨g1, g2, rfl, ho1, ho2, hg1, hg2, hb1⟩
  have hbA := hb.trans (hb1.mono hb.size)
  have Hbox := Lib.hid (box_at hb1)
  have n0 : w1.cell? ⟨w.heap.size, 0, none⟩ = some (.slice A1 ns.length c1) := by rw [cell_of_row w1 _ 0 _ _ _ Hbox.out]; rfl
  have hn1 := hn.below hbA
  have hc1 := ho2.si
  clear HB hb1 ho1 hn Hbox
  go_wp2_with (fail)
  go_loopg [7, 19] ns.length (fun g v i wr => ∃ (k : Nat) (A' : Option Addr) (c' : Nat), k + g = ns.length ∧ i = .int .i64 k ∧ v = .slice A' (supN P k).length c' ∧ OI wr (fun g => w1.heap.size ≤ g) A' c' (supN P k) ∧ Below w1.heap.size w1 wr)
  case atStart => exact ⟨0, none, 0, by omega, rfl, rfl, OI.nil _ _, Below.refl _ _⟩
  case round =>
    obtain ⟨k, A', c', hk, rfl, rfl, hown, hbel⟩ := hrel
    have Hk := Lib.hid hk
    have hyl := supN_len P k
    clear hk n0
    by_cases hlt : k < ns.length
    · obtain ⟨b, off, rfl, _, _, q0, q1, q2⟩ := (hn1.below hbel).node hlt
      have hkc : k < cs.length := by rw [HL.out]; exact hlt
      have hbN := (Below.refl wr.heap.size wr).alloc (Nat.le_refl _) (.cells #[.string ns[k].name, .int .i64 ns[k].cust, .int .i64 ns[k].comp] 104)
      obtain ⟨g3, o3, e3, _, _, d1⟩ := ((hc1.keep (Kept.of_below hbel)).keep (Kept.of_below hbN)).at_ hkc
      injection e3 with e3
      injection e3 with e3 e4
      subst e3 e4
      rw [Nat.zero_add] at d1
      have hp := HP.out k
      rw [custAt_nat hlt, at_get hkc] at hp
      have hs1 : supN P (k + 1) = supN P k ++ (if P k then [(k : Int)] else []) := rfl
      generalize ns[k].cust = cu' at *
      generalize cs[k] = cl at *
      by_cases h1 : decide (0 < cu') = true
      · by_cases h2 : (cl == 1) = true
        · rw [h1, h2] at hp
          have Hs := Lib.hid (show supN P (k + 1) = supN P k ++ [(k : Int)] by rw [hs1, hp]; rfl)
          clear hs1 hp
          go_wp2_with (at_builtin; go_must (refine wpList_push (B := w1.heap.size) rfl (.tmp 34) (.tmp 36) rfl rfl rfl rfl ((hown.keep (Kept.alloc _ _ _)).keep (Kept.alloc _ _ _)) (new_cell1 _ _ _ _) (by omega) (by simp; have := hbel.size; omega) ?_); intro A1 c1 w1 ho1 hb1 _ _)
          go_roundg (gk - 1)
          case measure => have := Hk.out; omega
          case rel =>
            refine ⟨k + 1, _, _, by have := Hk.out; omega, by go_num, ?_, by rw [Hs.out]; exact ho1, ((hbel.alloc hbel.size _).alloc (by have := hbel.size; simp; omega) _).trans hb1⟩
            rw [Hs.out]; simp
        · have h2 : (cl == 1) = false := by simpa using h2
          rw [h1, h2] at hp
          have Hs := Lib.hid (show supN P (k + 1) = supN P k by rw [hs1, hp]; simp)
          clear hs1 hp
          go_wp2_with (fail)
          go_roundg (gk - 1)
          case measure => have := Hk.out; omega
          case rel => exact ⟨k + 1, _, _, by have := Hk.out; omega, by go_num, by rw [Hs.out], by rw [Hs.out]; exact hown.keep (Kept.alloc _ _ _), hbel.alloc hbel.size _⟩
      · have h1 : decide (0 < cu') = false := by simpa using h1
        rw [h1] at hp
        have Hs := Lib.hid (show supN P (k + 1) = supN P k by rw [hs1, hp]; simp)
        clear hs1 hp
        go_wp2_with (fail)
        go_roundg (gk - 1)
        case measure => have := Hk.out; omega
        case rel => exact ⟨k + 1, _, _, by have := Hk.out; omega, by go_num, by rw [Hs.out], by rw [Hs.out]; exact hown.keep (Kept.alloc _ _ _), hbel.alloc hbel.size _⟩
    · have hkn : k = ns.length := by have := Hk.out; omega
      subst hkn
      go_wp2_with (fail)
      go_ret
      exact ⟨A', c', rfl, hown.mono (fun x _ hx => by show w.heap.size ≤ x; have := hbA.size; have : w1.heap.size ≤ x := hx; omega), hbA.trans (hbel.mono hbA.size)⟩

theorem custAt_bound {ns : List Node} (h : ∀ x ∈ ns, 0 ≤ x.cust ∧ x.cust ≤ 1048576) (v : Int) : 0 ≤ custAt ns v ∧ custAt ns v ≤ 1048576 := by
  unfold custAt
  cases e : ns[v.toNat]? with
  | none => simp
  | some x => exact h x (List.mem_of_getElem? e)
theorem custF_bound {ns : List Node} (h : ∀ x ∈ ns, 0 ≤ x.cust ∧ x.cust ≤ 1048576) : ∀ vs : List Int, 0 ≤ custF ns vs ∧ custF ns vs ≤ 1048576 * (vs.length : Int)
  | [] => by simp [custF]
  | v :: vs => by
    have := custF_bound h vs
    have := custAt_bound h v
    have e : custF ns (v :: vs) = custAt ns v + custF ns vs := by simp [custF]
    rw [e, List.length_cons]
    omega

set_option maxHeartbeats 2000000 in
theorem customers_any (w : World) (S T : Nat → Prop) (A1 A2 : Option Addr) (c1 c2 : Nat) (ns : List Node) (ds : List Dev) (hn : NetIn w S A1 A2 ns ds) (hcu : ∀ x ∈ ns, 0 ≤ x.cust ∧ x.cust ≤ 1048576)
    (V : Option Addr) (cv : Nat) (vs : List Int) (hv : SI w T V vs) (hvl : vs.length ≤ 65536) (hin : ∀ v ∈ vs, 0 ≤ v ∧ v < ns.length) :
    Calls Tryd.prog 144 #[.agg #[.slice A1 ns.length c1, .slice A2 ds.length c2], .slice V vs.length cv] w fun e w' => e = .returned (.int .i64 (custF ns vs)) ∧ Below w.heap.size w w' := by
  have hb := (Below.refl w.heap.size w).alloc (Nat.le_refl _) (.cells #[.slice A1 ns.length c1, .slice A2 ds.length c2] 26)
  have HN := hn.below hb
  have HV := hv.keep (Kept.of_below hb)
  have Hin := Lib.hid hin
  have Hcu := Lib.hid hcu
  have Hat := Lib.hid (fun (v : Nat) (hv : v < ns.length) => custAt_nat hv)
  clear hin hcu
  go_enter Tryd.func144, Tryd.ntmps144
  go_wp2_with (fail)
  go_loopg [5, 10] vs.length (fun g s i wr => ∃ k : Nat, k + g = vs.length ∧ i = .int .i64 k ∧ s = .int .i64 (custF ns (vs.take k)) ∧ wr = w.alloc (.cells #[.slice A1 ns.length c1, .slice A2 ds.length c2] 26))
  case atStart => exact ⟨0, by omega, rfl, rfl, rfl⟩
  case round =>
    obtain ⟨k, hk, rfl, rfl, rfl⟩ := hrel
    have Hk := Lib.hid hk
    clear hk
    by_cases hlt : k < vs.length
    · obtain ⟨b, off, rfl, _, _, q⟩ := HV.at_ hlt
      have hm := Hin.out vs[k] (List.getElem_mem hlt)
      obtain ⟨j, hj⟩ : ∃ j : Nat, vs[k] = (j : Int) := ⟨vs[k].toNat, by omega⟩
      have ht : vs.take (k + 1) = vs.take k ++ [vs[k]] := List.take_succ_eq_append_getElem hlt
      rw [hj] at q hm ht
      have hjn : j < ns.length := by omega
      obtain ⟨b2, off2, rfl, _, _, p0, p1, p2⟩ := HN.node hjn
      have hcf := custF_snoc ns (vs.take k) (j : Int)
      rw [← ht, Hat.out j hjn] at hcf
      have h1 := custF_bound Hcu.out (vs.take k)
      have h2 := Hcu.out ns[j] (List.getElem_mem hjn)
      have h3 : ((vs.take k).length : Int) ≤ 65536 := by simp; omega
      have Hcf := Lib.hid hcf
      clear hcf ht hj hm
      generalize custF ns (vs.take k) = s0 at *
      generalize ns[j].cust = cj at *
      have h4 : 0 ≤ s0 ∧ s0 ≤ 68719476736 := by omega
      clear h1 h3
      go_wp2_with (fail)
      go_roundg (gk - 1)
      case measure => have := Hk.out; omega
      case rel => exact ⟨k + 1, by have := Hk.out; omega, by go_num, by rw [Hcf.out], rfl⟩
    · have hkn : vs.take k = vs := List.take_of_length_le (by omega)
      rw [hkn]
      go_wp2_with (fail)
      go_ret
      exact ⟨rfl, hb⟩

theorem customers_nil (w : World) (A1 A2 : Option Addr) (n1 c1 n2 c2 : Nat) (V : Option Addr) (cv : Nat) (ns : List Node) :
    Calls Tryd.prog 144 #[.agg #[.slice A1 n1 c1, .slice A2 n2 c2], .slice V ([] : List Int).length cv] w fun e w' => e = .returned (.int .i64 (custF ns [])) ∧ Below w.heap.size w w' := by
  have hb := (Below.refl w.heap.size w).alloc (Nat.le_refl _) (.cells #[.slice A1 n1 c1, .slice A2 n2 c2] 26)
  show Calls Tryd.prog 144 #[.agg #[.slice A1 n1 c1, .slice A2 n2 c2], .slice V 0 cv] w fun e w' => e = .returned (.int .i64 0) ∧ Below w.heap.size w w'
  go_enter Tryd.func144, Tryd.ntmps144
  go_wp2_with (fail)
  go_loopg [5, 10] 0 (fun _ s i wr => i = .int .i64 0 ∧ s = .int .i64 0 ∧ wr = w.alloc (.cells #[.slice A1 n1 c1, .slice A2 n2 c2] 26))
  case atStart => exact ⟨rfl, rfl, rfl⟩
  case round =>
    obtain ⟨rfl, rfl, rfl⟩ := hrel
    go_wp2_with (fail)
    go_ret
    exact ⟨rfl, hb⟩

def suppliedE (ns : List Node) (ds : List Dev) (st : List Int) : List Int × Int := if maskC isPos ns ds st ≠ 0 then ([], maskC isPos ns ds st) else (supL ns ds st, 0)

set_option maxHeartbeats 2000000 in
theorem Supplied_any (w : World) (h : TabC w) (ht : Tab w) (S : Nat → Prop) (A1 A2 : Option Addr) (c1 c2 : Nat) (ns : List Node) (ds : List Dev) (hn : NetIn w S A1 A2 ns ds) (hl1 : ns.length ≤ 65536) (hl2 : ds.length ≤ 65536)
    (U : Option Addr) (cu : Nat) (st : List Int) (hs : SI w S U st) (hsl : st.length ≤ 65536) :
    Calls Tryd.prog 96 #[.agg #[.slice A1 ns.length c1, .slice A2 ds.length c2], .slice U st.length cu] w (RetIE w (suppliedE ns ds st)) := by
  have hb := (Below.refl w.heap.size w).alloc (Nat.le_refl _) (.cells #[.slice A1 ns.length c1, .slice A2 ds.length c2] 26)
  have HC := Lib.hid (mstate_any _ (h.below hb) (ht.below hb) S A1 A2 c1 c2 ns ds (hn.below hb) hl1 hl2 U cu st (hs.keep (Kept.of_below hb)) hsl)
  have HZ := Lib.hid (@maskC_zero isPos ns ds st)
  have HE := Lib.hid (show suppliedE ns ds st = if maskC isPos ns ds st ≠ 0 then ([], maskC isPos ns ds st) else (supL ns ds st, 0) from rfl)
  generalize maskC isPos ns ds st = ce at *
  by_cases h0 : (ce != 0) = true
  · have H0 := Lib.hid (show ¬ ce = 0 by simpa using h0)
    go_enter Tryd.func96, Tryd.ntmps96
    go_wp2_with (fail)
    refine (HC.out).mono ?_
    rintro e w1 ⟨rfl, hb1⟩
    go_wp2_with (fail)
    go_ret2
    rw [HE.out, if_pos H0.out]
    exact ⟨none, 0, rfl, OI.nil _ _, hb.trans (hb1.mono hb.size)⟩
  · have h0' : (ce != 0) = false := by simpa using h0
    have hz : ce = 0 := by simpa using h0
    obtain ⟨z1, z2, z3⟩ := HZ.out hz
    have hD := checkL_zero z1
    rw [if_neg (by simpa using hz)] at HE
    have Z2 := Lib.hid z2
    clear h0 hz HZ z1 z2 z3
    go_enter Tryd.func96, Tryd.ntmps96
    go_wp2_with (fail)
    refine (HC.out).mono ?_
    rintro e w1 ⟨rfl, hb1⟩
    have hbA := hb.trans (hb1.mono hb.size)
    have Hbox := Lib.hid (box_at hb1)
    have n0 : w1.cell? ⟨w.heap.size, 0, none⟩ = some (.slice A1 ns.length c1) := by rw [cell_of_row w1 _ 0 _ _ _ Hbox.out]; rfl
    have n1 : w1.cell? ⟨w.heap.size, 1, none⟩ = some (.slice A2 ds.length c2) := by rw [cell_of_row w1 _ 1 _ _ _ Hbox.out]; rfl
    have HP := Lib.hid (supplied_any w1 S A1 A2 c1 c2 ns ds (hn.below hbA) hD U cu st (hs.keep (Kept.of_below hbA)) Z2.out)
    go_wp2_with (fail)
    refine (HP.out).mono ?_
    rintro e w2 ⟨A, c, rfl, ho, hb2⟩
    go_wp2_with (fail)
    go_ret2
    rw [HE.out]
    exact ⟨A, c, rfl, ho.mono (fun x _ hx => by show w.heap.size ≤ x; have := hbA.size; have : w1.heap.size ≤ x := hx; omega), hbA.trans (hb2.mono hbA.size)⟩

theorem suppliedE_ok {ns : List Node} {ds : List Dev} {st : List Int} (v : Int) (hv : v ∈ (suppliedE ns ds st).1) : checkL ns ds = 0 ∧ 0 ≤ v ∧ v < ns.length := by
  unfold suppliedE at hv
  split at hv
  · simp at hv
  · rename_i h0
    exact ⟨(maskC_zero (by simpa using h0)).1, supL_in ns ds st v hv⟩
theorem suppliedE_len (ns : List Node) (ds : List Dev) (st : List Int) : (suppliedE ns ds st).1.length ≤ ns.length := by
  unfold suppliedE
  split
  · simp
  · exact supL_len ns ds st

set_option maxHeartbeats 2000000 in
theorem Customers_any (w : World) (h : TabC w) (ht : Tab w) (S : Nat → Prop) (A1 A2 : Option Addr) (c1 c2 : Nat) (ns : List Node) (ds : List Dev) (hn : NetIn w S A1 A2 ns ds) (hl1 : ns.length ≤ 65536) (hl2 : ds.length ≤ 65536)
    (U : Option Addr) (cu : Nat) (st : List Int) (hs : SI w S U st) (hsl : st.length ≤ 65536) :
    Calls Tryd.prog 98 #[.agg #[.slice A1 ns.length c1, .slice A2 ds.length c2], .slice U st.length cu] w (RetPair w (custF ns (suppliedE ns ds st).1, (suppliedE ns ds st).2)) := by
  have hb := (Below.refl w.heap.size w).alloc (Nat.le_refl _) (.cells #[.slice A1 ns.length c1, .slice A2 ds.length c2] 26)
  have HC := Lib.hid (Supplied_any _ (h.below hb) (ht.below hb) S A1 A2 c1 c2 ns ds (hn.below hb) hl1 hl2 U cu st (hs.keep (Kept.of_below hb)) hsl)
  have hlen := suppliedE_len ns ds st
  have hok := @suppliedE_ok ns ds st
  generalize suppliedE ns ds st = r at *
  obtain ⟨vs, ce⟩ := r
  have hlen : vs.length ≤ ns.length := hlen
  go_enter Tryd.func98, Tryd.ntmps98
  go_wp2_with (fail)
  refine (HC.out).mono ?_
  rintro e w1 ⟨A, c, rfl, ho1, hb1⟩
  have hbA := hb.trans (hb1.mono hb.size)
  have Hbox := Lib.hid (box_at hb1)
  have n0 : w1.cell? ⟨w.heap.size, 0, none⟩ = some (.slice A1 ns.length c1) := by rw [cell_of_row w1 _ 0 _ _ _ Hbox.out]; rfl
  have n1 : w1.cell? ⟨w.heap.size, 1, none⟩ = some (.slice A2 ds.length c2) := by rw [cell_of_row w1 _ 1 _ _ _ Hbox.out]; rfl
  have HQ : Calls Tryd.prog 144 #[.agg #[.slice A1 ns.length c1, .slice A2 ds.length c2], .slice A vs.length c] w1 fun e w' => e = .returned (.int .i64 (custF ns vs)) ∧ Below w1.heap.size w1 w' := by
    by_cases he : vs = []
    · subst he
      exact customers_nil w1 A1 A2 ns.length c1 ds.length c2 A c ns
    · obtain ⟨v, hv⟩ := List.exists_mem_of_ne_nil vs he
      exact customers_any w1 S _ A1 A2 c1 c2 ns ds (hn.below hbA) (checkL_cust (hok v hv).1) A c vs (OI.si ho1) (by omega) (fun v hv => (hok v hv).2)
  have HQ := Lib.hid HQ
  go_wp2_with (fail)
  refine (HQ.out).mono ?_
  rintro e w2 ⟨rfl, hb2⟩
  go_wp2_with (fail)
  go_ret2
  exact ⟨rfl, hbA.trans (hb2.mono hbA.size)⟩
end Go.Proofs.YtgpcojmdfmngeaaDoor

/-
  The walk of network.Flood with the functions that colour.parts hands to it: which nodes are reached over closed devices.
-/
import Derived.Test.YtglhplddjjoggaaDoorObs
import Derived.Test.YtglhplddjjoggaaDoorExt2
namespace Go.Proofs.YtglhplddjjoggaaDoor
open Go.RowKit
set_option maxHeartbeats 400000
set_option maxRecDepth 100000

def marks (oc : List Int) : List Bool := oc.map (fun x => decide (0 ≤ x))
theorem marks_len (oc : List Int) : (marks oc).length = oc.length := by simp [marks]
theorem marks_at (oc : List Int) (u : Nat) (h : u < (marks oc).length) : (marks oc)[u] = decide (0 ≤ PO.at_ oc u) := by
  rw [marks_len] at h
  simp [marks, PO.at_, h]
theorem marks_set (oc : List Int) (u : Nat) (x : Int) (hx : 0 ≤ x) : (marks oc).set u true = marks (oc.set u x) := by
  unfold marks
  rw [List.map_set, decide_eq_true hx]
theorem marks_rep (n : Nat) : marks (List.replicate n (-1)) = List.replicate n false := by simp [marks]

/-- the distances over closed devices, of all nodes from some -/
def useOf (st : List Int) : List Bool := st.map (fun p => p == 2)
def floodD (n : Nat) (ds : List Dev) (st : List Int) (gs : List Nat) : List Int := PO.bfs (nbZ (ds.zip (useOf st))) (PO.negs (PO.mark (List.replicate n (-1)) gs) + gs.length) (PO.mark (List.replicate n (-1)) gs) gs

theorem closed_any (w : World) (S : Nat → Prop) (U : Option Addr) (cu : Nat) (st : List Int) (hs : SI w S U st) (bs : Nat) (hc : w.cell? ⟨bs, 0, none⟩ = some (.slice U st.length cu)) (i : Nat) (hi : i < st.length) :
    Calls Tryd.prog 151 #[.int .i64 i, .pointer (some ⟨bs, 0, none⟩)] w fun e w' => e = .returned (.bool (st[i] == 2)) ∧ w = w' := by
  obtain ⟨b, off, rfl, _, _, q⟩ := hs.at_ hi
  go_enter Tryd.func151, Tryd.ntmps151
  go_wp2_with (fail)
  go_ret
  exact ⟨rfl, rfl⟩
theorem never_any (w : World) (i : Int) : Calls Tryd.prog 152 #[.int .i64 i] w fun e w' => e = .returned (.bool false) ∧ w = w' := by
  go_enter Tryd.func152, Tryd.ntmps152
  go_wp2_with (fail)
  go_ret
  exact ⟨rfl, rfl⟩
theorem goes_closed : Goes 151 := fun args w => by kernel_rfl
theorem goes_never : Goes 152 := fun args w => by kernel_rfl

/-- The blocks of the flood: the boxed network, the marks. -/
structure FSt (w : World) (v1 v2 : Value) (n : Nat) (wr : World) (oc : List Int) : Prop where
  box : wr.heap[w.heap.size]? = some (.cells #[v1, v2] 26 (0, 0))
  out : OB wr (w.heap.size + 1) n (marks oc)
  bel : Below w.heap.size w wr
section
variable {w wr w' : World} {v1 v2 : Value} {n : Nat} {oc : List Int}
theorem FSt.size (h : FSt w v1 v2 n wr oc) : w.heap.size + 2 ≤ wr.heap.size := (OV.block h.out _ rfl).2
theorem FSt.belowB (h : FSt w v1 v2 n wr oc) (hb : Below (w.heap.size + 2) wr w') : FSt w v1 v2 n w' oc :=
  ⟨(hb.block _ (by omega)).trans h.box, h.out.fr (hb.block _ (by omega)), h.bel.trans (hb.mono (by omega))⟩
theorem FSt.below (h : FSt w v1 v2 n wr oc) (hb : Below wr.heap.size wr w') : FSt w v1 v2 n w' oc := h.belowB (hb.mono h.size)
theorem FSt.set (h : FSt w v1 v2 n wr oc) (k : Nat) (x : Int) (hx : 0 ≤ x) : FSt w v1 v2 n (wr.setCell ⟨w.heap.size + 1, k, none⟩ (.bool true)) (oc.set k x) :=
  ⟨(Below.heap_setCell _ _ _ _ (by show w.heap.size ≠ w.heap.size + 1; omega)).trans h.box, by rw [← marks_set oc k x hx]; exact h.out.set k true, h.bel.setCell (by show w.heap.size ≤ w.heap.size + 1; omega) _⟩
theorem FSt.n0 (h : FSt w v1 v2 n wr oc) : wr.cell? ⟨w.heap.size, 0, none⟩ = some v1 := by rw [cell_of_row wr _ 0 _ _ _ h.box]; rfl
theorem FSt.n1 (h : FSt w v1 v2 n wr oc) : wr.cell? ⟨w.heap.size, 1, none⟩ = some v2 := by rw [cell_of_row wr _ 1 _ _ _ h.box]; rfl
end

/-- What stays true while a queue is worked off, for n nodes. -/
structure QOn (n : Nat) (out : List Int) (q : List Nat) : Prop where
  len : out.length = n
  mem : ∀ u ∈ q, u < n ∧ 0 ≤ PO.at_ out u
theorem QOn.step {n : Nat} {out : List Int} {q : List Nat} (h : QOn n out q) {v u : Nat} (hv : 0 ≤ PO.at_ out v) (hu : u < n) (hn : PO.at_ out u < 0) : QOn n (out.set u (PO.at_ out v + 1)) (q ++ [u]) ∧ PO.negs (out.set u (PO.at_ out v + 1)) + 1 = PO.negs out ∧ PO.at_ (out.set u (PO.at_ out v + 1)) v = PO.at_ out v := by
  have hne : u ≠ v := fun e => by rw [e] at hn; omega
  have hng := PO.negs_set (x := PO.at_ out v + 1) (by rw [h.len]; exact hu) hn (by omega)
  refine ⟨⟨by simp [h.len], fun x hx => ?_⟩, hng, by rw [PO.at_set, if_neg (by omega)]⟩
  rcases List.mem_append.1 hx with hx | hx
  · refine ⟨(h.mem x hx).1, ?_⟩
    rw [PO.at_set]
    split
    · omega
    · exact (h.mem x hx).2
  · obtain rfl : x = u := by simpa using hx
    refine ⟨hu, ?_⟩
    rw [PO.at_set, if_pos ⟨rfl, by rw [h.len]; exact hu⟩]; omega
theorem start_n (n : Nat) (gs : List Nat) (hg : ∀ g ∈ gs, g < n) : QOn n (PO.mark (List.replicate n (-1)) gs) gs := by
  refine ⟨by rw [PO.mark_len]; simp, fun u hu => ⟨hg u hu, ?_⟩⟩
  rw [PO.at_mark _ _ _ (by simpa using hg), if_pos hu]; omega

set_option maxHeartbeats 4000000 in
theorem flood_any (w : World) (S : Nat → Prop) (A1 A2 : Option Addr) (c1 c2 : Nat) (ns : List Node) (ds : List Dev) (hn : NetIn w S A1 A2 ns ds) (hl1 : ns.length ≤ 32) (hl2 : ds.length ≤ 64)
    (U : Option Addr) (cu : Nat) (st : List Int) (hs : SI w S U st) (hsl : st.length = ds.length) (bs : Nat) (hc : w.cell? ⟨bs, 0, none⟩ = some (.slice U st.length cu))
    (G : Option Addr) (cg : Nat) (gs : List Nat) (hg : SI w S G (nats gs)) (hgl : gs.length ≤ 1000) (hgn : ∀ g ∈ gs, g < ns.length)
    (hd : ∀ d ∈ ds, ∀ v, acrossL d v < ns.length) :
    Calls Tryd.prog 153 #[.agg #[.slice A1 ns.length c1, .slice A2 ds.length c2], .slice G gs.length cg, .func (.func 151) #[] #[.pointer (some ⟨bs, 0, none⟩)], .func (.func 152) #[] #[]] w
      fun e w' => ∃ g, e = .returned (.slice (some ⟨g, 0, none⟩) ns.length ns.length) ∧ OB w' g ns.length (marks (floodD ns.length ds st gs)) ∧ w.heap.size ≤ g ∧ Below w.heap.size w w' := by
  have hgo := goes_closed
  unfold Goes at hgo
  have hgn2 := goes_never
  unfold Goes at hgn2
  have Hsl := Lib.hid hsl
  clear hsl
  obtain ⟨w2, hmk, ho2, hb2, hz2⟩ := make_bools (w.alloc (.cells #[.slice A1 ns.length c1, .slice A2 ds.length c2] 26)) ns.length (by omega)
  have D0 : FSt w (.slice A1 ns.length c1) (.slice A2 ds.length c2) ns.length w2 (List.replicate ns.length (-1)) :=
    ⟨(hb2.block _ (by simp)).trans (heap_alloc_new w _), by rw [marks_rep]; unfold OB; simpa using ho2, ((Below.refl _ _).alloc (Nat.le_refl _) _).trans (hb2.mono (by simp))⟩
  have hcl := clone_any w2 S G cg (nats gs) (hg.keep (Kept.of_below D0.bel)) (by rw [nats_len]; omega)
  rw [nats_len] at hcl
  have Hcl := Lib.hid hcl
  clear hcl hb2 hz2 ho2
  go_enter Tryd.func153, Tryd.ntmps153
  go_wp2_with (fail)
  refine (Hcl.out).mono ?_
  rintro e w3 ⟨Aq, cq, rfl, hoq, hb3⟩
  rw [nats_len]
  have D1 := D0.below hb3
  have hoq1 := hoq.mono (T := fun g => w.heap.size + 2 ≤ g) (fun g _ hg => by have := D0.size; show _ ≤ g; omega)
  go_wp2_with (fail)
  clear hoq Hcl D0 hb3 hmk
  go_loopg [24] gs.length (fun g i wr => ∃ (k : Nat) (out : List Int), k + g = gs.length ∧ i = .int .i64 k ∧ FSt w (.slice A1 ns.length c1) (.slice A2 ds.length c2) ns.length wr out ∧ out.length = ns.length ∧ PO.mark (List.replicate ns.length (-1)) gs = PO.mark out (gs.drop k) ∧ OI wr (fun g => w.heap.size + 2 ≤ g) Aq cq (nats gs))
  case atStart => exact ⟨0, _, by omega, rfl, D1, by simp, rfl, hoq1⟩
  case round =>
    clear D1 hoq1
    obtain ⟨k, out, hk, rfl, D, hol, hmk, hoq⟩ := hrel
    have Hk := Lib.hid hk
    have Hmk := Lib.hid hmk
    have Hol := Lib.hid hol
    clear hk hmk hol
    by_cases hlt : k < gs.length
    · have hgk : gs[k] < ns.length := hgn _ (List.getElem_mem hlt)
      obtain ⟨b, off, rfl, hS, hbl, q0⟩ := (hg.keep (Kept.of_below D.bel)).at_ (k := k) (by rw [nats_len]; exact hlt)
      have q0' : wr.cell? ⟨b, off + k, none⟩ = some (.int .i64 (gs[k] : Nat)) := by rw [q0]; simp [nats]
      obtain ⟨q1, q2, _⟩ := D.out.at_ (k := gs[k]) (by rw [marks_len, Hol.out]; exact hgk)
      clear q0
      go_wp2_with (fail)
      go_roundg (gk - 1)
      case measure => have := Hk.out; omega
      case rel =>
        refine ⟨k + 1, _, by have := Hk.out; omega, by go_num, D.set gs[k] 0 (by decide), by simp [Hol.out], ?_, hoq.keep (Kept.setCell (by show ¬ _ ≤ w.heap.size + 1; omega) _)⟩
        rw [Hmk.out, List.drop_eq_getElem_cons hlt]
        rfl
    · have hmk := Hmk.out
      rw [List.drop_of_length_le (by omega)] at hmk
      have hmk : PO.mark (List.replicate ns.length (-1)) gs = out := hmk
      have HD : Hid (floodD ns.length ds st gs = PO.bfs (nbZ (ds.zip (useOf st))) (PO.negs out + gs.length) out gs) := Lib.hid (by unfold floodD; rw [hmk])
      have hQ : QOn ns.length out gs := by rw [← hmk]; exact start_n ns.length gs hgn
      clear hmk Hmk Hk Hol
      go_wp2_with (fail)
      clear hlt
      obtain ⟨wo, rfl⟩ : ∃ wo : World, wo = wr := ⟨_, rfl⟩
      go_loopg [10] (PO.negs out + gs.length) (fun g v wr => ∃ (out : List Int) (q : List Nat) (A' : Option Addr) (c' : Nat), g = PO.negs out + q.length ∧ v = .slice A' q.length c' ∧ OI wr (fun g => w.heap.size + 2 ≤ g) A' c' (nats q) ∧ FSt w (.slice A1 ns.length c1) (.slice A2 ds.length c2) ns.length wr out ∧
        floodD ns.length ds st gs = PO.bfs (nbZ (ds.zip (useOf st))) g out q ∧ QOn ns.length out q ∧ PO.negs out + q.length ≤ 2000)
      case atStart => exact ⟨out, gs, Aq, cq, rfl, rfl, hoq, D, HD.out, hQ, by have := negs_le out; rw [hQ.len] at this; omega⟩
      case round =>
        clear D HD hQ hoq
        obtain ⟨out, q, A', c', hgk, rfl, hown, D, hdi, hQ, hql⟩ := hrel
        have Hgk := Lib.hid hgk
        have Hdi := Lib.hid hdi
        clear hgk hdi
        have n1 := D.n1
        cases q with
        | nil =>
          have hdi := Hdi.out
          have hdd : PO.bfs (nbZ (ds.zip (useOf st))) gk out [] = out := by cases gk <;> rfl
          rw [hdd] at hdi
          have Hdi := Lib.hid hdi
          clear hdi hdd
          go_wp2_with (fail)
          go_ret
          exact ⟨w.heap.size + 1, rfl, by rw [Hdi.out]; exact D.out, by omega, D.bel⟩
        | cons v q =>
          obtain ⟨g', off', rfl, hgB, hgl', hc0, _⟩ := hown.at_ (k := 0) (by simp [nats])
          have hc0' : wr.cell? ⟨g', off', none⟩ = some (.int .i64 (v : Nat)) := by simpa [nats] using hc0
          clear hc0
          have hv := hQ.mem v (by simp)
          have hQ' : QOn ns.length out q := ⟨hQ.len, fun u hu => hQ.mem u (by simp [hu])⟩
          go_wp2_with (fail)
          refine (never_any wr v).mono ?_
          rintro e w' ⟨rfl, rfl⟩
          go_wp2_with (fail)
          obtain ⟨wp, rfl⟩ : ∃ wp : World, wp = wr := ⟨_, rfl⟩
          obtain ⟨go, rfl⟩ : ∃ x : Nat, x = gk := ⟨_, rfl⟩
          go_loopg [10, 45] ds.length (fun g s10 i wr => ∃ (m : Nat) (oc : List Int) (qc : List Nat) (A' : Option Addr) (c' : Nat), m + g = ds.length ∧ i = .int .i64 m ∧ s10 = .slice A' (qc.length + 1) c' ∧ OI wr (fun g => w.heap.size + 2 ≤ g) A' c' (nats (v :: qc)) ∧ FSt w (.slice A1 ns.length c1) (.slice A2 ds.length c2) ns.length wr oc ∧
            PO.scan (PO.at_ out v + 1) (nbZ (ds.zip (useOf st)) v) out q = PO.scan (PO.at_ out v + 1) (nbZ ((ds.zip (useOf st)).drop m) v) oc qc ∧ PO.at_ oc v = PO.at_ out v ∧ QOn ns.length oc qc ∧ PO.negs oc + qc.length = PO.negs out + q.length)
          case atStart => exact ⟨0, out, q, _, _, by omega, rfl, rfl, hown, D, rfl, rfl, hQ', rfl⟩
          case round =>
            clear D hown hc0' hQ' n1 hgB hgl'
            obtain ⟨m, oc, qc, A2', c2', hm, rfl, rfl, hown, D, hsc, hov, hQc, hng⟩ := hrel
            have Hm := Lib.hid hm
            have Hsc := Lib.hid hsc
            have Hov := Lib.hid hov
            have Hng := Lib.hid hng
            have hqcl : qc.length ≤ 3000 := by
              simp at hql
              omega
            clear hm hsc hov hng
            obtain ⟨g2, off2, rfl, _, _, hc2, _⟩ := hown.at_ (k := 0) (by simp [nats])
            have hc2' : wr.cell? ⟨g2, off2, none⟩ = some (.int .i64 (v : Nat)) := by simpa [nats] using hc2
            clear hc2
            by_cases hlt : m < ds.length
            · obtain ⟨b, off, rfl, hS, hbl, q0, q1, q2, q3, q4⟩ := (hn.below D.bel).dev hlt
              have hmst : m < st.length := by have := Hsl.out; omega
              have hmz : m < (ds.zip (useOf st)).length := by simp [useOf]; omega
              have Hd := Lib.hid (show nbZ ((ds.zip (useOf st)).drop m) v = if 0 ≤ acrossL ds[m] v ∧ (st[m] == 2) = true then (acrossL ds[m] v).toNat :: nbZ ((ds.zip (useOf st)).drop (m + 1)) v else nbZ ((ds.zip (useOf st)).drop (m + 1)) v from by rw [nbZ_drop (ds.zip (useOf st)) v m hmz]; simp [useOf])
              have hy := hd ds[m] (List.getElem_mem hlt) v
              have hg2l : g2 < wr.heap.size := World.block_lt_of_cell? wr _ hc2'
              go_upto_region 14 with (fail)
              obtain ⟨W0, hW0⟩ : ∃ W0, W0 = wr.alloc (.cells #[.string ds[m].name, .int .i64 ds[m].kind, .int .i64 ds[m].a, .int .i64 ds[m].b, .int .i64 ds[m].comp] 81) := ⟨_, rfl⟩
              obtain ⟨bx, hbx⟩ : ∃ bx, bx = wr.heap.size := ⟨_, rfl⟩
              have hW0b : Below wr.heap.size wr W0 := by rw [hW0]; exact (Below.refl _ _).alloc (Nat.le_refl _) _
              have hx0 : W0.heap[bx]? = some (.cells #[.string ds[m].name, .int .i64 ds[m].kind, .int .i64 ds[m].a, .int .i64 ds[m].b, .int .i64 ds[m].comp] 81 (0, 0)) := by rw [hW0, hbx]; exact heap_alloc_new wr _
              have Hbx : Hid (∀ W, Below W0.heap.size W0 W → W.cell? ⟨bx, 0, none⟩ = some (.string ds[m].name) ∧ W.cell? ⟨bx, 1, none⟩ = some (.int .i64 ds[m].kind) ∧ W.cell? ⟨bx, 2, none⟩ = some (.int .i64 ds[m].a) ∧ W.cell? ⟨bx, 3, none⟩ = some (.int .i64 ds[m].b) ∧ W.cell? ⟨bx, 4, none⟩ = some (.int .i64 ds[m].comp)) := Lib.hid (fun W hW => by
                have hh := (hW.block bx (Array.getElem?_eq_some_iff.1 hx0).1).trans hx0
                exact ⟨by rw [cell_of_row W bx 0 _ _ _ hh]; rfl, by rw [cell_of_row W bx 1 _ _ _ hh]; rfl, by rw [cell_of_row W bx 2 _ _ _ hh]; rfl, by rw [cell_of_row W bx 3 _ _ _ hh]; rfl, by rw [cell_of_row W bx 4 _ _ _ hh]; rfl⟩)
              have hvc0 : W0.cell? ⟨g2, off2, none⟩ = some (.int .i64 (v : Nat)) := (hW0b.cell (p := ⟨g2, off2, none⟩) hg2l).trans hc2'
              have Hvc : Hid (∀ W, Below W0.heap.size W0 W → W.cell? ⟨g2, off2, none⟩ = some (.int .i64 (v : Nat))) := Lib.hid (fun W hW => (hW.cell (p := ⟨g2, off2, none⟩) (World.block_lt_of_cell? _ _ hvc0)).trans hvc0)
              rw [← hbx, ← hW0]
              have D0 := D.below hW0b
              have hown0 := hown.keep (Kept.of_below hW0b)
              clear hx0 hvc0 hW0b hW0 hbx q0 q1 q2 q3 q4
              go_cut [15] (fun v15 wx => v15 = .int .i64 (acrossL ds[m] v) ∧ Below W0.heap.size W0 wx)
              case first =>
                refine wp_region_ext1 (by kernel_rfl) 6 [50, 51, 52, 53, 54, 15] (fun w' => Below W0.heap.size W0 w') (fun _ _ => True) (fun d vv w' => if d = 50 then vv = .agg #[.string ds[m].name, .int .i64 ds[m].kind, .int .i64 ds[m].a, .int .i64 ds[m].b, .int .i64 ds[m].comp] else if d = 51 then vv = .slice (some ⟨g2, off2, none⟩) (qc.length + 1) c2' else if d = 52 then vv = .pointer (some ⟨g2, off2, none⟩) else if d = 53 then vv = .int .i64 (v : Nat) else if d = 54 then vv = .int .i64 (acrossL ds[m] v) else if d = 15 then vv = .int .i64 (acrossL ds[m] v) else False) (by kernel_rfl) ((Below.refl _ _).drew) (fun _ _ _ _ _ _ h => h) ?_ ?_
                · intro i o d hi ho hd f w1 hC hdep K hK
                  have hi' : i = 0 ∨ i = 1 ∨ i = 2 ∨ i = 3 ∨ i = 4 ∨ i = 5 := by omega
                  rcases hi' with rfl | rfl | rfl | rfl | rfl | rfl
                  · simp only [List.getElem?_toArray, List.getElem?_cons_zero, Option.some.injEq] at ho
                    subst ho
                    simp only [Option.some.injEq] at hd
                    subst hd
                    generalize hA : fr _ _ _ f = A at hK ⊢
                    have e14 : A.tmps[14]?.getD undef = .pointer (some ⟨bx, 0, none⟩) := by rw [← hA]; exact fr_out _ _ _ _ 14 _ (by decide) rfl
                    clear hA hdep
                    obtain ⟨x0, x1, x2, x3, x4⟩ := Hbx.out w1 hC
                    go_simp
                    exact hK _ _ trivial hC rfl
                  · simp only [List.getElem?_toArray, List.getElem?_cons_zero, List.getElem?_cons_succ, Option.some.injEq] at ho
                    subst ho
                    simp only [Option.some.injEq] at hd
                    subst hd
                    generalize hA : fr _ _ _ f = A at hK ⊢
                    have e10 : A.tmps[10]?.getD undef = .slice (some ⟨g2, off2, none⟩) (qc.length + 1) c2' := by rw [← hA]; exact fr_out _ _ _ _ 10 _ (by decide) rfl
                    clear hA hdep
                    go_simp
                    exact hK _ _ trivial hC rfl
                  · simp only [List.getElem?_toArray, List.getElem?_cons_zero, List.getElem?_cons_succ, Option.some.injEq] at ho
                    subst ho
                    simp only [Option.some.injEq] at hd
                    subst hd
                    have h51 : f 51 = .slice (some ⟨g2, off2, none⟩) (qc.length + 1) c2' := hdep { on := 1, ground := .data } (by simp) rfl 51 rfl
                    generalize hA : fr _ _ _ f = A at hK ⊢
                    have e51 : A.tmps[51]?.getD undef = f 51 := by rw [← hA]; exact fr_in _ _ _ _ 51 (by decide) (by simp)
                    clear hA hdep
                    rw [h51] at e51
                    clear h51
                    go_simp
                    exact hK _ _ trivial hC rfl
                  · simp only [List.getElem?_toArray, List.getElem?_cons_zero, List.getElem?_cons_succ, Option.some.injEq] at ho
                    subst ho
                    simp only [Option.some.injEq] at hd
                    subst hd
                    have h52 : f 52 = .pointer (some ⟨g2, off2, none⟩) := hdep { on := 2, ground := .data } (by simp) rfl 52 rfl
                    generalize hA : fr _ _ _ f = A at hK ⊢
                    have e52 : A.tmps[52]?.getD undef = f 52 := by rw [← hA]; exact fr_in _ _ _ _ 52 (by decide) (by simp)
                    clear hA hdep
                    rw [h52] at e52
                    clear h52
                    have xc := Hvc.out w1 hC
                    go_simp
                    exact hK _ _ trivial hC rfl
                  · simp only [List.getElem?_toArray, List.getElem?_cons_zero, List.getElem?_cons_succ, Option.some.injEq] at ho
                    subst ho
                    simp only [Option.some.injEq] at hd
                    subst hd
                    have h50 : f 50 = .agg #[.string ds[m].name, .int .i64 ds[m].kind, .int .i64 ds[m].a, .int .i64 ds[m].b, .int .i64 ds[m].comp] := hdep { on := 0, ground := .data } (by simp) rfl 50 rfl
                    have h53 : f 53 = .int .i64 (v : Nat) := hdep { on := 3, ground := .data } (by simp) rfl 53 rfl
                    generalize hA : fr _ _ _ f = A at hK ⊢
                    have e50 : A.tmps[50]?.getD undef = f 50 := by rw [← hA]; exact fr_in _ _ _ _ 50 (by decide) (by simp)
                    have e53 : A.tmps[53]?.getD undef = f 53 := by rw [← hA]; exact fr_in _ _ _ _ 53 (by decide) (by simp)
                    clear hA hdep
                    rw [h50] at e50
                    clear h50
                    rw [h53] at e53
                    clear h53
                    go_simp
                    refine (across_any ds[m] v w1).mono ?_
                    rintro e w2 ⟨rfl, hb2⟩
                    exact hK _ _ trivial (hC.trans (hb2.mono hC.size)) rfl
                  · simp only [List.getElem?_toArray, List.getElem?_cons_zero, List.getElem?_cons_succ, Option.some.injEq] at ho
                    subst ho
                    simp only [Option.some.injEq] at hd
                    subst hd
                    have h54 : f 54 = .int .i64 (acrossL ds[m] v) := hdep { on := 4, ground := .data } (by simp) rfl 54 rfl
                    generalize hA : fr _ _ _ f = A at hK ⊢
                    have e54 : A.tmps[54]?.getD undef = f 54 := by rw [← hA]; exact fr_in _ _ _ _ 54 (by decide) (by simp)
                    clear hA hdep
                    rw [h54] at e54
                    clear h54
                    go_simp
                    exact hK _ _ trivial hC rfl
                · intro f w1 hC hall
                  have q15 : f 15 = .int .i64 (acrossL ds[m] v) := hall 5 15 (by decide) rfl
                  have H15 := Lib.hid q15
                  clear hall q15
                  simp only [fr, upd, List.mapIdx_cons, List.mapIdx_nil]
                  simp
                  go_wp2_with fail
                  go_meet
                  case rel => exact ⟨H15.out, hC⟩
              case rest =>
                obtain ⟨rfl, hbw⟩ := hcut
                obtain ⟨w1, rfl⟩ : ∃ w1, w1 = wc := ⟨_, rfl⟩
                have D1 := D0.below hbw
                have hown1 := hown0.keep (Kept.of_below hbw)
                clear D0 hown0 Hbx Hvc D hown hc2' hbw
                generalize acrossL ds[m] v = y at *
                by_cases hy0 : 0 ≤ y
                · obtain ⟨u, rfl⟩ := Int.eq_ofNat_of_zero_le hy0
                  have hun : u < ns.length := by omega
                  have humk : u < (marks oc).length := by rw [marks_len, hQc.len]; exact hun
                  obtain ⟨a1, a2, _⟩ := D1.out.at_ humk
                  rw [marks_at oc u humk] at a1
                  have hcs : w1.cell? ⟨bs, 0, none⟩ = some (.slice U st.length cu) := (D1.bel.cell (p := ⟨bs, 0, none⟩) (World.block_lt_of_cell? _ _ hc)).trans hc
                  have HC := Lib.hid (closed_any w1 S U cu st (hs.keep (Kept.of_below D1.bel)) bs hcs m hmst)
                  by_cases hneg : PO.at_ oc u < 0
                  · rw [decide_eq_false (by omega)] at a1
                    by_cases huse : (st[m] == 2) = true
                    · rw [if_pos ⟨hy0, huse⟩, Int.toNat_natCast] at Hd
                      rw [huse] at HC
                      have hst' := hQc.step (v := v) (by rw [Hov.out]; exact hv.2) hun hneg
                      rw [Hov.out] at hst'
                      have Hst := Lib.hid hst'
                      clear hst' huse
                      have hown2 := hown1.keep (Kept.setCell (S := fun g => w.heap.size + 2 ≤ g) (p := ⟨w.heap.size + 1, u, none⟩) (by show ¬ _ ≤ w.heap.size + 1; omega) (.bool true))
                      have D2 := D1.set u (PO.at_ out v + 1) (by have := hv.2; omega)
                      have hsz2 := D2.size
                      go_wp2_with (fail)
                      refine (HC.out).mono ?_
                      rintro e w' ⟨rfl, rfl⟩
                      go_wp2_with (at_builtin; go_must (refine wpList_push (B := w.heap.size + 2) rfl (.tmp 72) (.tmp 74) rfl rfl rfl (by simp [nats]) (hown2.keep (Kept.alloc _ _ _)) (new_cell' _ _ _ _ (by simp [World.setCell])) (by simp [nats]; omega) (by simp at hsz2 ⊢; omega) ?_); intro A4 c4 w4 ho4 hb4 _ _)
                      go_roundg (gk - 1)
                      case measure => have := Hm.out; omega
                      case rel =>
                        refine ⟨m + 1, _, _, A4, c4, by have := Hm.out; omega, by go_num, ?_, ?_, (D2.belowB ((Below.refl _ _).alloc hsz2 _)).belowB hb4, ?_, Hst.out.2.2, Hst.out.1, ?_⟩
                        · simp [nats]
                        · have e : nats (v :: qc) ++ [(u : Int)] = nats (v :: (qc ++ [u])) := by simp [nats]
                          rw [← e]; exact ho4
                        · rw [Hsc.out, Hd.out]
                          simp only [PO.scan]
                          rw [if_pos hneg]
                        · have := Hst.out.2.1
                          have := Hng.out
                          simp; omega
                    · have huse : (st[m] == 2) = false := by simpa using huse
                      rw [if_neg (by simp [huse])] at Hd
                      rw [huse] at HC
                      clear huse
                      go_wp2_with (fail)
                      refine (HC.out).mono ?_
                      rintro e w' ⟨rfl, rfl⟩
                      go_wp2_with (fail)
                      go_roundg (gk - 1)
                      case measure => have := Hm.out; omega
                      case rel => exact ⟨m + 1, oc, qc, _, _, by have := Hm.out; omega, by go_num, rfl, hown1, D1, by rw [Hsc.out, Hd.out], Hov.out, hQc, Hng.out⟩
                  · rw [decide_eq_true (by omega)] at a1
                    have Hd2 : Hid (PO.scan (PO.at_ out v + 1) (nbZ ((ds.zip (useOf st)).drop m) v) oc qc = PO.scan (PO.at_ out v + 1) (nbZ ((ds.zip (useOf st)).drop (m + 1)) v) oc qc) := Lib.hid (by
                      rw [Hd.out]
                      split
                      · simp only [Int.toNat_natCast, PO.scan]
                        rw [if_neg hneg]
                      · rfl)
                    clear Hd HC
                    go_wp2_with (fail)
                    go_roundg (gk - 1)
                    case measure => have := Hm.out; omega
                    case rel => exact ⟨m + 1, oc, qc, _, _, by have := Hm.out; omega, by go_num, rfl, hown1, D1, by rw [Hsc.out, Hd2.out], Hov.out, hQc, Hng.out⟩
                · rw [if_neg (fun h => hy0 h.1)] at Hd
                  go_wp2_with (fail)
                  go_roundg (gk - 1)
                  case measure => have := Hm.out; omega
                  case rel => exact ⟨m + 1, oc, qc, _, _, by have := Hm.out; omega, by go_num, rfl, hown1, D1, by rw [Hsc.out, Hd.out], Hov.out, hQc, Hng.out⟩
            · have hsc := Hsc.out
              rw [List.drop_of_length_le (by simp; omega)] at hsc
              have Hsc := Lib.hid (show PO.scan (PO.at_ out v + 1) (nbZ (ds.zip (useOf st)) v) out q = (oc, qc) from hsc)
              clear hsc
              have hcap := hown.cap
              rw [nats_len, List.length_cons] at hcap
              have hgo' := Hgk.out
              rw [List.length_cons] at hgo'
              obtain ⟨g1, rfl⟩ : ∃ x, go = x + 1 := ⟨go - 1, by omega⟩
              have hdi := Hdi.out
              simp only [PO.bfs] at hdi
              rw [Hsc.out] at hdi
              have Hdi := Lib.hid hdi
              have Hgo := Lib.hid (show g1 = PO.negs oc + qc.length by have := Hng.out; omega)
              have hqb : PO.negs oc + qc.length ≤ 2000 := by
                have h1 := Hng.out
                simp at hql
                omega
              clear hdi hgo'
              by_cases hc1 : c2' = 1
              · subst hc1
                obtain rfl : qc = [] := List.eq_nil_of_length_eq_zero (by omega)
                go_wp2_with (fail)
                go_roundg g1
                case measure => omega
                case rel => exact ⟨oc, [], _, _, Hgo.out, rfl, hown.cut0, D, Hdi.out, hQc, hqb⟩
              · go_wp2_with (fail)
                go_roundg g1
                case measure => omega
                case rel => exact ⟨oc, qc, _, _, Hgo.out, rfl, hown.cut1, D, Hdi.out, hQc, hqb⟩
end Go.Proofs.YtglhplddjjoggaaDoor

/-
  The walk of network.Distances: breadth-first search.
-/
import Derived.Test.YtglhplddjjoggaaDoorNw
import Derived.Test.YtglhplddjjoggaaDoorBfs
import Derived.Laws.Rows
import Derived.Laws.Tables
namespace Go.Proofs.YtglhplddjjoggaaDoor
open Go.RowKit
set_option maxHeartbeats 400000
set_option maxRecDepth 100000

abbrev bools (xs : List Bool) : List Value := xs.map Value.bool
def SB (w : World) (S : Nat → Prop) (A : Option Addr) (xs : List Bool) : Prop := SV w S A (bools xs)
section
variable {S T : Nat → Prop} {w w' : World} {A : Option Addr} {xs : List Bool}
theorem SB.keep (h : SB w S A xs) (k : Kept S w w') : SB w' S A xs := SV.keep h k
theorem SB.mono (h : SB w S A xs) (hST : ∀ b, b < w.heap.size → S b → T b) : SB w T A xs := SV.mono h hST
theorem SB.at_ (h : SB w S A xs) {k : Nat} (hk : k < xs.length) : ∃ b off, A = some ⟨b, off, none⟩ ∧ S b ∧ b < w.heap.size ∧ w.cell? ⟨b, off + k, none⟩ = some (.bool xs[k]) := by
  obtain ⟨b, off, e, hs, hb, hc⟩ := h (by intro hx; have : xs = [] := by simpa [bools] using hx
                                          subst this; simp at hk)
  exact ⟨b, off, e, hs, hb, hc k _ (by simp [bools, List.getElem?_eq_getElem hk])⟩
end

/-- An array of 32 ints in a block of its own. -/
def Arr (w : World) (b : Nat) (xs : List Int) : Prop := w.heap[b]? = some (.cells (ints xs).toArray 120 (0, 0))
theorem Arr.lt {w : World} {b : Nat} {xs : List Int} (h : Arr w b xs) : b < w.heap.size := (Array.getElem?_eq_some_iff.1 h).1
theorem Arr.at_ {w : World} {b : Nat} {xs : List Int} (h : Arr w b xs) {k : Nat} (hk : k < xs.length) : w.cell? ⟨b, k, none⟩ = some (.int .i64 xs[k]) ∧ w.frozen? ⟨b, k, none⟩ = false := by
  constructor
  · rw [cell_of_row w b k _ _ _ h]; simp [ints, hk]
  · exact frozen_of_row w b k _ _ h
theorem Arr.set {w : World} {b : Nat} {xs : List Int} (h : Arr w b xs) (k : Nat) (x : Int) : Arr (w.setCell ⟨b, k, none⟩ (.int .i64 x)) b (xs.set k x) := by
  unfold Arr at *
  rw [heap_setCell_same w b k _ _ _ h]
  simp [ints, List.map_set]
theorem Arr.keep {w w' : World} {b : Nat} {xs : List Int} (h : Arr w b xs) (e : w'.heap[b]? = w.heap[b]?) : Arr w' b xs := by
  unfold Arr at *
  rw [e, h]

def nbZ (zs : List (Dev × Bool)) (v : Nat) : List Nat := zs.filterMap (fun z => if 0 ≤ acrossL z.1 v ∧ z.2 = true then some (acrossL z.1 v).toNat else none)
def nats (xs : List Nat) : List Int := xs.map (fun (x : Nat) => (x : Int))
/-- the distances of all nodes to some -/
def distL (ds : List Dev) (use : List Bool) (gs : List Nat) : List Int := PO.bfs (nbZ (ds.zip use)) (PO.negs (PO.mark (List.replicate 32 (-1)) gs) + gs.length) (PO.mark (List.replicate 32 (-1)) gs) gs


theorem arrInfo : (Tryd.prog.info? 120).map (·.size) = some 32 := by kernel_rfl
theorem arr_size {out : List Int} (h : out.length = 32) : (Tryd.prog.info? 120).map (·.size) = some (ints out).toArray.size := by rw [arrInfo]; simp [ints, h]
theorem ints_all (out : List Int) : (ints out).toArray.all (·.oneCell') = true := by
  rw [Array.all_eq_true_iff_forall_mem]
  intro v hv
  simp [ints] at hv
  obtain ⟨x, _, rfl⟩ := hv
  rfl
theorem new_cell' (w : World) (u : Value) (t : TypeId) (b : Nat) (hb : b = w.heap.size) : (w.alloc (.cells #[u] t)).cell? ⟨b, 0, none⟩ = some u := by subst hb; exact new_cell w u t
theorem nats_len (xs : List Nat) : (nats xs).length = xs.length := by simp [nats]
theorem at_get {out : List Int} {v : Nat} (h : v < out.length) : PO.at_ out v = out[v] := by simp [PO.at_, h]
theorem nbZ_drop (zs : List (Dev × Bool)) (v m : Nat) (h : m < zs.length) : nbZ (zs.drop m) v = if 0 ≤ acrossL zs[m].1 v ∧ zs[m].2 = true then (acrossL zs[m].1 v).toNat :: nbZ (zs.drop (m + 1)) v else nbZ (zs.drop (m + 1)) v := by
  rw [List.drop_eq_getElem_cons h]
  unfold nbZ
  rw [List.filterMap_cons]
  by_cases c : 0 ≤ acrossL zs[m].1 v ∧ zs[m].2 = true
  · simp only [if_pos c]
  · simp only [if_neg c]

theorem OI.cut1 {w : World} {S : Nat → Prop} {g off c : Nat} {x : Int} {xs : List Int} (h : OI w S (some ⟨g, off, none⟩) c (x :: xs)) : OI w S (some ⟨g, off + 1, none⟩) (c - 1) xs := by
  have := OV.cut h 1 (by simp)
  unfold OI
  simpa [ints] using this
theorem OI.cut0 {w : World} {S : Nat → Prop} {g off c : Nat} {xs : List Int} (h : OI w S (some ⟨g, off, none⟩) c xs) : OI w S (some ⟨g, off, none⟩) 0 [] := by
  obtain ⟨h1, h2, h3, h4⟩ := h
  refine ⟨Nat.le_refl _, Nat.zero_le _, rfl, .inr ?_⟩
  rcases h4 with ⟨h4, _⟩ | ⟨g', off', cur, e1, hs, hg, hsz, hc⟩
  · cases h4
  · exact ⟨g', off', cur, e1, hs, hg, by omega, fun j u hj => by simp [ints] at hj⟩

/-- The blocks of the search: the boxed network, the result, the array. -/
structure DSt (w : World) (v1 v2 : Value) (wr : World) (out : List Int) : Prop where
  box : wr.heap[w.heap.size]? = some (.cells #[v1, v2] 26 (0, 0))
  res : Arr wr (w.heap.size + 1) (List.replicate 32 0)
  out : Arr wr (w.heap.size + 1 + 1) out
  bel : Below w.heap.size w wr
section
variable {w wr w' : World} {v1 v2 : Value} {out : List Int}
theorem DSt.size (h : DSt w v1 v2 wr out) : w.heap.size + 3 ≤ wr.heap.size := h.out.lt
theorem DSt.belowB (h : DSt w v1 v2 wr out) (hb : Below (w.heap.size + 3) wr w') : DSt w v1 v2 w' out :=
  ⟨(hb.block _ (by omega)).trans h.box, h.res.keep (hb.block _ (by omega)), h.out.keep (hb.block _ (by omega)), h.bel.trans (hb.mono (by omega))⟩
theorem DSt.below (h : DSt w v1 v2 wr out) (hb : Below wr.heap.size wr w') : DSt w v1 v2 w' out := h.belowB (hb.mono h.size)
theorem DSt.set (h : DSt w v1 v2 wr out) (k : Nat) (x : Int) : DSt w v1 v2 (wr.setCell ⟨w.heap.size + 1 + 1, k, none⟩ (.int .i64 x)) (out.set k x) :=
  ⟨(Below.heap_setCell _ _ _ _ (by show w.heap.size ≠ w.heap.size + 1 + 1; omega)).trans h.box, h.res.keep (Below.heap_setCell _ _ _ _ (by show w.heap.size + 1 ≠ w.heap.size + 1 + 1; omega)), h.out.set k x, h.bel.setCell (by show w.heap.size ≤ w.heap.size + 1 + 1; omega) _⟩
theorem DSt.n1 (h : DSt w v1 v2 wr out) : wr.cell? ⟨w.heap.size, 1, none⟩ = some v2 := by rw [cell_of_row wr _ 1 _ _ _ h.box]; rfl
end
theorem three (w : World) (o1 o2 o3 : Obj) : let W := (((w.alloc o1).alloc o2).alloc o3)
    W.heap[w.heap.size]? = some o1 ∧ W.heap[w.heap.size + 1]? = some o2 ∧ W.heap[w.heap.size + 1 + 1]? = some o3 ∧ Below w.heap.size w W := by
  refine ⟨?_, ?_, ?_, ?_⟩
  · rw [Below.heap_alloc _ _ _ (by simp <;> omega), Below.heap_alloc _ _ _ (by simp)]; exact heap_alloc_new w o1
  · rw [Below.heap_alloc _ _ _ (by simp)]
    have := heap_alloc_new (w.alloc o1) o2; simpa using this
  · have := heap_alloc_new ((w.alloc o1).alloc o2) o3; simpa using this
  · exact (((Below.refl _ _).alloc (Nat.le_refl _) _).alloc (by simp) _).alloc (by simp <;> omega) _
theorem start_facts (gs : List Nat) (hg : ∀ g ∈ gs, g < 32) : (∀ u ∈ gs, u < 32 ∧ 0 ≤ PO.at_ (PO.mark (List.replicate 32 (-1)) gs) u) ∧ ∀ u, PO.at_ (PO.mark (List.replicate 32 (-1)) gs) u + PO.negs (PO.mark (List.replicate 32 (-1)) gs) ≤ 32 := by
  have hat : ∀ v, PO.at_ (PO.mark (List.replicate 32 (-1)) gs) v = if v ∈ gs then 0 else -1 := fun v => by
    rw [PO.at_mark _ _ _ (by simpa using hg), PO.at_rep]
  have hle : PO.negs (PO.mark (List.replicate 32 (-1)) gs) ≤ 32 := by
    have := List.countP_le_length (p := fun x : Int => decide (x < 0)) (l := PO.mark (List.replicate 32 (-1)) gs)
    rw [PO.mark_len] at this
    simpa [PO.negs] using this
  refine ⟨fun u hu => ⟨hg u hu, ?_⟩, fun u => ?_⟩
  · rw [hat, if_pos hu]; omega
  · rw [hat]; split <;> omega
theorem negs_le (out : List Int) : PO.negs out ≤ out.length := List.countP_le_length
/-- What stays true while a queue is worked off. -/
structure QOk (out : List Int) (q : List Nat) : Prop where
  len : out.length = 32
  mem : ∀ u ∈ q, u < 32 ∧ 0 ≤ PO.at_ out u
  bnd : ∀ u, PO.at_ out u + PO.negs out ≤ 32
theorem QOk.step {out : List Int} {q : List Nat} (h : QOk out q) {v u : Nat} (hv : 0 ≤ PO.at_ out v) (hu : u < 32) (hn : PO.at_ out u < 0) : QOk (out.set u (PO.at_ out v + 1)) (q ++ [u]) ∧ PO.negs (out.set u (PO.at_ out v + 1)) + 1 = PO.negs out ∧ PO.at_ (out.set u (PO.at_ out v + 1)) v = PO.at_ out v := by
  have hne : u ≠ v := fun e => by rw [e] at hn; omega
  have hng := PO.negs_set (x := PO.at_ out v + 1) (by rw [h.len]; exact hu) hn (by omega)
  refine ⟨⟨by simp [h.len], fun x hx => ?_, fun x => ?_⟩, hng, by rw [PO.at_set, if_neg (by omega)]⟩
  · rcases List.mem_append.1 hx with hx | hx
    · refine ⟨(h.mem x hx).1, ?_⟩
      rw [PO.at_set]
      split
      · omega
      · exact (h.mem x hx).2
    · obtain rfl : x = u := by simpa using hx
      refine ⟨hu, ?_⟩
      rw [PO.at_set, if_pos ⟨rfl, by rw [h.len]; exact hu⟩]; omega
  · rw [PO.at_set]
    have := h.bnd v
    have := h.bnd x
    split <;> omega
def init1 (k : Nat) : List Int := List.replicate k (-1) ++ List.replicate (32 - k) 0
theorem init1_len (k : Nat) (h : k ≤ 32) : (init1 k).length = 32 := by simp [init1]; omega
theorem init1_set (k : Nat) (h : k < 32) : (init1 k).set k (-1) = init1 (k + 1) := by
  unfold init1
  rw [List.set_append_right _ _ (by simp), List.length_replicate, Nat.sub_self, show 32 - k = (32 - (k + 1)) + 1 by omega, List.replicate_succ, List.set_cons_zero, List.replicate_succ' (n := k), List.append_assoc]
  rfl

set_option maxHeartbeats 4000000 in
theorem distances_any (w : World) (S : Nat → Prop) (A1 A2 : Option Addr) (c1 c2 : Nat) (ns : List Node) (ds : List Dev) (hn : NetIn w S A1 A2 ns ds) (hl2 : ds.length ≤ 64)
    (U : Option Addr) (cu : Nat) (use : List Bool) (hu : SB w S U use) (hul : use.length = ds.length) (G : Option Addr) (cg : Nat) (gs : List Nat) (hg : SI w S G (nats gs)) (hgl : gs.length ≤ 1000) (hg32 : ∀ g ∈ gs, g < 32)
    (hd : ∀ d ∈ ds, ∀ v, acrossL d v < 32) :
    Calls Tryd.prog 111 #[.agg #[.slice A1 ns.length c1, .slice A2 ds.length c2], .slice U use.length cu, .slice G gs.length cg] w fun e w' => e = .returned (.agg (ints (distL ds use gs)).toArray) ∧ Below w.heap.size w w' := by
  have Hul := Lib.hid hul
  clear hul
  go_enter Tryd.func111, Tryd.ntmps111
  go_wp2_with (fail)
  go_loopg [16] 32 (fun g i wr => ∃ k : Nat, k + g = 32 ∧ i = .int .i64 k ∧ DSt w (.slice A1 ns.length c1) (.slice A2 ds.length c2) wr (init1 k))
  case atStart =>
    refine ⟨0, by omega, rfl, ⟨(three w _ _ _).1, (three w _ _ _).2.1, (three w _ _ _).2.2.1, (three w _ _ _).2.2.2⟩⟩
  case round =>
    obtain ⟨k, hk, rfl, D⟩ := hrel
    have Hk := Lib.hid hk
    clear hk
    by_cases hlt : k < 32
    · obtain ⟨q1, q2⟩ := D.out.at_ (k := k) (by rw [init1_len k (by omega)]; exact hlt)
      go_wp2_with (fail)
      go_roundg (gk - 1)
      case measure => have := Hk.out; omega
      case rel =>
        refine ⟨k + 1, by have := Hk.out; omega, by go_num, ?_⟩
        rw [← init1_set k hlt]
        exact D.set k (-1)
    · have hk32 : k = 32 := by have := Hk.out; omega
      subst hk32
      have hcl := clone_any wr S G cg (nats gs) (hg.keep (Kept.of_below D.bel)) (by rw [nats_len]; omega)
      rw [nats_len] at hcl
      have Hcl := Lib.hid hcl
      clear hcl
      go_wp2_with (fail)
      refine (Hcl.out).mono ?_
      rintro e w1 ⟨Aq, cq, rfl, hoq, hb1⟩
      rw [nats_len]
      have D1 := D.below hb1
      have hoq1 := hoq.mono (T := fun g => w.heap.size + 3 ≤ g) (fun g _ hg => by have := D.size; show _ ≤ g; omega)
      go_wp2_with (fail)
      clear hoq Hk Hcl hlt D
      have e32 : init1 32 = List.replicate 32 (-1) := by decide
      rw [e32] at D1
      clear e32
      go_loopg [26] gs.length (fun g i wr => ∃ (k : Nat) (out : List Int), k + g = gs.length ∧ i = .int .i64 k ∧ DSt w (.slice A1 ns.length c1) (.slice A2 ds.length c2) wr out ∧ out.length = 32 ∧ PO.mark (List.replicate 32 (-1)) gs = PO.mark out (gs.drop k) ∧ OI wr (fun g => w.heap.size + 3 ≤ g) Aq cq (nats gs))
      case atStart => exact ⟨0, _, by omega, rfl, D1, by simp, rfl, hoq1⟩
      case round =>
        clear D1 hoq1 hb1
        obtain ⟨k, out, hk, rfl, D, hol, hmk, hoq⟩ := hrel
        have Hk := Lib.hid hk
        have Hmk := Lib.hid hmk
        have Hol := Lib.hid hol
        clear hk hmk hol
        by_cases hlt : k < gs.length
        · have hgk : gs[k] < 32 := hg32 _ (List.getElem_mem hlt)
          obtain ⟨b, off, rfl, hS, hbl, q0⟩ := (hg.keep (Kept.of_below D.bel)).at_ (k := k) (by rw [nats_len]; exact hlt)
          have q0' : wr.cell? ⟨b, off + k, none⟩ = some (.int .i64 (gs[k] : Nat)) := by rw [q0]; simp [nats]
          obtain ⟨q1, q2⟩ := D.out.at_ (k := gs[k]) (by rw [Hol.out]; exact hgk)
          clear q0
          go_wp2_with (fail)
          go_roundg (gk - 1)
          case measure => have := Hk.out; omega
          case rel =>
            refine ⟨k + 1, _, by have := Hk.out; omega, by go_num, D.set gs[k] 0, by simp [Hol.out], ?_, hoq.keep (Kept.setCell (by show ¬ _ ≤ w.heap.size + 1 + 1; omega) _)⟩
            rw [Hmk.out, List.drop_eq_getElem_cons hlt]
            rfl
        · have hmk := Hmk.out
          rw [List.drop_of_length_le (by omega)] at hmk
          have hmk : PO.mark (List.replicate 32 (-1)) gs = out := hmk
          have HD : Hid (distL ds use gs = PO.bfs (nbZ (ds.zip use)) (PO.negs out + gs.length) out gs) := Lib.hid (by unfold distL; rw [hmk])
          have hst := start_facts gs hg32
          rw [hmk] at hst
          have hQ : QOk out gs := ⟨Hol.out, hst.1, hst.2⟩
          clear hmk hst Hmk Hk Hol
          go_wp2_with (fail)
          clear hlt
          obtain ⟨wo, rfl⟩ : ∃ wo : World, wo = wr := ⟨_, rfl⟩
          go_loopg [9] (PO.negs out + gs.length) (fun g v wr => ∃ (out : List Int) (q : List Nat) (A' : Option Addr) (c' : Nat), g = PO.negs out + q.length ∧ v = .slice A' q.length c' ∧ OI wr (fun g => w.heap.size + 3 ≤ g) A' c' (nats q) ∧ DSt w (.slice A1 ns.length c1) (.slice A2 ds.length c2) wr out ∧
            distL ds use gs = PO.bfs (nbZ (ds.zip use)) g out q ∧ QOk out q ∧ PO.negs out + q.length ≤ 2000)
          case atStart => exact ⟨out, gs, Aq, cq, rfl, rfl, hoq, D, HD.out, hQ, by have := negs_le out; rw [hQ.len] at this; omega⟩
          case round =>
            clear D HD hQ hoq
            obtain ⟨out, q, A', c', hgk, rfl, hown, D, hdi, hQ, hql⟩ := hrel
            have Hgk := Lib.hid hgk
            have Hdi := Lib.hid hdi
            clear hgk hdi
            have n1 := D.n1
            cases q with
            | nil =>
              have hdi := Hdi.out
              have hdd : PO.bfs (nbZ (ds.zip use)) gk out [] = out := by cases gk <;> rfl
              rw [hdd] at hdi
              have Hdi := Lib.hid hdi
              clear hdi hdd
              have S1 := Lib.hid (arr_size hQ.len)
              have S2 := Lib.hid (show (ints (List.replicate 32 0)).toArray.size = (ints out).toArray.size by simp [ints, hQ.len])
              go_wp2_with (first | (refine wpList_load_row rfl 120 (.tmp 7) rfl (w.heap.size + 1 + 1) rfl _ _ _ _ D.out Tryd.underlying120 rfl S1.out ?_) | (refine wpList_store_row rfl 120 (.tmp 6) (.tmp 77) rfl (w.heap.size + 1) _ rfl rfl _ _ D.res S1.out S2.out (ints_all _) ?_))
              have hres := setRow_heap wr (w.heap.size + 1) _ (ints out).toArray _ _ D.res
              refine bodyPost_ret (v := .agg (ints out).toArray) (results_cell_row Tryd.results111 _ _ (w.heap.size + 1) 120 (ints out).toArray (0, 0) _ rfl hres Tryd.underlying120 rfl S1.out) rfl ⟨by rw [Hdi.out], ?_⟩
              exact ⟨D.bel.os, D.bel.tape, D.bel.output, by simp; exact D.bel.size, fun k hk => (setRow_other wr (w.heap.size + 1) k _ (by omega)).trans (D.bel.block k hk)⟩
            | cons v q =>
              obtain ⟨g', off', rfl, hgB, hgl, hc0, _⟩ := hown.at_ (k := 0) (by simp [nats])
              have hc0' : wr.cell? ⟨g', off', none⟩ = some (.int .i64 (v : Nat)) := by simpa [nats] using hc0
              clear hc0
              have hv := hQ.mem v (by simp)
              have hQ' : QOk out q := ⟨hQ.len, fun u hu => hQ.mem u (by simp [hu]), hQ.bnd⟩
              have hbv := hQ.bnd v
              go_wp2_with (fail)
              obtain ⟨wp, rfl⟩ : ∃ wp : World, wp = wr := ⟨_, rfl⟩
              obtain ⟨go, rfl⟩ : ∃ x : Nat, x = gk := ⟨_, rfl⟩
              go_loopg [9, 44] ds.length (fun g s9 i wr => ∃ (m : Nat) (oc : List Int) (qc : List Nat) (A' : Option Addr) (c' : Nat), m + g = ds.length ∧ i = .int .i64 m ∧ s9 = .slice A' (qc.length + 1) c' ∧ OI wr (fun g => w.heap.size + 3 ≤ g) A' c' (nats (v :: qc)) ∧ DSt w (.slice A1 ns.length c1) (.slice A2 ds.length c2) wr oc ∧
                PO.scan (PO.at_ out v + 1) (nbZ (ds.zip use) v) out q = PO.scan (PO.at_ out v + 1) (nbZ ((ds.zip use).drop m) v) oc qc ∧ PO.at_ oc v = PO.at_ out v ∧ QOk oc qc ∧ PO.negs oc + qc.length = PO.negs out + q.length)
              case atStart => exact ⟨0, out, q, _, _, by omega, rfl, rfl, hown, D, rfl, rfl, hQ', rfl⟩
              case round =>
                clear D hown hc0' hQ' n1 hgB hgl
                obtain ⟨m, oc, qc, A2', c2', hm, rfl, rfl, hown, D, hsc, hov, hQc, hng⟩ := hrel
                have Hm := Lib.hid hm
                have Hsc := Lib.hid hsc
                have Hov := Lib.hid hov
                have Hng := Lib.hid hng
                have hqcl : qc.length ≤ 3000 := by
                  simp at hql
                  omega
                clear hm hsc hov hng
                by_cases hlt : m < ds.length
                · obtain ⟨b, off, rfl, hS, hbl, q0, q1, q2, q3, q4⟩ := (hn.below D.bel).dev hlt
                  have hmz : m < (ds.zip use).length := by have := Hul.out; simp; omega
                  have hmu : m < use.length := by have := Hul.out; omega
                  have Hd := Lib.hid (show nbZ ((ds.zip use).drop m) v = if 0 ≤ acrossL ds[m] v ∧ use[m] = true then (acrossL ds[m] v).toNat :: nbZ ((ds.zip use).drop (m + 1)) v else nbZ ((ds.zip use).drop (m + 1)) v from by rw [nbZ_drop (ds.zip use) v m hmz]; simp)
                  have hy := hd ds[m] (List.getElem_mem hlt) v
                  go_wp2_with (fail)
                  refine (across_any ds[m] v _).mono ?_
                  rintro e w1 ⟨rfl, hb1⟩
                  have hb2 := ((Below.refl wr.heap.size wr).alloc (Nat.le_refl _) (.cells #[.string ds[m].name, .int .i64 ds[m].kind, .int .i64 ds[m].a, .int .i64 ds[m].b, .int .i64 ds[m].comp] 81)).trans (hb1.mono (by simp))
                  have D1 := D.below hb2
                  have hown1 := hown.keep (Kept.of_below hb2)
                  generalize acrossL ds[m] v = y at *
                  by_cases hy0 : 0 ≤ y
                  · obtain ⟨u, rfl⟩ := Int.eq_ofNat_of_zero_le hy0
                    have hu32 : u < 32 := by omega
                    obtain ⟨bu, ou, rfl, _, _, hcu⟩ := (hu.keep (Kept.of_below D1.bel)).at_ hmu
                    by_cases huse : use[m] = true
                    · rw [if_pos ⟨hy0, huse⟩, Int.toNat_natCast] at Hd
                      rw [huse] at hcu
                      have HU := Lib.hid huse
                      clear huse
                      obtain ⟨a1, a2⟩ := D1.out.at_ (k := u) (by rw [hQc.len]; exact hu32)
                      obtain ⟨b1, b2⟩ := D1.out.at_ (k := v) (by rw [hQc.len]; exact hv.1)
                      rw [← at_get (by rw [hQc.len]; exact hu32)] at a1
                      rw [← at_get (by rw [hQc.len]; exact hv.1), Hov.out] at b1
                      by_cases hneg : PO.at_ oc u < 0
                      · have hst := hQc.step (v := v) (by rw [Hov.out]; exact hv.2) hu32 hneg
                        rw [Hov.out] at hst
                        have Hst := Lib.hid hst
                        clear hst
                        have hown2 := hown1.keep (Kept.setCell (S := fun g => w.heap.size + 3 ≤ g) (p := ⟨w.heap.size + 1 + 1, u, none⟩) (by show ¬ _ ≤ w.heap.size + 1 + 1; omega) (.int .i64 (PO.at_ out v + 1)))
                        have D2 := D1.set u (PO.at_ out v + 1)
                        have hsz2 := D2.size
                        go_wp2_with (at_builtin; go_must (refine wpList_push (B := w.heap.size + 3) rfl (.tmp 72) (.tmp 74) rfl rfl rfl (by simp [nats]) (hown2.keep (Kept.alloc _ _ _)) (new_cell' _ _ _ _ (by simp [World.setCell])) (by simp [nats]; omega) (by simp at hsz2 ⊢; omega) ?_); intro A4 c4 w4 ho4 hb4 _ _)
                        go_roundg (gk - 1)
                        case measure => have := Hm.out; omega
                        case rel =>
                          refine ⟨m + 1, _, _, A4, c4, by have := Hm.out; omega, by go_num, ?_, ?_, (D2.belowB ((Below.refl _ _).alloc hsz2 _)).belowB hb4, ?_, Hst.out.2.2, Hst.out.1, ?_⟩
                          · simp [nats]
                          · have e : nats (v :: qc) ++ [(u : Int)] = nats (v :: (qc ++ [u])) := by simp [nats]
                            rw [← e]; exact ho4
                          · rw [Hsc.out, Hd.out]
                            simp only [PO.scan]
                            rw [if_pos hneg]
                          · have := Hst.out.2.1
                            have := Hng.out
                            simp; omega
                      · go_wp2_with (fail)
                        go_roundg (gk - 1)
                        case measure => have := Hm.out; omega
                        case rel =>
                          refine ⟨m + 1, oc, qc, _, _, by have := Hm.out; omega, by go_num, rfl, hown1, D1, ?_, Hov.out, hQc, Hng.out⟩
                          rw [Hsc.out, Hd.out]
                          simp only [PO.scan]
                          rw [if_neg (Int.not_lt.2 hneg)]
                    · have huse : use[m] = false := by simpa using huse
                      rw [if_neg (by simp [huse])] at Hd
                      rw [huse] at hcu
                      have HU := Lib.hid huse
                      clear huse
                      go_wp2_with (fail)
                      go_roundg (gk - 1)
                      case measure => have := Hm.out; omega
                      case rel => exact ⟨m + 1, oc, qc, _, _, by have := Hm.out; omega, by go_num, rfl, hown1, D1, by rw [Hsc.out, Hd.out], Hov.out, hQc, Hng.out⟩
                  · rw [if_neg (fun h => hy0 h.1)] at Hd
                    go_wp2_with (fail)
                    go_roundg (gk - 1)
                    case measure => have := Hm.out; omega
                    case rel => exact ⟨m + 1, oc, qc, _, _, by have := Hm.out; omega, by go_num, rfl, hown1, D1, by rw [Hsc.out, Hd.out], Hov.out, hQc, Hng.out⟩
                · have hsc := Hsc.out
                  rw [List.drop_of_length_le (by simp; omega)] at hsc
                  have Hsc := Lib.hid (show PO.scan (PO.at_ out v + 1) (nbZ (ds.zip use) v) out q = (oc, qc) from hsc)
                  clear hsc
                  obtain ⟨g2, off2, rfl, _, _, _, _⟩ := hown.at_ (k := 0) (by simp [nats])
                  have hcap := hown.cap
                  rw [nats_len, List.length_cons] at hcap
                  have hgo := Hgk.out
                  rw [List.length_cons] at hgo
                  obtain ⟨g1, rfl⟩ : ∃ x, go = x + 1 := ⟨go - 1, by omega⟩
                  have hdi := Hdi.out
                  simp only [PO.bfs] at hdi
                  rw [Hsc.out] at hdi
                  have Hdi := Lib.hid hdi
                  have Hgo := Lib.hid (show g1 = PO.negs oc + qc.length by have := Hng.out; omega)
                  have hqb : PO.negs oc + qc.length ≤ 2000 := by
                    have h1 := Hng.out
                    simp at hql
                    omega
                  clear hdi hgo
                  by_cases hc1 : c2' = 1
                  · subst hc1
                    obtain rfl : qc = [] := List.eq_nil_of_length_eq_zero (by omega)
                    go_wp2_with (fail)
                    go_roundg g1
                    case measure => omega
                    case rel => exact ⟨oc, [], _, _, Hgo.out, rfl, hown.cut0, D, Hdi.out, hQc, hqb⟩
                  · go_wp2_with (fail)
                    go_roundg g1
                    case measure => omega
                    case rel => exact ⟨oc, qc, _, _, Hgo.out, rfl, hown.cut1, D, Hdi.out, hQc, hqb⟩
end Go.Proofs.YtglhplddjjoggaaDoor

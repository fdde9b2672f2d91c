/-
  The walk of colour.parts: the least node of each node's part.
-/
import Derived.Test.YtglhplddjjoggaaDoorFld
namespace Go.Proofs.YtglhplddjjoggaaDoor
open Go.RowKit
set_option maxHeartbeats 400000
set_option maxRecDepth 100000

/-- where a mark is, the number is v -/
def fillP : List Int → List Bool → Int → List Int
  | o :: os, b :: bs, v => (if b then v else o) :: fillP os bs v
  | os, _, _ => os
def partStep (n : Nat) (ds : List Dev) (st : List Int) (out : List Int) (v : Nat) : List Int := if 0 ≤ PO.at_ out v then out else fillP out (marks (floodD n ds st [v])) v
def partsTo (n : Nat) (ds : List Dev) (st : List Int) (k : Nat) : List Int := (List.range k).foldl (partStep n ds st) (List.replicate n (-1))
def partsL (n : Nat) (ds : List Dev) (st : List Int) : List Int := partsTo n ds st n
theorem partsTo_succ (n : Nat) (ds : List Dev) (st : List Int) (k : Nat) : partsTo n ds st (k + 1) = partStep n ds st (partsTo n ds st k) k := by
  unfold partsTo
  rw [List.range_succ, List.foldl_append]
  rfl
theorem fillP_len : ∀ (out : List Int) (bs : List Bool) (v : Int), (fillP out bs v).length = out.length
  | [], _, _ => by simp [fillP]
  | _ :: _, [], _ => by simp [fillP]
  | _ :: os, _ :: bs, v => by simp [fillP, fillP_len os bs v]
theorem fillP_at : ∀ (out : List Int) (bs : List Bool) (v : Int) (i : Nat) (h1 : i < out.length) (h2 : i < bs.length), (fillP out bs v)[i]'(by rw [fillP_len]; exact h1) = if bs[i] then v else out[i]
  | [], _, _, i, h1, _ => by simp at h1
  | _ :: _, [], _, i, _, h2 => by simp at h2
  | o :: os, b :: bs, v, 0, _, _ => by simp [fillP]
  | o :: os, b :: bs, v, i + 1, h1, h2 => by simp [fillP]; exact fillP_at os bs v i (by simpa using h1) (by simpa using h2)
theorem partStep_len (n : Nat) (ds : List Dev) (st : List Int) (out : List Int) (v : Nat) : (partStep n ds st out v).length = out.length := by
  unfold partStep
  split
  · rfl
  · exact fillP_len _ _ _
theorem partsTo_len (n : Nat) (ds : List Dev) (st : List Int) : ∀ k, (partsTo n ds st k).length = n
  | 0 => by simp [partsTo]
  | k + 1 => by rw [partsTo_succ, partStep_len, partsTo_len n ds st k]
/-- the first i places filled -/
theorem fillP_step (out : List Int) (bs : List Bool) (v : Int) (i : Nat) (h1 : i < out.length) (h2 : i < bs.length) : (fillP out (bs.take i) v).set i (if bs[i] then v else out[i]) = fillP out (bs.take (i + 1)) v := by
  induction out generalizing bs i with
  | nil => simp at h1
  | cons o os ih =>
    cases bs with
    | nil => simp at h2
    | cons b bs =>
      cases i with
      | zero => simp [fillP]
      | succ i => simp [fillP]; exact ih bs i (by simpa using h1) (by simpa using h2)
theorem fillP_same (out : List Int) (bs : List Bool) (v : Int) (i : Nat) (h1 : i < out.length) (h2 : i < bs.length) (hb : bs[i] = false) : fillP out (bs.take i) v = fillP out (bs.take (i + 1)) v := by
  rw [← fillP_step out bs v i h1 h2, hb]
  have e : (fillP out (bs.take i) v)[i]'(by rw [fillP_len]; exact h1) = out[i] := by
    clear hb
    induction out generalizing bs i with
    | nil => simp at h1
    | cons o os ih =>
      cases bs with
      | nil => simp at h2
      | cons b bs =>
        cases i with
        | zero => simp [fillP]
        | succ i => simp [fillP]; exact ih bs i (by simpa using h1) (by simpa using h2)
  have : (if false = true then v else out[i]) = (fillP out (bs.take i) v)[i]'(by rw [fillP_len]; exact h1) := by rw [e]; simp
  rw [this]
  simp
theorem fillP_zero (out : List Int) (v : Int) : fillP out [] v = out := by cases out <;> rfl

/-- A slice of ints that fills its own block. -/
def OIb (w : World) (g n : Nat) (xs : List Int) : Prop := OI w (fun x => x = g) (some ⟨g, 0, none⟩) n xs
theorem OIb.at_ {w : World} {g n : Nat} {xs : List Int} (h : OIb w g n xs) {k : Nat} (hk : k < xs.length) : w.cell? ⟨g, k, none⟩ = some (.int .i64 xs[k]) ∧ w.frozen? ⟨g, k, none⟩ = false ∧ g < w.heap.size := by
  obtain ⟨g', off, e, _, hgl, hc, hf⟩ := OI.at_ h hk
  injection e with e
  injection e with e1 e2
  subst e1
  subst e2
  rw [Nat.zero_add] at hc hf
  exact ⟨hc, hf, hgl⟩
theorem OIb.set {w : World} {g n : Nat} {xs : List Int} (h : OIb w g n xs) (k : Nat) (x : Int) : OIb (w.setCell ⟨g, k, none⟩ (.int .i64 x)) g n (xs.set k x) := by
  have := OI.set h k x
  rw [Nat.zero_add] at this
  exact this
theorem OIb.fr {w w' : World} {g n : Nat} {xs : List Int} (h : OIb w g n xs) (e : w'.heap[g]? = w.heap[g]?) : OIb w' g n xs := OV.keep1 h (fun k hk => by simp [blockOf] at hk; subst hk; exact e)
theorem OIb.lt {w : World} {g n : Nat} {xs : List Int} (h : OIb w g n xs) : g < w.heap.size := (OV.block h g rfl).2
theorem OIb.si {w : World} {g n : Nat} {xs : List Int} (h : OIb w g n xs) : SI w (fun x => x = g) (some ⟨g, 0, none⟩) xs := OI.si h
theorem make_ints (w : World) (n : Nat) (hn : n ≤ 65536) : ∃ w', (Instr.makeSlice 22 (.int .i64 n) (.int .i64 n)).run Tryd.prog w = .ok (.slice (some ⟨w.heap.size, 0, none⟩) n n) w' ∧
    OIb w' w.heap.size n (List.replicate n 0) ∧ Below w.heap.size w w' ∧ w'.heap.size = w.heap.size + 1 := by
  refine ⟨_, run_make_row' (P := Tryd.prog) 22 3 (.int .i64 0) 8 Tryd.underlying22 intInfo rfl .i64 .i64 n (by omega) (by omega) w, ?_, (Below.refl _ _).alloc (Nat.le_refl _) _, by simp⟩
  unfold OIb OI
  rw [List.length_replicate]
  refine ⟨Nat.le_refl _, by simp only [maxLen]; omega, by simp [ints], .inr ⟨w.heap.size, 0, _, rfl, rfl, heap_alloc_new w _, by simp [size_madeCells], fun j u hj => ?_⟩⟩
  rw [ints, List.map_replicate, List.getElem?_replicate] at hj
  split at hj
  · rename_i hlt
    simp at hj
    subst hj
    simp [madeCells, hlt, Nat.mod_one]
  · cases hj

/-- The blocks of parts: the boxed network, the boxed state, the numbers. -/
structure PSt (w : World) (v1 v2 v3 : Value) (n : Nat) (wr : World) (out : List Int) : Prop where
  box : wr.heap[w.heap.size]? = some (.cells #[v1, v2] 26 (0, 0))
  bst : wr.heap[w.heap.size + 1]? = some (.cells #[v3] 22 (0, 0))
  out : OIb wr (w.heap.size + 1 + 1) n out
  bel : Below w.heap.size w wr
section
variable {w wr w' : World} {v1 v2 v3 : Value} {n : Nat} {out : List Int}
theorem PSt.size (h : PSt w v1 v2 v3 n wr out) : w.heap.size + 3 ≤ wr.heap.size := h.out.lt
theorem PSt.below (h : PSt w v1 v2 v3 n wr out) (hb : Below wr.heap.size wr w') : PSt w v1 v2 v3 n w' out := by
  have hs := h.size
  exact ⟨(hb.block _ (by omega)).trans h.box, (hb.block _ (by omega)).trans h.bst, h.out.fr (hb.block _ (by omega)), h.bel.trans (hb.mono h.bel.size)⟩
theorem PSt.set (h : PSt w v1 v2 v3 n wr out) (k : Nat) (x : Int) : PSt w v1 v2 v3 n (wr.setCell ⟨w.heap.size + 1 + 1, k, none⟩ (.int .i64 x)) (out.set k x) :=
  ⟨(Below.heap_setCell _ _ _ _ (by show w.heap.size ≠ w.heap.size + 1 + 1; omega)).trans h.box, (Below.heap_setCell _ _ _ _ (by show w.heap.size + 1 ≠ w.heap.size + 1 + 1; omega)).trans h.bst, h.out.set k x, h.bel.setCell (by show w.heap.size ≤ w.heap.size + 1 + 1; omega) _⟩
theorem PSt.n0 (h : PSt w v1 v2 v3 n wr out) : wr.cell? ⟨w.heap.size, 0, none⟩ = some v1 := by rw [cell_of_row wr _ 0 _ _ _ h.box]; rfl
theorem PSt.n1 (h : PSt w v1 v2 v3 n wr out) : wr.cell? ⟨w.heap.size, 1, none⟩ = some v2 := by rw [cell_of_row wr _ 1 _ _ _ h.box]; rfl
theorem PSt.n2 (h : PSt w v1 v2 v3 n wr out) : wr.cell? ⟨w.heap.size + 1, 0, none⟩ = some v3 := by rw [cell_of_row wr _ 0 _ _ _ h.bst]; rfl
end

set_option maxHeartbeats 4000000 in
theorem parts_any (w : World) (S : Nat → Prop) (A1 A2 : Option Addr) (c1 c2 : Nat) (ns : List Node) (ds : List Dev) (hn : NetIn w S A1 A2 ns ds) (hl1 : ns.length ≤ 32) (hl2 : ds.length ≤ 64)
    (U : Option Addr) (cu : Nat) (st : List Int) (hs : SI w S U st) (hsl : st.length = ds.length) (hd : ∀ d ∈ ds, ∀ v, acrossL d v < ns.length) :
    Calls Tryd.prog 130 #[.agg #[.slice A1 ns.length c1, .slice A2 ds.length c2], .slice U st.length cu] w
      fun e w' => ∃ g, e = .returned (.slice (some ⟨g, 0, none⟩) ns.length ns.length) ∧ OIb w' g ns.length (partsL ns.length ds st) ∧ w.heap.size ≤ g ∧ Below w.heap.size w w' := by
  have Hsl := Lib.hid hsl
  clear hsl
  obtain ⟨w2, hmk, ho2, hb2, hz2⟩ := make_ints ((w.alloc (.cells #[.slice A1 ns.length c1, .slice A2 ds.length c2] 26)).alloc (.cells #[.slice U st.length cu] 22)) ns.length (by omega)
  have D0 : PSt w (.slice A1 ns.length c1) (.slice A2 ds.length c2) (.slice U st.length cu) ns.length w2 (List.replicate ns.length 0) := by
    have hb0 := ((Below.refl w.heap.size w).alloc (Nat.le_refl _) (.cells #[.slice A1 ns.length c1, .slice A2 ds.length c2] 26)).alloc (by simp) (.cells #[.slice U st.length cu] 22)
    refine ⟨(hb2.block _ (by simp; omega)).trans ((Below.heap_alloc _ _ _ (by simp)).trans (heap_alloc_new w _)), (hb2.block _ (by simp)).trans ?_, by simpa using ho2, hb0.trans (hb2.mono (by simp; omega))⟩
    have := heap_alloc_new (w.alloc (.cells #[.slice A1 ns.length c1, .slice A2 ds.length c2] 26)) (.cells #[.slice U st.length cu] 22)
    simpa using this
  clear hb2 hz2 ho2
  go_enter Tryd.func130, Tryd.ntmps130
  go_wp2_with (fail)
  clear hmk
  go_loopg [18] ns.length (fun g i wr => ∃ (k : Nat) (out : List Int), k + g = ns.length ∧ i = .int .i64 k ∧ PSt w (.slice A1 ns.length c1) (.slice A2 ds.length c2) (.slice U st.length cu) ns.length wr out ∧ out.length = ns.length ∧ out.take k = List.replicate k (-1))
  case atStart => exact ⟨0, _, by omega, rfl, D0, by simp, rfl⟩
  case round =>
    clear D0
    obtain ⟨k, out, hk, rfl, D, hol, htk⟩ := hrel
    have Hk := Lib.hid hk
    have Hol := Lib.hid hol
    have Htk := Lib.hid htk
    clear hk hol htk
    by_cases hlt : k < ns.length
    · obtain ⟨q1, q2, _⟩ := D.out.at_ (k := k) (by rw [Hol.out]; exact hlt)
      go_wp2_with (fail)
      go_roundg (gk - 1)
      case measure => have := Hk.out; omega
      case rel =>
        refine ⟨k + 1, _, by have := Hk.out; omega, by go_num, D.set k (-1), by simp [Hol.out], ?_⟩
        rw [List.take_succ_eq_append_getElem (by simp [Hol.out]; exact hlt), List.getElem_set_self, List.take_set_of_le (Nat.le_refl _), Htk.out, List.replicate_succ']
    · have hout : out = List.replicate ns.length (-1) := by
        have := Htk.out
        rw [List.take_of_length_le (by rw [Hol.out]; omega)] at this
        rw [this]
        have := Hk.out
        rw [show k = ns.length by omega]
      rw [hout] at D
      clear hout Htk Hol Hk
      go_wp2_with (fail)
      clear hlt
      obtain ⟨wo, rfl⟩ : ∃ wo : World, wo = wr := ⟨_, rfl⟩
      go_loopg [28] ns.length (fun g i wr => ∃ (v : Nat), v + g = ns.length ∧ i = .int .i64 v ∧ PSt w (.slice A1 ns.length c1) (.slice A2 ds.length c2) (.slice U st.length cu) ns.length wr (partsTo ns.length ds st v))
      case atStart => exact ⟨0, by omega, rfl, D⟩
      case round =>
        clear D
        obtain ⟨v, hv, rfl, D⟩ := hrel
        have Hv := Lib.hid hv
        clear hv
        by_cases hlt : v < ns.length
        · have hvl : v < (partsTo ns.length ds st v).length := by rw [partsTo_len]; exact hlt
          obtain ⟨q1, q2, _⟩ := D.out.at_ hvl
          rw [← at_get hvl] at q1
          have Hsu := Lib.hid (show partsTo ns.length ds st (v + 1) = if 0 ≤ PO.at_ (partsTo ns.length ds st v) v then partsTo ns.length ds st v else fillP (partsTo ns.length ds st v) (marks (floodD ns.length ds st [v])) v by rw [partsTo_succ]; rfl)
          have Hol := Lib.hid (partsTo_len ns.length ds st v)
          generalize hP : partsTo ns.length ds st v = out at *
          clear hP hvl
          by_cases hge : 0 ≤ PO.at_ out v
          · rw [if_pos hge] at Hsu
            go_wp2_with (fail)
            go_roundg (gk - 1)
            case measure => have := Hv.out; omega
            case rel => exact ⟨v + 1, by have := Hv.out; omega, by go_num, by rw [Hsu.out]; exact D⟩
          · rw [if_neg hge] at Hsu
            have n0 := D.n0
            have n1 := D.n1
            have hbv := (Below.refl wr.heap.size wr).alloc (Nat.le_refl _) (.cells #[.int .i64 (v : Int)] 3)
            have D1 := D.below hbv
            have HF := Lib.hid (flood_any _ (fun _ => True) A1 A2 c1 c2 ns ds ((hn.below D1.bel).mono (fun _ _ _ => trivial)) hl1 hl2 U cu st ((hs.keep (Kept.of_below D1.bel)).mono (fun _ _ _ => trivial)) Hsl.out (w.heap.size + 1) D1.n2
              (some ⟨wr.heap.size, 0, none⟩) 1 [v] ((OI.lit wr [(v : Int)] (by simp [maxLen])).si.mono (fun _ _ _ => trivial)) (by simp) (by simpa using hlt) hd)
            go_wp2_with (fail)
            refine (HF.out).mono ?_
            rintro e w5 ⟨g, rfl, hob, hg, hb5⟩
            have D5 := D1.below hb5
            have hgl : wr.heap.size + 1 ≤ g := by simpa using hg
            have hml : (marks (floodD ns.length ds st [v])).length = ns.length := OB.len hob
            generalize hM : marks (floodD ns.length ds st [v]) = mk at *
            have Hml := Lib.hid hml
            have hsz := D.size
            clear hM hml n0 n1 HF D1 hbv hg q1 q2 hb5
            go_wp2_with (fail)
            obtain ⟨go, rfl⟩ : ∃ x : Nat, x = gk := ⟨_, rfl⟩
            obtain ⟨wp, rfl⟩ : ∃ wp : World, wp = wr := ⟨_, rfl⟩
            go_loopg [43] ns.length (fun g' i wr => ∃ (k : Nat), k + g' = ns.length ∧ i = .int .i64 k ∧ PSt w (.slice A1 ns.length c1) (.slice A2 ds.length c2) (.slice U st.length cu) ns.length wr (fillP out (mk.take k) v) ∧ OB wr g ns.length mk)
            case atStart => exact ⟨0, by omega, rfl, by rw [List.take_zero, fillP_zero]; exact D5, hob⟩
            case round =>
              clear D5 hob D
              obtain ⟨k, hk, rfl, D, hob⟩ := hrel
              have Hk := Lib.hid hk
              clear hk
              by_cases hlt2 : k < ns.length
              · have hkm : k < mk.length := by rw [Hml.out]; exact hlt2
                have hko : k < out.length := by rw [Hol.out]; exact hlt2
                obtain ⟨m1, _, _⟩ := hob.at_ hkm
                obtain ⟨a1, a2, _⟩ := D.out.at_ (k := k) (by rw [fillP_len]; exact hko)
                by_cases hb : mk[k] = true
                · rw [hb] at m1
                  have Hst := Lib.hid (fillP_step out mk v k hko hkm)
                  rw [if_pos hb] at Hst
                  clear hb
                  go_wp2_with (fail)
                  go_roundg (gk - 1)
                  case measure => have := Hk.out; omega
                  case rel => exact ⟨k + 1, by have := Hk.out; omega, by go_num, by rw [← Hst.out]; exact D.set k v, hob.fr (Below.heap_setCell _ _ _ _ (by show g ≠ w.heap.size + 1 + 1; omega))⟩
                · have hb : mk[k] = false := by simpa using hb
                  rw [hb] at m1
                  have Hst := Lib.hid (fillP_same out mk v k hko hkm hb)
                  clear hb
                  go_wp2_with (fail)
                  go_roundg (gk - 1)
                  case measure => have := Hk.out; omega
                  case rel => exact ⟨k + 1, by have := Hk.out; omega, by go_num, by rw [← Hst.out]; exact D, hob⟩
              · have htk : mk.take k = mk := List.take_of_length_le (by rw [Hml.out]; omega)
                rw [htk] at D
                clear htk
                go_wp2_with (fail)
                go_roundg (go - 1)
                case measure => have := Hv.out; omega
                case rel => exact ⟨v + 1, by have := Hv.out; omega, by go_num, by rw [Hsu.out]; exact D⟩
        · have hvn : v = ns.length := by have := Hv.out; omega
          rw [hvn] at D
          clear hvn
          go_wp2_with (fail)
          go_ret
          exact ⟨_, rfl, D.out, by omega, D.bel⟩
end Go.Proofs.YtglhplddjjoggaaDoor

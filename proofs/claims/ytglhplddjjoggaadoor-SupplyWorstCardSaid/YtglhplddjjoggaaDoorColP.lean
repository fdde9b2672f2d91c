/-
  Walks of colour.Parts, Colours, Faults, Joined.
-/
import Derived.Test.YtglhplddjjoggaaDoorPPart
import Derived.BigQuiet
namespace Go.Proofs.YtglhplddjjoggaaDoor
open Go.RowKit
set_option maxHeartbeats 400000
set_option maxRecDepth 100000

/-- A call hands back a new slice of ints and an error. -/
def RetIE (w : World) (r : List Int × Int) (e : Ending) (w' : World) : Prop :=
  ∃ A c, e = .returned (.tuple #[.slice A r.1.length c, .int .i64 r.2]) ∧ OI w' (fun g => w.heap.size ≤ g) A c r.1 ∧ Below w.heap.size w w'

theorem maskC_zero {p : Int → Bool} {ns : List Node} {ds : List Dev} {st : List Int} (h : maskC p ns ds st = 0) : checkL ns ds = 0 ∧ st.length = ds.length ∧ st.all p = true := by
  unfold maskC at h
  split at h
  · rename_i h1; exact absurd h h1
  · rename_i h1
    split at h
    · cases h
    · rename_i h2
      split at h
      · rename_i h3; exact ⟨by omega, by omega, h3⟩
      · cases h
def partsE (ns : List Node) (ds : List Dev) (st : List Int) : List Int × Int := if maskC isPos ns ds st ≠ 0 then ([], maskC isPos ns ds st) else (partsL ns.length ds st, 0)
def coloursE (ns : List Node) (ds : List Dev) (st : List Int) : List Int × Int := if maskC isPos ns ds st ≠ 0 then ([], maskC isPos ns ds st) else (colL ds st (partsL ns.length ds st), 0)

theorem DevsIn.across {n : Nat} {ds : List Dev} (h : DevsIn n ds) : ∀ d ∈ ds, ∀ v, acrossL d v < n := fun d hd v => by
  have := endsB_parts (h.ends d hd).2.2
  exact across_lt (h.ends d hd).2.2 (by omega) v
theorem DevsIn.first {n : Nat} {ds : List Dev} (h : DevsIn n ds) : ∀ d ∈ ds, 0 ≤ d.a ∧ d.a < n := fun d hd => by
  have := endsB_parts (h.ends d hd).2.2
  exact ⟨this.1, this.2.1⟩

set_option maxHeartbeats 2000000 in
theorem Parts_any (w : World) (h : TabC w) (ht : Tab w) (S : Nat → Prop) (A1 A2 : Option Addr) (c1 c2 : Nat) (ns : List Node) (ds : List Dev) (hn : NetIn w S A1 A2 ns ds) (hl1 : ns.length ≤ 65536) (hl2 : ds.length ≤ 65536)
    (U : Option Addr) (cu : Nat) (st : List Int) (hs : SI w S U st) (hsl : st.length ≤ 65536) :
    Calls Tryd.prog 71 #[.agg #[.slice A1 ns.length c1, .slice A2 ds.length c2], .slice U st.length cu] w (RetIE w (partsE ns ds st)) := by
  have hb := (Below.refl w.heap.size w).alloc (Nat.le_refl _) (.cells #[.slice A1 ns.length c1, .slice A2 ds.length c2] 26)
  have HC := Lib.hid (mstate_any _ (h.below hb) (ht.below hb) S A1 A2 c1 c2 ns ds (hn.below hb) hl1 hl2 U cu st (hs.keep (Kept.of_below hb)) hsl)
  have HZ := Lib.hid (@maskC_zero isPos ns ds st)
  have HE := Lib.hid (show partsE ns ds st = if maskC isPos ns ds st ≠ 0 then ([], maskC isPos ns ds st) else (partsL ns.length ds st, 0) from rfl)
  generalize maskC isPos ns ds st = ce at *
  by_cases h0 : (ce != 0) = true
  · have H0 := Lib.hid (show ¬ ce = 0 by simpa using h0)
    go_enter Tryd.func71, Tryd.ntmps71
    go_wp2_with (fail)
    refine (HC.out).mono ?_
    rintro e w1 ⟨rfl, hb1⟩
    go_wp2_with (fail)
    go_ret2
    rw [HE.out, if_pos H0.out]
    exact ⟨none, 0, rfl, OI.nil _ _, hb.trans (hb1.mono hb.size)⟩
  · have h0' : (ce != 0) = false := by simpa using h0
    have hz : ce = 0 := by simpa using h0
    obtain ⟨z1, z2, z3⟩ := HZ.out hz
    have hD := checkL_zero z1
    rw [if_neg (by simpa using hz)] at HE
    have Z2 := Lib.hid z2
    clear h0 hz HZ z1 z2 z3
    go_enter Tryd.func71, Tryd.ntmps71
    go_wp2_with (fail)
    refine (HC.out).mono ?_
    rintro e w1 ⟨rfl, hb1⟩
    have hbA := hb.trans (hb1.mono hb.size)
    have Hbox := Lib.hid (box_at hb1)
    have n0 : w1.cell? ⟨w.heap.size, 0, none⟩ = some (.slice A1 ns.length c1) := by rw [cell_of_row w1 _ 0 _ _ _ Hbox.out]; rfl
    have n1 : w1.cell? ⟨w.heap.size, 1, none⟩ = some (.slice A2 ds.length c2) := by rw [cell_of_row w1 _ 1 _ _ _ Hbox.out]; rfl
    have HP := Lib.hid (parts_any w1 S A1 A2 c1 c2 ns ds (hn.below hbA) hD.few hD.dev U cu st (hs.keep (Kept.of_below hbA)) Z2.out hD.across)
    go_wp2_with (fail)
    refine (HP.out).mono ?_
    rintro e w2 ⟨g, rfl, ho, hg, hb2⟩
    go_wp2_with (fail)
    go_ret2
    rw [HE.out]
    refine ⟨some ⟨g, 0, none⟩, ns.length, by simp [partsL_len], ho.mono (fun x _ hx => by subst hx; show w.heap.size ≤ x; have := hbA.size; omega), hbA.trans (hb2.mono hbA.size)⟩

set_option maxHeartbeats 2000000 in
theorem Colours_any (w : World) (h : TabC w) (ht : Tab w) (S : Nat → Prop) (A1 A2 : Option Addr) (c1 c2 : Nat) (ns : List Node) (ds : List Dev) (hn : NetIn w S A1 A2 ns ds) (hl1 : ns.length ≤ 65536) (hl2 : ds.length ≤ 65536)
    (U : Option Addr) (cu : Nat) (st : List Int) (hs : SI w S U st) (hsl : st.length ≤ 65536) :
    Calls Tryd.prog 73 #[.agg #[.slice A1 ns.length c1, .slice A2 ds.length c2], .slice U st.length cu] w (RetIE w (coloursE ns ds st)) := by
  have hb := (Below.refl w.heap.size w).alloc (Nat.le_refl _) (.cells #[.slice A1 ns.length c1, .slice A2 ds.length c2] 26)
  have HC := Parts_any _ (h.below hb) (ht.below hb) S A1 A2 c1 c2 ns ds (hn.below hb) hl1 hl2 U cu st (hs.keep (Kept.of_below hb)) hsl
  have HZ := Lib.hid (@maskC_zero isPos ns ds st)
  have HE := Lib.hid (show coloursE ns ds st = if maskC isPos ns ds st ≠ 0 then ([], maskC isPos ns ds st) else (colL ds st (partsL ns.length ds st), 0) from rfl)
  unfold partsE at HC
  generalize maskC isPos ns ds st = ce at *
  by_cases h0 : (ce != 0) = true
  · have H0 := Lib.hid (show ¬ ce = 0 by simpa using h0)
    rw [if_pos H0.out] at HC
    have HC := Lib.hid HC
    go_enter Tryd.func73, Tryd.ntmps73
    go_wp2_with (fail)
    refine (HC.out).mono ?_
    rintro e w1 ⟨A, c, rfl, ho1, hb1⟩
    go_wp2_with (fail)
    go_ret2
    rw [HE.out, if_pos H0.out]
    exact ⟨none, 0, rfl, OI.nil _ _, hb.trans (hb1.mono hb.size)⟩
  · have h0' : (ce != 0) = false := by simpa using h0
    have hz : ce = 0 := by simpa using h0
    obtain ⟨z1, z2, z3⟩ := HZ.out hz
    have hD := checkL_zero z1
    rw [if_neg (by simpa using hz)] at HE HC
    have HC := Lib.hid HC
    have Z2 := Lib.hid z2
    clear h0 h0' hz HZ z1 z2 z3
    have Hpl := Lib.hid (partsL_len ns.length ds st)
    have Hpb := Lib.hid (parts_bound hD hD.few st)
    generalize partsL ns.length ds st = ps at *
    go_enter Tryd.func73, Tryd.ntmps73
    go_wp2_with (fail)
    refine (HC.out).mono ?_
    rintro e w1 ⟨A, c, rfl, ho1, hb1⟩
    have hbA := hb.trans (hb1.mono hb.size)
    have Hbox := Lib.hid (box_at hb1)
    have n0 : w1.cell? ⟨w.heap.size, 0, none⟩ = some (.slice A1 ns.length c1) := by rw [cell_of_row w1 _ 0 _ _ _ Hbox.out]; rfl
    have n1 : w1.cell? ⟨w.heap.size, 1, none⟩ = some (.slice A2 ds.length c2) := by rw [cell_of_row w1 _ 1 _ _ _ Hbox.out]; rfl
    have HP := colours_any w1 (fun _ => True) A1 A2 c1 c2 ns ds ((hn.below hbA).mono (fun _ _ _ => trivial)) hD.few hD.dev U cu st ((hs.keep (Kept.of_below hbA)).mono (fun _ _ _ => trivial)) Z2.out A c ps ((OI.si ho1).mono (fun _ _ _ => trivial)) Hpl.out Hpb.out hD.first
    have HP : Calls Tryd.prog 131 #[.agg #[.slice A1 ns.length c1, .slice A2 ds.length c2], .slice U st.length cu, .slice A ps.length c] w1
      fun e w' => ∃ g, e = .returned (.slice (some ⟨g, 0, none⟩) ns.length ns.length) ∧ OIb w' g ns.length (colL ds st ps) ∧ w1.heap.size ≤ g ∧ Below w1.heap.size w1 w' := by
      rw [Hpl.out]; exact HP
    have HP := Lib.hid HP
    go_wp2_with (fail)
    refine (HP.out).mono ?_
    rintro e w2 ⟨g, rfl, ho, hg, hb2⟩
    go_wp2_with (fail)
    go_ret2
    rw [HE.out]
    refine ⟨some ⟨g, 0, none⟩, ns.length, by simp [colL, Hpl.out], ho.mono (fun x _ hx => by subst hx; show w.heap.size ≤ x; have := hbA.size; omega), hbA.trans (hb2.mono hbA.size)⟩

/-- the nodes that are live and earthed, from k on -/
def flt : List Int → Nat → List Int
  | [], _ => []
  | x :: xs, k => if x = 3 then (k : Int) :: flt xs (k + 1) else flt xs (k + 1)
theorem flt_drop (xs : List Int) (k : Nat) (h : k < xs.length) : flt (xs.drop k) k = if xs[k] = 3 then (k : Int) :: flt (xs.drop (k + 1)) (k + 1) else flt (xs.drop (k + 1)) (k + 1) := by
  rw [List.drop_eq_getElem_cons h]; rfl
def faultsE (ns : List Node) (ds : List Dev) (st : List Int) : List Int × Int := (flt (coloursE ns ds st).1 0, (coloursE ns ds st).2)

theorem coloursE_len (ns : List Node) (ds : List Dev) (st : List Int) : (coloursE ns ds st).1.length ≤ ns.length := by
  unfold coloursE
  split
  · simp
  · simp [colL, partsL_len]

set_option maxHeartbeats 2000000 in
theorem Faults_any (w : World) (h : TabC w) (ht : Tab w) (S : Nat → Prop) (A1 A2 : Option Addr) (c1 c2 : Nat) (ns : List Node) (ds : List Dev) (hn : NetIn w S A1 A2 ns ds) (hl1 : ns.length ≤ 65536) (hl2 : ds.length ≤ 65536)
    (U : Option Addr) (cu : Nat) (st : List Int) (hs : SI w S U st) (hsl : st.length ≤ 65536) :
    Calls Tryd.prog 77 #[.agg #[.slice A1 ns.length c1, .slice A2 ds.length c2], .slice U st.length cu] w (RetIE w (faultsE ns ds st)) := by
  have hb := (Below.refl w.heap.size w).alloc (Nat.le_refl _) (.cells #[.slice A1 ns.length c1, .slice A2 ds.length c2] 26)
  have HC := Lib.hid (Colours_any _ (h.below hb) (ht.below hb) S A1 A2 c1 c2 ns ds (hn.below hb) hl1 hl2 U cu st (hs.keep (Kept.of_below hb)) hsl)
  have hcl := coloursE_len ns ds st
  unfold faultsE
  generalize coloursE ns ds st = r at *
  obtain ⟨cs, ce⟩ := r
  have hcl : cs.length ≤ 65536 := by simp at hcl; omega
  go_enter Tryd.func77, Tryd.ntmps77
  go_wp2_with (fail)
  refine (HC.out).mono ?_
  rintro e w1 ⟨A, c, rfl, ho1, hb1⟩
  have hbA := hb.trans (hb1.mono hb.size)
  have hs1 : SI w1 (fun g => w.heap.size < g) A cs := (OI.si ho1).mono (fun x _ hx => by simp at hx; show w.heap.size < x; omega)
  clear ho1 hb1 hb HC
  go_wp2_with (fail)
  go_loopg [8, 19] cs.length (fun g v i wr => ∃ (k : Nat) (A' : Option Addr) (c' : Nat) (ys : List Int), k + g = cs.length ∧ i = .int .i64 k ∧ v = .slice A' ys.length c' ∧ OI wr (fun g => w1.heap.size ≤ g) A' c' ys ∧ Below w1.heap.size w1 wr ∧
    ys ++ flt (cs.drop k) k = flt cs 0 ∧ ys.length ≤ k)
  case atStart => exact ⟨0, none, 0, [], by simp, rfl, rfl, OI.nil _ _, Below.refl _ _, rfl, Nat.le_refl _⟩
  case round =>
    obtain ⟨k, A', c', ys, hk, rfl, rfl, hown, hbel, hi, hyl⟩ := hrel
    have Hi := Lib.hid hi
    clear hi
    have Hk := Lib.hid hk
    clear hk
    have hs' := hs1.keep (Kept.of_below hbel)
    by_cases hlt : k < cs.length
    · obtain ⟨b, off, rfl, _, _, hc⟩ := hs'.at_ hlt
      have Hd := Lib.hid (flt_drop cs k hlt)
      go_wp2_with (at_builtin; go_must (refine wpList_push (B := w1.heap.size) rfl (.tmp 26) (.tmp 28) rfl rfl rfl rfl (hown.keep (Kept.alloc _ _ _)) (new_cell _ _ _) (by omega) (by simp; have := hbel.size; omega) ?_); intro A1 c1 w1 ho1 hb1 _ _)
      · go_roundg (gk - 1)
        case measure => have := Hk.out; omega
        case rel =>
          have := Hk.out
          refine ⟨k + 1, _, _, _, by omega, by go_num, ?_, ho1, (hbel.alloc hbel.size _).trans hb1, ?_, ?_⟩
          · simp
          · rw [← Hi.out, Hd.out, if_pos (by simp_all)]; simp
          · simp; omega
      · go_roundg (gk - 1)
        case measure => have := Hk.out; omega
        case rel =>
          have := Hk.out
          refine ⟨k + 1, _, _, _, by omega, by go_num, rfl, hown, hbel, ?_, by omega⟩
          rw [← Hi.out, Hd.out, if_neg (by simp_all)]
    · go_wp2_with (fail)
      go_ret2
      have e := Hi.out
      rw [List.drop_of_length_le (by omega)] at e
      have e : flt cs 0 = ys := by rw [← e]; simp [flt]
      rw [e]
      exact ⟨A', c', rfl, hown.mono (fun x _ hx => by show w.heap.size ≤ x; have := hbA.size; have : w1.heap.size ≤ x := hx; omega), hbA.trans (hbel.mono hbA.size)⟩

def joinedE (ns : List Node) (ds : List Dev) (st : List Int) (a b : Int) : Bool × Int :=
  if maskC isPos ns ds st ≠ 0 then (false, maskC isPos ns ds st) else if existsB ns.length a = false ∨ existsB ns.length b = false then (false, 7) else (PO.at_ (partsL ns.length ds st) a.toNat == PO.at_ (partsL ns.length ds st) b.toNat, 0)

set_option maxHeartbeats 2000000 in
theorem Joined_any (w : World) (h : TabC w) (ht : Tab w) (S : Nat → Prop) (A1 A2 : Option Addr) (c1 c2 : Nat) (ns : List Node) (ds : List Dev) (hn : NetIn w S A1 A2 ns ds) (hl1 : ns.length ≤ 65536) (hl2 : ds.length ≤ 65536)
    (U : Option Addr) (cu : Nat) (st : List Int) (hs : SI w S U st) (hsl : st.length ≤ 65536) (a b : Int) :
    Calls Tryd.prog 80 #[.agg #[.slice A1 ns.length c1, .slice A2 ds.length c2], .slice U st.length cu, .int .i64 a, .int .i64 b] w fun e w' => e = .returned (.tuple #[.bool (joinedE ns ds st a b).1, .int .i64 (joinedE ns ds st a b).2]) ∧ Below w.heap.size w w' := by
  have hb := (Below.refl w.heap.size w).alloc (Nat.le_refl _) (.cells #[.slice A1 ns.length c1, .slice A2 ds.length c2] 26)
  have HC := Parts_any _ (h.below hb) (ht.below hb) S A1 A2 c1 c2 ns ds (hn.below hb) hl1 hl2 U cu st (hs.keep (Kept.of_below hb)) hsl
  have HE := Lib.hid (show joinedE ns ds st a b = if maskC isPos ns ds st ≠ 0 then (false, maskC isPos ns ds st) else if existsB ns.length a = false ∨ existsB ns.length b = false then (false, 7) else (PO.at_ (partsL ns.length ds st) a.toNat == PO.at_ (partsL ns.length ds st) b.toNat, 0) from rfl)
  unfold partsE at HC
  have HX := fun w => exists_any A1 A2 ns.length c1 ds.length c2 a w
  have HY := fun w => exists_any A1 A2 ns.length c1 ds.length c2 b w
  have Xa := @exists_pos ns.length a
  have Xb := @exists_pos ns.length b
  generalize maskC isPos ns ds st = ce at *
  generalize existsB ns.length a = ea at *
  generalize existsB ns.length b = eb at *
  have HX := Lib.hid HX
  have HY := Lib.hid HY
  have Xa := Lib.hid Xa
  have Xb := Lib.hid Xb
  by_cases h0 : (ce != 0) = true
  · have H0 := Lib.hid (show ¬ ce = 0 by simpa using h0)
    rw [if_pos H0.out] at HC
    have HC := Lib.hid HC
    go_enter Tryd.func80, Tryd.ntmps80
    go_wp2_with (fail)
    refine (HC.out).mono ?_
    rintro e w1 ⟨A, c, rfl, ho1, hb1⟩
    go_wp2_with (fail)
    go_ret2
    rw [HE.out, if_pos H0.out]
    exact ⟨rfl, hb.trans (hb1.mono hb.size)⟩
  · have h0' : (ce != 0) = false := by simpa using h0
    have hz : ce = 0 := by simpa using h0
    rw [if_neg (by simpa using hz)] at HE HC
    have HC := Lib.hid HC
    clear h0 h0' hz
    have Hpl := Lib.hid (partsL_len ns.length ds st)
    generalize partsL ns.length ds st = ps at *
    go_enter Tryd.func80, Tryd.ntmps80
    go_wp2_with (fail)
    refine (HC.out).mono ?_
    rintro e w1 ⟨A, c, rfl, ho1, hb1⟩
    have hbA := hb.trans (hb1.mono hb.size)
    have Hbox := Lib.hid (box_at hb1)
    have n0 : w1.cell? ⟨w.heap.size, 0, none⟩ = some (.slice A1 ns.length c1) := by rw [cell_of_row w1 _ 0 _ _ _ Hbox.out]; rfl
    have n1 : w1.cell? ⟨w.heap.size, 1, none⟩ = some (.slice A2 ds.length c2) := by rw [cell_of_row w1 _ 1 _ _ _ Hbox.out]; rfl
    go_wp2_with (fail)
    refine (HX.out w1).mono ?_
    rintro e w2 ⟨rfl, hb2⟩
    have hbB := hbA.trans (hb2.mono hbA.size)
    have n0' : w2.cell? ⟨w.heap.size, 0, none⟩ = some (.slice A1 ns.length c1) := (hb2.cell (p := ⟨w.heap.size, 0, none⟩) (World.block_lt_of_cell? _ _ n0)).trans n0
    have n1' : w2.cell? ⟨w.heap.size, 1, none⟩ = some (.slice A2 ds.length c2) := (hb2.cell (p := ⟨w.heap.size, 1, none⟩) (World.block_lt_of_cell? _ _ n1)).trans n1
    clear n0 n1 Hbox
    cases ea
    · go_wp2_with (fail)
      go_ret2
      rw [HE.out, if_pos (by simp)]
      exact ⟨rfl, hbB⟩
    · go_wp2_with (fail)
      refine (HY.out w2).mono ?_
      rintro e w3 ⟨rfl, hb3⟩
      have hbC := hbB.trans (hb3.mono hbB.size)
      clear n0' n1'
      cases eb
      · go_wp2_with (fail)
        go_ret2
        rw [HE.out, if_pos (by simp)]
        exact ⟨rfl, hbC⟩
      · rw [if_neg (by decide)] at HE
        obtain ⟨ka, rfl, hka⟩ := Xa.out (by simp)
        obtain ⟨kb, rfl, hkb⟩ := Xb.out (by simp)
        simp only [Int.toNat_natCast] at HE
        have hka' : ka < ps.length := by rw [Hpl.out]; exact hka
        have hkb' : kb < ps.length := by rw [Hpl.out]; exact hkb
        have hs3 := (OI.si ho1).keep (Kept.of_below (hb2.trans (hb3.mono hb2.size)))
        obtain ⟨g, off, rfl, _, _, q1⟩ := hs3.at_ hka'
        obtain ⟨g2, off2, e2, _, _, q2⟩ := hs3.at_ hkb'
        injection e2 with e2
        injection e2 with e2 e3
        subst e2 e3
        rw [← at_get hka'] at q1
        rw [← at_get hkb'] at q2
        clear hs3 Xa Xb HX HY hb2 hb3
        go_wp2_with (go_quiet (fail))
        go_ret2
        rw [HE.out]
        exact ⟨rfl, hbC.trans (below_drewN _ _ nq)⟩
end Go.Proofs.YtglhplddjjoggaaDoor

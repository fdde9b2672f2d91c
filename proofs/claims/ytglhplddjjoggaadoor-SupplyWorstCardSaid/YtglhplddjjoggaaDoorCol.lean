/-
  The walk of colour.colours; maps from int to int.
-/
import Derived.Test.YtglhplddjjoggaaDoorPrt
namespace Go.Proofs.YtglhplddjjoggaaDoor
open Go.RowKit
open Go.Maps (Keyed)
set_option maxHeartbeats 400000
set_option maxRecDepth 100000

theorem lawI : Keyed Tryd.prog 3 := Maps.int_keyed Tryd.underlying3
theorem zeroI (w : World) : (zeroValue 3).run Tryd.prog w = .ok (.int .i64 0) w := by kernel_rfl
/-- Block b is a map from int to int. -/
def IMap (w : World) (b n : Nat) (f : Int → Int) : Prop :=
  ∃ D : DataW Unit, w.ownsMap Tryd.prog 3 (plainElem Tryd.prog 3) b n D ∧ ∀ p : Int, D.atKey (.int .i64 p) (.lit (.int .i64 0)) = .lit (.int .i64 (f p))
theorem IMap.made (w : World) : IMap (w.alloc (.map #[] 0)) w.heap.size 0 (fun _ => 0) := ⟨_, World.ownsMap_made w _ _ _, fun _ => rfl⟩
theorem IMap.lt {w : World} {b n : Nat} {f : Int → Int} (h : IMap w b n f) : b < w.heap.size := by
  obtain ⟨D, h, _⟩ := h
  exact h.lt
theorem IMap.fr {w w' : World} {b n : Nat} {f : Int → Int} (h : IMap w b n f) (e : w'.heap[b]? = w.heap[b]?) : IMap w' b n f := by
  obtain ⟨D, h, hD⟩ := h
  obtain ⟨es, clock, h1, F, hs, e1⟩ := h
  exact ⟨D, ⟨es, clock, e.trans h1, F, hs, e1⟩, hD⟩
theorem IMap.below {w w' : World} {b n : Nat} {f : Int → Int} (h : IMap w b n f) (hb : Below w.heap.size w w') : IMap w' b n f := h.fr (hb.block b h.lt)
theorem IMap.look {w : World} {b n : Nat} {f : Int → Int} (h : IMap w b n f) {p : Int} (hp : (Lit.int .i64 p).wf = true) : (Instr.lookup 152 (.map (some b)) (.int .i64 p) false).run Tryd.prog w = .ok (.int .i64 (f p)) w := by
  obtain ⟨D, h, hD⟩ := h
  obtain ⟨c, hrun, hat, _⟩ := h.lookup_int lawI Tryd.underlying152 Tryd.underlying3 (zeroI w) (Maps.keyOf_int_mk Tryd.underlying3 hp)
  rw [hD p] at hat
  injection hat with hat
  injection hat with _ hat
  rw [hrun, hat]
theorem IMap.put {w : World} {b n : Nat} {f : Int → Int} (h : IMap w b n f) (hn : n < maxLen) {p x : Int} (hp : (Lit.int .i64 p).wf = true) (hx : (Lit.int .i64 x).wf = true) :
    ∃ w', (Instr.mapUpdate 152 (.map (some b)) (.int .i64 p) (.int .i64 x)).run Tryd.prog w = .ok () w' ∧ IMap w' b (n + 1) (fun q => if q = p then x else f q) ∧ w.grownBy w' (some b) := by
  obtain ⟨D, h, hD⟩ := h
  obtain ⟨w', hrun, h1, hg⟩ := h.update lawI Tryd.underlying152 hn (Maps.keyOf_int_mk Tryd.underlying3 hp) (plainElem_int Tryd.underlying3 hx)
  refine ⟨w', hrun, ⟨_, h1, fun q => ?_⟩, hg⟩
  by_cases e : q = p
  · subst e
    rw [Maps.atKey_put_same h.isMap (by trivial)]
    simp
  · rw [Maps.atKey_put_other (fun h => e (by injection h)), hD q]
    simp [e]

/-- The boxed network. -/
structure RSb (w : World) (v1 v2 : Value) (wr : World) : Prop where
  box : wr.heap[w.heap.size]? = some (.cells #[v1, v2] 26 (0, 0))
  bel : Below w.heap.size w wr
section
variable {w wr w' : World} {v1 v2 : Value}
theorem RSb.below (h : RSb w v1 v2 wr) (hb : Below wr.heap.size wr w') : RSb w v1 v2 w' :=
  ⟨(hb.block _ (Array.getElem?_eq_some_iff.1 h.box).1).trans h.box, h.bel.trans (hb.mono h.bel.size)⟩
theorem RSb.belowB {B : Nat} (h : RSb w v1 v2 wr) (hb : Below B wr w') (hB : w.heap.size < B) : RSb w v1 v2 w' :=
  ⟨(hb.block _ hB).trans h.box, h.bel.trans (hb.mono (by omega))⟩
theorem RSb.n0 (h : RSb w v1 v2 wr) : wr.cell? ⟨w.heap.size, 0, none⟩ = some v1 := by rw [cell_of_row wr _ 0 _ _ _ h.box]; rfl
theorem RSb.n1 (h : RSb w v1 v2 wr) : wr.cell? ⟨w.heap.size, 1, none⟩ = some v2 := by rw [cell_of_row wr _ 1 _ _ _ h.box]; rfl
end
def colV (l e : Bool) : Int := (if l then 1 else 0) + (if e then 2 else 0)
def liveZ (ps : List Int) (p : Int) (z : Dev × Int) : Bool := (z.2 == 2) && ((z.1.kind == 5) || (z.1.kind == 6)) && (PO.at_ ps z.1.a.toNat == p)
def earthZ (ps : List Int) (p : Int) (z : Dev × Int) : Bool := (z.2 == 2) && (z.1.kind == 4) && (PO.at_ ps z.1.a.toNat == p)
/-- the colour of a part -/
def bitsZ (ps : List Int) (zs : List (Dev × Int)) (p : Int) : Int := colV (zs.any (liveZ ps p)) (zs.any (earthZ ps p))
def colL (ds : List Dev) (st ps : List Int) : List Int := ps.map (bitsZ ps (ds.zip st))

theorem bits_snoc (ps : List Int) (zs : List (Dev × Int)) (z : Dev × Int) (p : Int) : bitsZ ps (zs ++ [z]) p = colV (zs.any (liveZ ps p) || liveZ ps p z) (zs.any (earthZ ps p) || earthZ ps p z) := by
  unfold bitsZ
  rw [List.any_append, List.any_append]
  simp
theorem bits_not (ps : List Int) (zs : List (Dev × Int)) (z : Dev × Int) (h : ((z.2 == 2) && ((z.1.kind == 4) || (z.1.kind == 5) || (z.1.kind == 6))) = false) : bitsZ ps (zs ++ [z]) = bitsZ ps zs := by
  funext p
  rw [bits_snoc]
  have h1 : liveZ ps p z = false := by
    unfold liveZ
    cases h2 : (z.2 == 2) <;> cases h4 : (z.1.kind == 4) <;> cases h5 : (z.1.kind == 5) <;> cases h6 : (z.1.kind == 6) <;> simp_all
  have h2 : earthZ ps p z = false := by
    unfold earthZ
    cases h2 : (z.2 == 2) <;> cases h4 : (z.1.kind == 4) <;> cases h5 : (z.1.kind == 5) <;> cases h6 : (z.1.kind == 6) <;> simp_all
  rw [h1, h2, Bool.or_false, Bool.or_false]
  rfl
theorem bits_cases (ps : List Int) (zs : List (Dev × Int)) (p : Int) : bitsZ ps zs p = 0 ∨ bitsZ ps zs p = 1 ∨ bitsZ ps zs p = 2 ∨ bitsZ ps zs p = 3 := by
  unfold bitsZ
  cases zs.any (liveZ ps p) <;> cases zs.any (earthZ ps p) <;> decide
def orE (x : Int) : Int := if x = 0 then 2 else if x = 1 then 3 else x
def orL (x : Int) : Int := if x = 0 then 1 else if x = 2 then 3 else x
theorem bits_earth (ps : List Int) (zs : List (Dev × Int)) (z : Dev × Int) (h2 : z.2 = 2) (hk : z.1.kind = 4) : bitsZ ps (zs ++ [z]) = fun q => if q = PO.at_ ps z.1.a.toNat then orE (bitsZ ps zs q) else bitsZ ps zs q := by
  funext q
  rw [bits_snoc]
  have h1 : liveZ ps q z = false := by simp [liveZ, hk]
  rw [h1, Bool.or_false]
  by_cases hq : q = PO.at_ ps z.1.a.toNat
  · rw [if_pos hq]
    have h3 : earthZ ps q z = true := by simp [earthZ, h2, hk, hq]
    rw [h3, Bool.or_true]
    unfold bitsZ orE
    cases zs.any (liveZ ps q) <;> cases zs.any (earthZ ps q) <;> decide
  · rw [if_neg hq]
    have h3 : earthZ ps q z = false := by simp [earthZ, h2, hk]; omega
    rw [h3, Bool.or_false]; rfl
theorem bits_live (ps : List Int) (zs : List (Dev × Int)) (z : Dev × Int) (h2 : z.2 = 2) (hk : z.1.kind = 5 ∨ z.1.kind = 6) : bitsZ ps (zs ++ [z]) = fun q => if q = PO.at_ ps z.1.a.toNat then orL (bitsZ ps zs q) else bitsZ ps zs q := by
  funext q
  rw [bits_snoc]
  have h1 : earthZ ps q z = false := by rcases hk with hk | hk <;> simp [earthZ, hk]
  rw [h1, Bool.or_false]
  by_cases hq : q = PO.at_ ps z.1.a.toNat
  · rw [if_pos hq]
    have h3 : liveZ ps q z = true := by rcases hk with hk | hk <;> simp [liveZ, h2, hk, hq]
    rw [h3, Bool.or_true]
    unfold bitsZ orL
    cases zs.any (liveZ ps q) <;> cases zs.any (earthZ ps q) <;> decide
  · rw [if_neg hq]
    have h3 : liveZ ps q z = false := by rcases hk with hk | hk <;> (simp [liveZ, h2, hk]; omega)
    rw [h3, Bool.or_false]; rfl

theorem wf_small {p : Int} (h : -1 ≤ p) (h2 : p ≤ 1000) : (Lit.int .i64 p).wf = true := WalkArith.wf_i64 (by omega)

set_option maxHeartbeats 4000000 in
theorem colours_any (w : World) (S : Nat → Prop) (A1 A2 : Option Addr) (c1 c2 : Nat) (ns : List Node) (ds : List Dev) (hn : NetIn w S A1 A2 ns ds) (hl1 : ns.length ≤ 32) (hl2 : ds.length ≤ 64)
    (U : Option Addr) (cu : Nat) (st : List Int) (hs : SI w S U st) (hsl : st.length = ds.length) (V : Option Addr) (cv : Nat) (ps : List Int) (hp : SI w S V ps) (hpl : ps.length = ns.length)
    (hpb : ∀ p ∈ ps, 0 ≤ p ∧ p < 32) (hda : ∀ d ∈ ds, 0 ≤ d.a ∧ d.a < ns.length) :
    Calls Tryd.prog 131 #[.agg #[.slice A1 ns.length c1, .slice A2 ds.length c2], .slice U st.length cu, .slice V ns.length cv] w
      fun e w' => ∃ g, e = .returned (.slice (some ⟨g, 0, none⟩) ns.length ns.length) ∧ OIb w' g ns.length (colL ds st ps) ∧ w.heap.size ≤ g ∧ Below w.heap.size w w' := by
  have Hsl := Lib.hid hsl
  have Hpl := Lib.hid hpl
  clear hsl hpl
  have hmm := @run_makeMap Tryd.prog
  go_enter Tryd.func131, Tryd.ntmps131
  go_wp2_with (fail)
  clear hmm
  have hM0 : IMap ((w.alloc (.cells #[.slice A1 ns.length c1, .slice A2 ds.length c2] 26)).alloc (.map #[] 0)) (w.heap.size + 1) 0 (bitsZ ps []) := by
    have := IMap.made (w.alloc (.cells #[.slice A1 ns.length c1, .slice A2 ds.length c2] 26))
    have e : bitsZ ps [] = fun _ => 0 := rfl
    rw [e]
    simpa using this
  go_loopg [17] ds.length (fun g i wr => ∃ (k : Nat), k + g = ds.length ∧ i = .int .i64 k ∧ IMap wr (w.heap.size + 1) k (bitsZ ps ((ds.zip st).take k)) ∧ RSb w (.slice A1 ns.length c1) (.slice A2 ds.length c2) wr)
  case atStart =>
    refine ⟨0, by omega, rfl, hM0, ⟨?_, ((Below.refl _ _).alloc (Nat.le_refl _) _).alloc (by simp) _⟩⟩
    rw [Below.heap_alloc _ _ _ (by simp)]; exact heap_alloc_new w _
  case round =>
    clear hM0
    obtain ⟨k, hk, rfl, hM, D⟩ := hrel
    have Hk := Lib.hid hk
    clear hk
    by_cases hlt : k < ds.length
    · obtain ⟨b, off, rfl, hS, hbl, q0, q1, q2, q3, q4⟩ := (hn.below D.bel).dev hlt
      have hks : k < st.length := by have := Hsl.out; omega
      obtain ⟨bu, ou, rfl, _, _, u1⟩ := (hs.keep (Kept.of_below D.bel)).at_ hks
      have hda1 := hda ds[k] (List.getElem_mem hlt)
      obtain ⟨ka, hka⟩ := Int.eq_ofNat_of_zero_le hda1.1
      have hbA := (Below.refl wr.heap.size wr).alloc (Nat.le_refl _) (.cells #[.string ds[k].name, .int .i64 ds[k].kind, .int .i64 ka, .int .i64 ds[k].b, .int .i64 ds[k].comp] 81)
      have hM3 := hM.below hbA
      have hkal : ka < ps.length := by have := Hpl.out; omega
      obtain ⟨bv, ov, rfl, _, hbvl, v1⟩ := (hp.keep (Kept.of_below D.bel)).at_ hkal
      have hpr := hpb ps[ka] (List.getElem_mem hkal)
      have hpw : (Lit.int .i64 ps[ka]).wf = true := wf_small (by omega) (by omega)
      have hat : PO.at_ ps ds[k].a.toNat = ps[ka] := by rw [hka, Int.toNat_natCast, at_get hkal]
      have Hat := Lib.hid hat
      have Htk := Lib.hid (show (ds.zip st).take (k + 1) = (ds.zip st).take k ++ [(ds[k], st[k])] by rw [List.take_succ_eq_append_getElem (by simp; omega), List.getElem_zip])
      rw [hka] at q2
      have hkan : ka < ns.length := by omega
      clear hat hda1 hka
      by_cases hst : (st[k] == 2) = true
      · have hst' : (st[k] != 2) = false := by simpa using hst
        have hst2 : st[k] = 2 := by simpa using hst
        have Hst2 := Lib.hid hst2
        clear hst2
        have hlk := hM3.look hpw
        have hbc := bits_cases ps ((ds.zip st).take k) ps[ka]
        by_cases h4 : (ds[k].kind == 4) = true
        · have Hnx := Lib.hid (bits_earth ps ((ds.zip st).take k) (ds[k], st[k]) Hst2.out (by simpa using h4))
          have Hnx : Hid (bitsZ ps ((ds.zip st).take k ++ [(ds[k], st[k])]) = fun q => if q = ps[ka] then orE (bitsZ ps ((ds.zip st).take k) ps[ka]) else bitsZ ps ((ds.zip st).take k) q) := Lib.hid (by
            rw [Hnx.out, Hat.out]
            funext q
            by_cases e : q = ps[ka]
            · simp [e]
            · simp [e])
          have hox : bits BinOp.or IntKind.i64 (bitsZ ps ((ds.zip st).take k) ps[ka]) 2 = orE (bitsZ ps ((ds.zip st).take k) ps[ka]) := by rcases hbc with hv | hv | hv | hv <;> rw [hv] <;> decide
          have hxw : (Lit.int .i64 (bits BinOp.or IntKind.i64 (bitsZ ps ((ds.zip st).take k) ps[ka]) 2)).wf = true := by rcases hbc with hv | hv | hv | hv <;> rw [hv] <;> decide
          rw [← hox] at Hnx
          clear hox hbc
          obtain ⟨w4, hup, hM4, hg4⟩ := hM3.put (show k < maxLen by unfold maxLen; omega) hpw hxw
          have Hbz := Lib.hid hM4
          have hbB : Below (w.heap.size + 1) wr w4 := ((Below.refl _ _).alloc (by have := D.bel.size; have := hM.lt; omega) _).grown hg4 (by simp; have := hM.lt; omega) (fun g hg => by injection hg with hg; omega)
          clear hM4
          go_wp2_with (fail)
          go_roundg (gk - 1)
          case measure => have := Hk.out; omega
          case rel =>
            refine ⟨k + 1, by have := Hk.out; omega, by go_num, ?_, D.belowB hbB (by omega)⟩
            rw [Htk.out, Hnx.out]
            exact Hbz.out
        · have h4 : (ds[k].kind == 4) = false := by simpa using h4
          by_cases h56 : ds[k].kind = 5 ∨ ds[k].kind = 6
          · have Hnx := Lib.hid (bits_live ps ((ds.zip st).take k) (ds[k], st[k]) Hst2.out h56)
            have Hnx : Hid (bitsZ ps ((ds.zip st).take k ++ [(ds[k], st[k])]) = fun q => if q = ps[ka] then orL (bitsZ ps ((ds.zip st).take k) ps[ka]) else bitsZ ps ((ds.zip st).take k) q) := Lib.hid (by
              rw [Hnx.out, Hat.out]
              funext q
              by_cases e : q = ps[ka]
              · simp [e]
              · simp [e])
            rcases h56 with h56 | h56
            · have h5 : (ds[k].kind == 5) = true := by simpa using h56
              clear h56
              have hox : bits BinOp.or IntKind.i64 (bitsZ ps ((ds.zip st).take k) ps[ka]) 1 = orL (bitsZ ps ((ds.zip st).take k) ps[ka]) := by rcases hbc with hv | hv | hv | hv <;> rw [hv] <;> decide
              have hxw : (Lit.int .i64 (bits BinOp.or IntKind.i64 (bitsZ ps ((ds.zip st).take k) ps[ka]) 1)).wf = true := by rcases hbc with hv | hv | hv | hv <;> rw [hv] <;> decide
              rw [← hox] at Hnx
              clear hox hbc
              obtain ⟨w4, hup, hM4, hg4⟩ := hM3.put (show k < maxLen by unfold maxLen; omega) hpw hxw
              have Hbz := Lib.hid hM4
              have hbB : Below (w.heap.size + 1) wr w4 := ((Below.refl _ _).alloc (by have := D.bel.size; have := hM.lt; omega) _).grown hg4 (by simp; have := hM.lt; omega) (fun g hg => by injection hg with hg; omega)
              clear hM4
              go_wp2_with (fail)
              go_roundg (gk - 1)
              case measure => have := Hk.out; omega
              case rel =>
                refine ⟨k + 1, by have := Hk.out; omega, by go_num, ?_, D.belowB hbB (by omega)⟩
                rw [Htk.out, Hnx.out]
                exact Hbz.out
            · have h5 : (ds[k].kind == 5) = false := by simp [h56]
              have h6 : (ds[k].kind == 6) = true := by simpa using h56
              clear h56
              have hox : bits BinOp.or IntKind.i64 (bitsZ ps ((ds.zip st).take k) ps[ka]) 1 = orL (bitsZ ps ((ds.zip st).take k) ps[ka]) := by rcases hbc with hv | hv | hv | hv <;> rw [hv] <;> decide
              have hxw : (Lit.int .i64 (bits BinOp.or IntKind.i64 (bitsZ ps ((ds.zip st).take k) ps[ka]) 1)).wf = true := by rcases hbc with hv | hv | hv | hv <;> rw [hv] <;> decide
              rw [← hox] at Hnx
              clear hox hbc
              obtain ⟨w4, hup, hM4, hg4⟩ := hM3.put (show k < maxLen by unfold maxLen; omega) hpw hxw
              have Hbz := Lib.hid hM4
              have hbB : Below (w.heap.size + 1) wr w4 := ((Below.refl _ _).alloc (by have := D.bel.size; have := hM.lt; omega) _).grown hg4 (by simp; have := hM.lt; omega) (fun g hg => by injection hg with hg; omega)
              clear hM4
              go_wp2_with (fail)
              go_roundg (gk - 1)
              case measure => have := Hk.out; omega
              case rel =>
                refine ⟨k + 1, by have := Hk.out; omega, by go_num, ?_, D.belowB hbB (by omega)⟩
                rw [Htk.out, Hnx.out]
                exact Hbz.out
          · have h5 : (ds[k].kind == 5) = false := by simp; omega
            have h6 : (ds[k].kind == 6) = false := by simp; omega
            have Hnx := Lib.hid (bits_not ps ((ds.zip st).take k) (ds[k], st[k]) (by simp [h4, h5, h6]))
            clear hlk hbc
            go_wp2_with (fail)
            go_roundg (gk - 1)
            case measure => have := Hk.out; omega
            case rel =>
              refine ⟨k + 1, by have := Hk.out; omega, by go_num, ?_, D.below hbA⟩
              rw [Htk.out, Hnx.out]
              obtain ⟨DD, hh, hD⟩ := hM3
              exact ⟨DD, hh.mono (by omega), hD⟩
      · have hst : (st[k] == 2) = false := by simpa using hst
        have hst' : (st[k] != 2) = true := by simpa using hst
        have Hnx := Lib.hid (bits_not ps ((ds.zip st).take k) (ds[k], st[k]) (by simp [hst]))
        go_wp2_with (fail)
        go_roundg (gk - 1)
        case measure => have := Hk.out; omega
        case rel =>
          refine ⟨k + 1, by have := Hk.out; omega, by go_num, ?_, D.below hbA⟩
          rw [Htk.out, Hnx.out]
          obtain ⟨DD, hh, hD⟩ := hM3
          exact ⟨DD, hh.mono (by omega), hD⟩
    · have htk : (ds.zip st).take k = ds.zip st := List.take_of_length_le (by simp; omega)
      rw [htk] at hM
      clear htk
      have n0 := D.n0
      obtain ⟨w5, hmk, ho5, hb5, hz5⟩ := make_ints wr ns.length (by omega)
      have D5 := D.below hb5
      have hM5 := hM.below hb5
      have hwl := hM.lt
      go_wp2_with (fail)
      obtain ⟨go, hgo⟩ : ∃ x, x = wr.heap.size := ⟨_, rfl⟩
      rw [← hgo] at ho5 ⊢
      have hgo2 : w.heap.size + 1 < go := by omega
      have Hb0 : Below w.heap.size w w5 := D5.bel
      have hkd : k ≤ ds.length := by have := Hk.out; omega
      clear hmk n0 hb5 hz5 hgo hM D D5 Hk hwl hlt
      obtain ⟨wo, rfl⟩ : ∃ wo : World, wo = wr := ⟨_, rfl⟩
      have Hcl := Lib.hid (show (colL ds st ps).length = ns.length by simp [colL, Hpl.out])
      have hfz : filled (colL ds st ps) 0 0 = List.replicate ns.length 0 := by rw [filled_zero, Hcl.out]
      go_loopg [64] ns.length (fun g i wr => ∃ (k : Nat), k + g = ns.length ∧ i = .int .i64 k ∧ OIb wr go ns.length (filled (colL ds st ps) 0 k) ∧ IMap wr (w.heap.size + 1) ds.length (bitsZ ps (ds.zip st)) ∧ Below w.heap.size w wr)
      case atStart => exact ⟨0, by omega, rfl, by rw [hfz]; exact ho5, by clear hfz; obtain ⟨DD, hh, hD⟩ := hM5; exact ⟨DD, hh.mono (by omega), hD⟩, Hb0⟩
      case round =>
        clear hfz ho5 hM5 Hb0
        obtain ⟨k, hk, rfl, ho, hM, hB⟩ := hrel
        have Hk := Lib.hid hk
        clear hk
        by_cases hlt : k < ns.length
        · have hkp : k < ps.length := by rw [Hpl.out]; exact hlt
          obtain ⟨bv, ov, rfl, _, hbvl, v1⟩ := (hp.keep (Kept.of_below hB)).at_ hkp
          have hpr := hpb ps[k] (List.getElem_mem hkp)
          have hpw : (Lit.int .i64 ps[k]).wf = true := wf_small (by omega) (by omega)
          have hlk := hM.look hpw
          have hkc : k < (colL ds st ps).length := by rw [Hcl.out]; exact hlt
          obtain ⟨a1, a2, _⟩ := ho.at_ (k := k) (by rw [filled_len _ _ _ (by omega)]; exact hkc)
          have Hst := Lib.hid (filled_step (colL ds st ps) 0 k hkc)
          have Hce := Lib.hid (show (colL ds st ps)[k] = bitsZ ps (ds.zip st) ps[k] by simp [colL])
          go_wp2_with (fail)
          go_roundg (gk - 1)
          case measure => have := Hk.out; omega
          case rel =>
            refine ⟨k + 1, by have := Hk.out; omega, by go_num, ?_, hM.fr (Below.heap_setCell _ _ _ _ (by show w.heap.size + 1 ≠ go; omega)), hB.setCell (p := ⟨go, k, none⟩) (by show w.heap.size ≤ go; omega) _⟩
            rw [← Hst.out, Hce.out]
            exact ho.set k _
        · have hf : filled (colL ds st ps) 0 k = colL ds st ps := filled_all _ _ _ (by rw [Hcl.out]; omega)
          rw [hf] at ho
          clear hf
          go_wp2_with (fail)
          go_ret
          exact ⟨_, rfl, ho, by omega, hB⟩
end Go.Proofs.YtglhplddjjoggaaDoor

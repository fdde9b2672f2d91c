/-
  What comes in: a list of ints and the two tables, read as data.
-/
import Derived.Test.YtjdgofpcmcobnaaGreatDoorCards
import Derived.Test.YtjdgofpcmcobnaaGreatDoorTie
import Derived.Test.YtjdgofpcmcobnaaGreatDoorGv
import Derived.WalkKit
import Derived.ProofKit
import Derived.OpenShut
import Derived.Deep.DeepHandedRow
import Derived.Lib.LaidTab
import Derived.ChangeOld
import Derived.Below
import Derived.Deep.Strs
namespace Go.Proofs.YtjdgofpcmcobnaaGreatDoor
open Go.ChangeShapes Go.WideShapes Go.ChangeAt Go.RowKit
set_option maxRecDepth 100000

theorem own : ownKnob Tryz.prog.godebug = none := by kernel_rfl
theorem laidOut : laidOutB Tryz.prog = true := by kernel_rfl

def clsV : List Value := [.int .u8 65, .int .u8 90, .bool true, .int .u8 97, .int .u8 122, .bool true, .int .u8 48, .int .u8 57, .bool false, .int .u8 95, .int .u8 95, .bool false]
def posV : List Value := [.bool false, .bool false, .bool true, .bool true, .bool true, .bool true, .bool true, .bool false]
def TabC (w : World) : Prop := ∀ j u, clsV[j]? = some u → w.cell? ⟨1, j, none⟩ = some u
def Tab (w : World) : Prop :=
  w.cell? ⟨0, 0, none⟩ = some (.bool false) ∧ w.cell? ⟨0, 1, none⟩ = some (.bool false) ∧ w.cell? ⟨0, 2, none⟩ = some (.bool true) ∧ w.cell? ⟨0, 3, none⟩ = some (.bool true) ∧
  w.cell? ⟨0, 4, none⟩ = some (.bool true) ∧ w.cell? ⟨0, 5, none⟩ = some (.bool true) ∧ w.cell? ⟨0, 6, none⟩ = some (.bool true) ∧ w.cell? ⟨0, 7, none⟩ = some (.bool false)
/-- A slice of ints that came in. -/
theorem arg_intsR {H : Type} {enc : TypeId × Value → H} {W : World} {base : Nat} {sp : Nat → Bool} {held : Bool} {a : Option Addr} {len cap : Nat} {d : DataW H} {p : List MemPlace}
    (h : DataW.Trod enc Tryz.prog W base sp held 22 (.slice a len cap) d p) : ∃ xs : List Int, AL.RepP W (fun _ => False) (.slice a len cap) (.sl (AL.intRows xs)) ∧ len = xs.length := by
  obtain ⟨fuel, hf⟩ := h
  rcases open_ints Tryz.underlying22 Tryz.underlying3 (by kernel_rfl) hf with ⟨hcs, _⟩ | ⟨x, l, c, zs, hcs, _, hl, hm, hz, _, hcell, hwz⟩
  · simp [Value.cells] at hcs
    obtain ⟨rfl, rfl, rfl⟩ := hcs
    exact ⟨[], .sl0 _ _ (fun _ => rfl), rfl⟩
  · simp [Value.cells] at hcs
    obtain ⟨rfl, rfl, rfl⟩ := hcs
    have hzl : len ≤ zs.length := by rw [hz]; split <;> omega
    rcases Nat.eq_zero_or_pos len with h0 | h0
    · subst h0
      exact ⟨[], .sl0 _ _ (fun h => by cases h), rfl⟩
    · obtain ⟨b, off, rfl, hc⟩ := ints_at hcell (by omega)
      have hlen : (AL.intRows (zs.take len)).length = len := by simp [AL.intRows]; omega
      refine ⟨zs.take len, ?_, by rw [List.length_take]; omega⟩
      have := AL.RepP.sl (w := W) (F := fun _ => False) b off 1 cap (AL.intRows (zs.take len)) (fun i _ => .int .i64 (zs.getD i 0)) (by omega) id (fun r hr => ?_) (fun i j hi hj => ?_) ?_ (fun i hi j hj => ?_)
      · rw [hlen] at this; exact this
      · obtain ⟨x, _, rfl⟩ := List.mem_map.1 hr
        rfl
      · obtain rfl : j = 0 := by omega
        have := hc i (by omega)
        simpa using this
      · have hlt := World.block_lt_of_cell? W _ (hc 0 (by omega))
        have hlt : b < W.heap.size := hlt
        simp [hlt]
      · have hi' : i < zs.length := by omega
        have e : (AL.intRows (zs.take len))[i] = [.int .i64 (zs.getD i 0)] := by simp [AL.intRows, hi']
        have hj' : j < 1 := by rw [e] at hj; exact hj
        obtain rfl : j = 0 := by omega
        simp only [e]
        exact .int _ _
theorem gCls : Tryz.prog.globalNamed "permitoffice/lexeme.classes" = some 1 := by kernel_rfl
theorem gClsType : (Tryz.prog.globals[1]?).map (·.type) = some 212 := by kernel_rfl
theorem cellsTri : Tryz.prog.cellsOf 211 = 3 := by kernel_rfl
theorem cellsB1 : Tryz.prog.cellsOf 4 = 1 := by kernel_rfl
theorem cellsU1 : Tryz.prog.cellsOf 5 = 1 := by kernel_rfl

theorem tri_of {H : Type} {enc : TypeId × Value → H} {w : World} {base : Nat} {sp : Nat → Bool} {held : Bool} {m : Nat} {cs : List Value} {y : DataW H × List MemPlace} {a b : Int} {c : Bool}
    (h : DataW.trod enc Tryz.prog w base sp held m 211 cs = some y) (hy : y.1 = .agg [.lit (.int .u8 a), .lit (.int .u8 b), .lit (.bool c)]) : cs = [.int .u8 a, .int .u8 b, .bool c] := by
  obtain ⟨y0, y1, y2, n, rfl, hl, h0, h1, h2⟩ := Deep.trod_struct3 Tryz.underlying211 h
  obtain ⟨u, e0, rfl, _⟩ := DataW.trod_int Tryz.underlying5 h0
  obtain ⟨v, e1, rfl, _⟩ := DataW.trod_int Tryz.underlying5 h1
  obtain ⟨x, e2, rfl⟩ := DataW.trod_bool Tryz.underlying4 h2
  rw [cellsTri] at hl
  rw [cellsU1] at e0 e1
  rw [cellsB1] at e2
  match cs, hl with
  | [c0, c1, c2], _ =>
    simp at e0 e1 e2 hy
    rw [e0, e1, e2, hy.1, hy.2.1, hy.2.2]

theorem cls_vars {W : World} {rest : List (String × DataW Unit)} {ps : List MemPlace} (h : DataW.LaidVars Tryz.prog W (("permitoffice/lexeme.classes", Rows.laid_permitoffice_lexeme_classes) :: rest) ps) : TabC W ∧ ∃ q, DataW.LaidVars Tryz.prog W rest q := by
  obtain ⟨g', t', cs, fuel, p, q, hg', ht', hvar, hd, hr, _⟩ := h
  obtain rfl := Option.some.inj (gCls.symm.trans hg')
  obtain rfl := Option.some.inj (gClsType.symm.trans ht')
  refine ⟨?_, q, hr⟩
  obtain ⟨xs, m, _, hx, hl, hxl, hi⟩ := DataW.trod_array Tryz.underlying212 hd
  rw [cellsTri] at hi
  simp only [Prod.mk.injEq] at hx
  have hx1 := hx.1
  match xs, hxl with
  | [x0, x1, x2, x3], _ =>
    simp only [Rows.laid_permitoffice_lexeme_classes, List.map_cons, List.map_nil, DataW.agg.injEq, List.cons.injEq, and_true] at hx1
    obtain ⟨a0, a1, a2, a3⟩ := hx1
    have p0 := tri_of (hi 0 (by decide)) a0.symm
    have p1 := tri_of (hi 1 (by decide)) a1.symm
    have p2 := tri_of (hi 2 (by decide)) a2.symm
    have p3 := tri_of (hi 3 (by decide)) a3.symm
    have key : ∀ (i : Nat) (u v x : Value), (cs.toList.drop (i * 3)).take 3 = [u, v, x] → cs.toList[i * 3]? = some u ∧ cs.toList[i * 3 + 1]? = some v ∧ cs.toList[i * 3 + 2]? = some x := by
      intro i u v x h
      refine ⟨?_, ?_, ?_⟩
      · have := congrArg (·[0]?) h
        simpa [List.getElem?_take, List.getElem?_drop] using this
      · have := congrArg (·[1]?) h
        simpa [List.getElem?_take, List.getElem?_drop] using this
      · have := congrArg (·[2]?) h
        simpa [List.getElem?_take, List.getElem?_drop] using this
    have c : ∀ i v, cs.toList[i]? = some v → W.cell? ⟨1, i, none⟩ = some v := fun i v h => by
      have := World.var?_cell gCls hvar i
      rw [this]; simpa using h
    have k0 := key 0 _ _ _ p0
    have k1 := key 1 _ _ _ p1
    have k2 := key 2 _ _ _ p2
    have k3 := key 3 _ _ _ p3
    intro j u hj
    have hj12 : j < 12 := by
      have := (List.getElem?_eq_some_iff.1 hj).1
      simpa [clsV] using this
    have : j = 0 ∨ j = 1 ∨ j = 2 ∨ j = 3 ∨ j = 4 ∨ j = 5 ∨ j = 6 ∨ j = 7 ∨ j = 8 ∨ j = 9 ∨ j = 10 ∨ j = 11 := by omega
    rcases this with rfl | rfl | rfl | rfl | rfl | rfl | rfl | rfl | rfl | rfl | rfl | rfl <;> (simp [clsV] at hj; subst hj)
    · exact c 0 _ k0.1
    · exact c 1 _ k0.2.1
    · exact c 2 _ k0.2.2
    · exact c 3 _ k1.1
    · exact c 4 _ k1.2.1
    · exact c 5 _ k1.2.2
    · exact c 6 _ k2.1
    · exact c 7 _ k2.2.1
    · exact c 8 _ k2.2.2
    · exact c 9 _ k3.1
    · exact c 10 _ k3.2.1
    · exact c 11 _ k3.2.2
theorem gPos : Tryz.prog.globalNamed "permitoffice/mask.positions" = some 0 := by kernel_rfl
theorem gPosType : (Tryz.prog.globals[0]?).map (·.type) = some 179 := by kernel_rfl
theorem cellsPair : Tryz.prog.cellsOf 178 = 2 := by kernel_rfl

theorem pair_of {H : Type} {enc : TypeId × Value → H} {w : World} {base : Nat} {sp : Nat → Bool} {held : Bool} {m : Nat} {cs : List Value} {y : DataW H × List MemPlace} {a b : Bool}
    (h : DataW.trod enc Tryz.prog w base sp held m 178 cs = some y) (hy : y.1 = .agg [.lit (.bool a), .lit (.bool b)]) : cs = [.bool a, .bool b] := by
  obtain ⟨y0, y1, n, rfl, hl, h0, h1⟩ := trod_struct2 Tryz.underlying178 h
  obtain ⟨u, e0, rfl⟩ := DataW.trod_bool Tryz.underlying4 h0
  obtain ⟨v, e1, rfl⟩ := DataW.trod_bool Tryz.underlying4 h1
  rw [cellsPair] at hl
  rw [cellsB1] at e0 e1
  match cs, hl with
  | [c0, c1], _ =>
    simp at e0 e1 hy
    rw [e0, e1, hy.1, hy.2]

theorem pos_vars {W : World} {rest : List (String × DataW Unit)} {ps : List MemPlace} (h : DataW.LaidVars Tryz.prog W (("permitoffice/mask.positions", Rows.laid_permitoffice_mask_positions) :: rest) ps) : Tab W := by
  obtain ⟨g', t', cs, fuel, p, q, hg', ht', hvar, hd, _, _⟩ := h
  obtain rfl := Option.some.inj (gPos.symm.trans hg')
  obtain rfl := Option.some.inj (gPosType.symm.trans ht')
  obtain ⟨xs, m, _, hx, hl, hxl, hi⟩ := DataW.trod_array Tryz.underlying179 hd
  rw [cellsPair] at hi
  simp only [Prod.mk.injEq] at hx
  have hx1 := hx.1
  match xs, hxl with
  | [x0, x1, x2, x3], _ =>
    simp only [Rows.laid_permitoffice_mask_positions, List.map_cons, List.map_nil, DataW.agg.injEq, List.cons.injEq, and_true] at hx1
    obtain ⟨a0, a1, a2, a3⟩ := hx1
    have p0 := pair_of (hi 0 (by decide)) a0.symm
    have p1 := pair_of (hi 1 (by decide)) a1.symm
    have p2 := pair_of (hi 2 (by decide)) a2.symm
    have p3 := pair_of (hi 3 (by decide)) a3.symm
    have key : ∀ (i : Nat) (u v : Value), (cs.toList.drop (i * 2)).take 2 = [u, v] → cs.toList[i * 2]? = some u ∧ cs.toList[i * 2 + 1]? = some v := by
      intro i u v h
      constructor
      · have := congrArg (·[0]?) h
        simpa [List.getElem?_take, List.getElem?_drop] using this
      · have := congrArg (·[1]?) h
        simpa [List.getElem?_take, List.getElem?_drop] using this
    have c : ∀ i v, cs.toList[i]? = some v → W.cell? ⟨0, i, none⟩ = some v := fun i v h => by
      have := World.var?_cell gPos hvar i
      rw [this]; simpa using h
    have k0 := key 0 _ _ p0
    have k1 := key 1 _ _ p1
    have k2 := key 2 _ _ p2
    have k3 := key 3 _ _ p3
    exact ⟨c 0 _ k0.1, c 1 _ k0.2, c 2 _ k1.1, c 3 _ k1.2, c 4 _ k2.1, c 5 _ k2.2, c 6 _ k3.1, c 7 _ k3.2⟩


theorem vp_at {W : World} {g : Nat} {vs : List Value} {ds : List AL.D} (h : ∀ j u, vs[j]? = some u → W.cell? ⟨g, j, none⟩ = some u) (h0 : 0 < ds.length) (hl : vs.length = ds.length) (hr : ∀ j (hj : j < ds.length), AL.RepP W (fun _ => False) (vs.getD j undef) ds[j]) : AL.RepP W (fun _ => False) (.pointer (some ⟨g, 0, none⟩)) (.vp ds) := by
  have hc : ∀ j, j < ds.length → W.cell? ⟨g, 0 + j, none⟩ = some (vs.getD j undef) := fun j hj => by
    rw [Nat.zero_add]
    exact h j _ (by rw [List.getD_eq_getElem?_getD, List.getElem?_eq_getElem (by omega)]; rfl)
  have hlt : g < W.heap.size := World.block_lt_of_cell? W _ (hc 0 h0)
  exact .vp g 0 ds (fun j => vs.getD j undef) id hc (by simp [hlt]) hr
/-- The tables as data. -/
theorem tabs_rep {W : World} (h1 : TabC W) (h2 : Tab W) : ∀ g row, AL.G0 g = some row → AL.RepP W (fun _ => False) (.pointer (some ⟨g, 0, none⟩)) (.vp row) := by
  intro g row hg
  have hg : (if g = 1 then some AL.clsD else if g = 0 then some AL.posD else none) = some row := hg
  split at hg
  · rename_i e
    subst e
    cases hg
    refine vp_at (vs := clsV) h1 (by decide) rfl (fun j hj => ?_)
    have hj' : j < 12 := hj
    match j, hj' with
    | 0, _ => exact .int _ _
    | 1, _ => exact .int _ _
    | 2, _ => exact .bool _
    | 3, _ => exact .int _ _
    | 4, _ => exact .int _ _
    | 5, _ => exact .bool _
    | 6, _ => exact .int _ _
    | 7, _ => exact .int _ _
    | 8, _ => exact .bool _
    | 9, _ => exact .int _ _
    | 10, _ => exact .int _ _
    | 11, _ => exact .bool _
  split at hg
  · rename_i e
    subst e
    cases hg
    refine vp_at (vs := posV) (fun j u hj => ?_) (by decide) rfl (fun j hj => ?_)
    · have hj8 : j < 8 := by
        have := (List.getElem?_eq_some_iff.1 hj).1
        simpa [posV] using this
      obtain ⟨t0, t1, t2, t3, t4, t5, t6, t7⟩ := h2
      match j, hj8 with
      | 0, _ => simp [posV] at hj; subst hj; exact t0
      | 1, _ => simp [posV] at hj; subst hj; exact t1
      | 2, _ => simp [posV] at hj; subst hj; exact t2
      | 3, _ => simp [posV] at hj; subst hj; exact t3
      | 4, _ => simp [posV] at hj; subst hj; exact t4
      | 5, _ => simp [posV] at hj; subst hj; exact t5
      | 6, _ => simp [posV] at hj; subst hj; exact t6
      | 7, _ => simp [posV] at hj; subst hj; exact t7
    · have hj' : j < 8 := hj
      match j, hj' with
      | 0, _ => exact .bool _
      | 1, _ => exact .bool _
      | 2, _ => exact .bool _
      | 3, _ => exact .bool _
      | 4, _ => exact .bool _
      | 5, _ => exact .bool _
      | 6, _ => exact .bool _
      | 7, _ => exact .bool _
  · cases hg
theorem tab2_cls {W : World} (h : laidMetH Tryz.prog [("permitoffice/lexeme.classes", Rows.laid_permitoffice_lexeme_classes), ("permitoffice/mask.positions", Rows.laid_permitoffice_mask_positions)] W) : TabC W := by
  have h' : laidMet Tryz.prog [("permitoffice/lexeme.classes", Rows.laid_permitoffice_lexeme_classes), ("permitoffice/mask.positions", Rows.laid_permitoffice_mask_positions)] W := h
  obtain ⟨ps, hv, _⟩ := h'
  exact (cls_vars hv).1
theorem tab2_pos {W : World} (h : laidMetH Tryz.prog [("permitoffice/lexeme.classes", Rows.laid_permitoffice_lexeme_classes), ("permitoffice/mask.positions", Rows.laid_permitoffice_mask_positions)] W) : Tab W := by
  have h' : laidMet Tryz.prog [("permitoffice/lexeme.classes", Rows.laid_permitoffice_lexeme_classes), ("permitoffice/mask.positions", Rows.laid_permitoffice_mask_positions)] W := h
  obtain ⟨ps, hv, _⟩ := h'
  obtain ⟨_, q, hq⟩ := cls_vars hv
  exact pos_vars hq
/-- The law's call. -/
theorem topBack_row (W : World) (h1 : TabC W) (h2 : Tab W) (a : Option Addr) (cap : Nat) (xs : List Int) (hl : AL.RepP W (fun _ => False) (.slice a xs.length cap) (.sl (AL.intRows xs))) :
    Calls Tryz.prog 5 #[.slice a xs.length cap] W (fun e W' => e = .returned (.bool true) ∧ Below W.heap.size W W') := by
  have hp := (AL.top_back AL.prov32 xs).calls W (fun _ => False) #[.slice a xs.length cap] rfl (fun i hi => by
    have : i = 0 := by simp at hi; omega
    subst this; exact hl) (tabs_rep h1 h2) (fun b hb => hb.elim)
  refine Calls.mono hp ?_
  rintro e W' ⟨v, rfl, bel, rep⟩
  exact ⟨by rw [(AL.Rep.pure (ι := fun _ => none) _ _ rep).is_bool], bel⟩
end Go.Proofs.YtjdgofpcmcobnaaGreatDoor

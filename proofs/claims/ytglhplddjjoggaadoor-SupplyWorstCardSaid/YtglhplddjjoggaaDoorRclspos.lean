/-
  Both tables, as the rows of the laws of colours list them.
-/
import Derived.Test.YtglhplddjjoggaaDoorRcls
import Derived.Test.YtglhplddjjoggaaDoorW06
namespace Go.Proofs.YtglhplddjjoggaaDoor
open Go.ChangeShapes Go.WideShapes Go.ChangeAt Go.RowKit
set_option maxRecDepth 100000

theorem gPos : Tryd.prog.globalNamed "permitoffice/mask.positions" = some 0 := by kernel_rfl
theorem gPosType : (Tryd.prog.globals[0]?).map (·.type) = some 148 := by kernel_rfl
theorem cellsPair : Tryd.prog.cellsOf 147 = 2 := by kernel_rfl
theorem cellsBool : Tryd.prog.cellsOf 4 = 1 := by kernel_rfl

theorem pair_of {H : Type} {enc : TypeId × Value → H} {w : World} {base : Nat} {sp : Nat → Bool} {held : Bool} {m : Nat} {cs : List Value} {y : DataW H × List MemPlace} {a b : Bool}
    (h : DataW.trod enc Tryd.prog w base sp held m 147 cs = some y) (hy : y.1 = .agg [.lit (.bool a), .lit (.bool b)]) : cs = [.bool a, .bool b] := by
  obtain ⟨y0, y1, n, rfl, hl, h0, h1⟩ := trod_struct2 Tryd.underlying147 h
  obtain ⟨u, e0, rfl⟩ := DataW.trod_bool Tryd.underlying4 h0
  obtain ⟨v, e1, rfl⟩ := DataW.trod_bool Tryd.underlying4 h1
  rw [cellsPair] at hl
  rw [cellsBool] at e0 e1
  match cs, hl with
  | [c0, c1], _ =>
    simp at e0 e1 hy
    rw [e0, e1, hy.1, hy.2]

theorem pos_vars {W : World} {rest : List (String × DataW Unit)} {ps : List MemPlace} (h : DataW.LaidVars Tryd.prog W (("permitoffice/mask.positions", Rows.laid_permitoffice_mask_positions) :: rest) ps) : Tab W := by
  obtain ⟨g', t', cs, fuel, p, q, hg', ht', hvar, hd, _, _⟩ := h
  obtain rfl := Option.some.inj (gPos.symm.trans hg')
  obtain rfl := Option.some.inj (gPosType.symm.trans ht')
  obtain ⟨xs, m, _, hx, hl, hxl, hi⟩ := DataW.trod_array Tryd.underlying148 hd
  rw [cellsPair] at hi
  simp only [Prod.mk.injEq] at hx
  have hx1 := hx.1
  match xs, hxl with
  | [x0, x1, x2, x3], _ =>
    simp only [Rows.laid_permitoffice_mask_positions, List.map_cons, List.map_nil, DataW.agg.injEq, List.cons.injEq, and_true] at hx1
    obtain ⟨a0, a1, a2, a3⟩ := hx1
    have p0 := pair_of (hi 0 (by decide)) a0.symm
    have p1 := pair_of (hi 1 (by decide)) a1.symm
    have p2 := pair_of (hi 2 (by decide)) a2.symm
    have p3 := pair_of (hi 3 (by decide)) a3.symm
    have key : ∀ (i : Nat) (u v : Value), (cs.toList.drop (i * 2)).take 2 = [u, v] → cs.toList[i * 2]? = some u ∧ cs.toList[i * 2 + 1]? = some v := by
      intro i u v h
      constructor
      · have := congrArg (·[0]?) h
        simpa [List.getElem?_take, List.getElem?_drop] using this
      · have := congrArg (·[1]?) h
        simpa [List.getElem?_take, List.getElem?_drop] using this
    have c : ∀ i v, cs.toList[i]? = some v → W.cell? ⟨0, i, none⟩ = some v := fun i v h => by
      have := World.var?_cell gPos hvar i
      rw [this]; simpa using h
    have k0 := key 0 _ _ p0
    have k1 := key 1 _ _ p1
    have k2 := key 2 _ _ p2
    have k3 := key 3 _ _ p3
    exact ⟨c 0 _ k0.1, c 1 _ k0.2, c 2 _ k1.1, c 3 _ k1.2, c 4 _ k2.1, c 5 _ k2.2, c 6 _ k3.1, c 7 _ k3.2⟩

theorem tab2_cls {W : World} (h : laidMetH Tryd.prog [("permitoffice/lexeme.classes", Rows.laid_permitoffice_lexeme_classes), ("permitoffice/mask.positions", Rows.laid_permitoffice_mask_positions)] W) : TabC W := by
  have h' : laidMet Tryd.prog [("permitoffice/lexeme.classes", Rows.laid_permitoffice_lexeme_classes), ("permitoffice/mask.positions", Rows.laid_permitoffice_mask_positions)] W := h
  obtain ⟨ps, hv, _⟩ := h'
  exact (cls_vars hv).1
theorem tab2_pos {W : World} (h : laidMetH Tryd.prog [("permitoffice/lexeme.classes", Rows.laid_permitoffice_lexeme_classes), ("permitoffice/mask.positions", Rows.laid_permitoffice_mask_positions)] W) : Tab W := by
  have h' : laidMet Tryd.prog [("permitoffice/lexeme.classes", Rows.laid_permitoffice_lexeme_classes), ("permitoffice/mask.positions", Rows.laid_permitoffice_mask_positions)] W := h
  obtain ⟨ps, hv, _⟩ := h'
  obtain ⟨_, q, hq⟩ := cls_vars hv
  exact pos_vars hq
end Go.Proofs.YtglhplddjjoggaaDoor

/-
  The table of classes of bytes as the row lists it.
-/
import Derived.Test.YtglhplddjjoggaaDoorRcom
import Derived.Test.YtglhplddjjoggaaDoorLex
import Derived.Deep.Strs
namespace Go.Proofs.YtglhplddjjoggaaDoor
open Go.ChangeShapes Go.WideShapes Go.ChangeAt Go.RowKit
set_option maxRecDepth 100000

theorem gCls : Tryd.prog.globalNamed "permitoffice/lexeme.classes" = some 1 := by kernel_rfl
theorem gClsType : (Tryd.prog.globals[1]?).map (·.type) = some 157 := by kernel_rfl
theorem cellsTri : Tryd.prog.cellsOf 156 = 3 := by kernel_rfl
theorem cellsB1 : Tryd.prog.cellsOf 4 = 1 := by kernel_rfl
theorem cellsU1 : Tryd.prog.cellsOf 5 = 1 := by kernel_rfl

theorem tri_of {H : Type} {enc : TypeId × Value → H} {w : World} {base : Nat} {sp : Nat → Bool} {held : Bool} {m : Nat} {cs : List Value} {y : DataW H × List MemPlace} {a b : Int} {c : Bool}
    (h : DataW.trod enc Tryd.prog w base sp held m 156 cs = some y) (hy : y.1 = .agg [.lit (.int .u8 a), .lit (.int .u8 b), .lit (.bool c)]) : cs = [.int .u8 a, .int .u8 b, .bool c] := by
  obtain ⟨y0, y1, y2, n, rfl, hl, h0, h1, h2⟩ := Deep.trod_struct3 Tryd.underlying156 h
  obtain ⟨u, e0, rfl, _⟩ := DataW.trod_int Tryd.underlying5 h0
  obtain ⟨v, e1, rfl, _⟩ := DataW.trod_int Tryd.underlying5 h1
  obtain ⟨x, e2, rfl⟩ := DataW.trod_bool Tryd.underlying4 h2
  rw [cellsTri] at hl
  rw [cellsU1] at e0 e1
  rw [cellsB1] at e2
  match cs, hl with
  | [c0, c1, c2], _ =>
    simp at e0 e1 e2 hy
    rw [e0, e1, e2, hy.1, hy.2.1, hy.2.2]

theorem cls_vars {W : World} {rest : List (String × DataW Unit)} {ps : List MemPlace} (h : DataW.LaidVars Tryd.prog W (("permitoffice/lexeme.classes", Rows.laid_permitoffice_lexeme_classes) :: rest) ps) : TabC W ∧ ∃ q, DataW.LaidVars Tryd.prog W rest q := by
  obtain ⟨g', t', cs, fuel, p, q, hg', ht', hvar, hd, hr, _⟩ := h
  obtain rfl := Option.some.inj (gCls.symm.trans hg')
  obtain rfl := Option.some.inj (gClsType.symm.trans ht')
  refine ⟨?_, q, hr⟩
  obtain ⟨xs, m, _, hx, hl, hxl, hi⟩ := DataW.trod_array Tryd.underlying157 hd
  rw [cellsTri] at hi
  simp only [Prod.mk.injEq] at hx
  have hx1 := hx.1
  match xs, hxl with
  | [x0, x1, x2, x3], _ =>
    simp only [Rows.laid_permitoffice_lexeme_classes, List.map_cons, List.map_nil, DataW.agg.injEq, List.cons.injEq, and_true] at hx1
    obtain ⟨a0, a1, a2, a3⟩ := hx1
    have p0 := tri_of (hi 0 (by decide)) a0.symm
    have p1 := tri_of (hi 1 (by decide)) a1.symm
    have p2 := tri_of (hi 2 (by decide)) a2.symm
    have p3 := tri_of (hi 3 (by decide)) a3.symm
    have key : ∀ (i : Nat) (u v x : Value), (cs.toList.drop (i * 3)).take 3 = [u, v, x] → cs.toList[i * 3]? = some u ∧ cs.toList[i * 3 + 1]? = some v ∧ cs.toList[i * 3 + 2]? = some x := by
      intro i u v x h
      refine ⟨?_, ?_, ?_⟩
      · have := congrArg (·[0]?) h
        simpa [List.getElem?_take, List.getElem?_drop] using this
      · have := congrArg (·[1]?) h
        simpa [List.getElem?_take, List.getElem?_drop] using this
      · have := congrArg (·[2]?) h
        simpa [List.getElem?_take, List.getElem?_drop] using this
    have c : ∀ i v, cs.toList[i]? = some v → W.cell? ⟨1, i, none⟩ = some v := fun i v h => by
      have := World.var?_cell gCls hvar i
      rw [this]; simpa using h
    have k0 := key 0 _ _ _ p0
    have k1 := key 1 _ _ _ p1
    have k2 := key 2 _ _ _ p2
    have k3 := key 3 _ _ _ p3
    intro j u hj
    have hj12 : j < 12 := by
      have := (List.getElem?_eq_some_iff.1 hj).1
      simpa [clsV] using this
    have : j = 0 ∨ j = 1 ∨ j = 2 ∨ j = 3 ∨ j = 4 ∨ j = 5 ∨ j = 6 ∨ j = 7 ∨ j = 8 ∨ j = 9 ∨ j = 10 ∨ j = 11 := by omega
    rcases this with rfl | rfl | rfl | rfl | rfl | rfl | rfl | rfl | rfl | rfl | rfl | rfl <;> (simp [clsV] at hj; subst hj)
    · exact c 0 _ k0.1
    · exact c 1 _ k0.2.1
    · exact c 2 _ k0.2.2
    · exact c 3 _ k1.1
    · exact c 4 _ k1.2.1
    · exact c 5 _ k1.2.2
    · exact c 6 _ k2.1
    · exact c 7 _ k2.2.1
    · exact c 8 _ k2.2.2
    · exact c 9 _ k3.1
    · exact c 10 _ k3.2.1
    · exact c 11 _ k3.2.2
theorem tab_cls {W : World} (h : laidMetH Tryd.prog [("permitoffice/lexeme.classes", Rows.laid_permitoffice_lexeme_classes)] W) : TabC W := by
  have h' : laidMet Tryd.prog [("permitoffice/lexeme.classes", Rows.laid_permitoffice_lexeme_classes)] W := h
  obtain ⟨ps, hv, _⟩ := h'
  exact (cls_vars hv).1
end Go.Proofs.YtglhplddjjoggaaDoor

/-
  What a law over one list of ints owes; nothing of tables.
  The table of classes of bytes as the row lists it.
  Both tables, as the rows of the laws of colours list them.
-/
import Derived.Test.YtgpcojmdfmngeaaDoorCards
import Derived.Test.YtgpcojmdfmngeaaDoorTie
import Derived.WalkKit
import Derived.ProofKit
import Derived.OpenShut
import Derived.Deep.DeepHandedRow
import Derived.Lib.LaidTab
import Derived.Test.YtgpcojmdfmngeaaDoorGa
import Derived.ChangeOld
import Derived.Below
import Derived.Deep.Strs
namespace Go.Proofs.YtgpcojmdfmngeaaDoor
open Go.ChangeShapes Go.WideShapes Go.ChangeAt Go.RowKit

theorem own : ownKnob Tryd.prog.godebug = none := by kernel_rfl
theorem laidOut : laidOutB Tryd.prog = true := by kernel_rfl

/-- A slice of ints that came in. -/
theorem arg_ints {H : Type} {enc : TypeId × Value → H} {W : World} {base : Nat} {sp : Nat → Bool} {held : Bool} {a : Option Addr} {len cap : Nat} {d : DataW H} {p : List MemPlace}
    (h : DataW.Trod enc Tryd.prog W base sp held 22 (.slice a len cap) d p) : ∃ xs : List Int, SI W (fun _ => True) a xs ∧ len = xs.length := by
  obtain ⟨fuel, hf⟩ := h
  rcases open_ints Tryd.underlying22 Tryd.underlying3 (by kernel_rfl) hf with ⟨hcs, _⟩ | ⟨x, l, c, zs, hcs, _, hl, hm, hz, _, hcell, hwz⟩
  · simp [Value.cells] at hcs
    obtain ⟨rfl, rfl, rfl⟩ := hcs
    exact ⟨[], SI.nil, rfl⟩
  · simp [Value.cells] at hcs
    obtain ⟨rfl, rfl, rfl⟩ := hcs
    have hzl : len ≤ zs.length := by rw [hz]; split <;> omega
    refine ⟨zs.take len, fun hne => ?_, by rw [List.length_take]; omega⟩
    have hpos : 0 < zs.length := by
      rcases Nat.eq_zero_or_pos zs.length with h0 | h0
      · exact absurd (by simp [ints, List.eq_nil_of_length_eq_zero h0]) hne
      · exact h0
    obtain ⟨b, off, rfl, hc⟩ := ints_at hcell hpos
    refine ⟨b, off, rfl, trivial, ?_, fun j u hj => ?_⟩
    · have := hc 0 hpos
      exact World.block_lt_of_cell? W _ this
    · simp only [ints, List.getElem?_map, List.getElem?_take] at hj
      split at hj
      · rename_i hlt
        rw [hc j (by omega)]
        rw [List.getElem?_eq_getElem (by omega)] at hj
        simp at hj
        simp [List.getD, hj, List.getElem?_eq_getElem (show j < zs.length by omega)]
      · simp at hj
end Go.Proofs.YtgpcojmdfmngeaaDoor

namespace Go.Proofs.YtgpcojmdfmngeaaDoor
open Go.ChangeShapes Go.WideShapes Go.ChangeAt Go.RowKit
set_option maxRecDepth 100000

theorem gCls : Tryd.prog.globalNamed "permitoffice/lexeme.classes" = some 1 := by kernel_rfl
theorem gClsType : (Tryd.prog.globals[1]?).map (·.type) = some 165 := by kernel_rfl
theorem cellsTri : Tryd.prog.cellsOf 164 = 3 := by kernel_rfl
theorem cellsB1 : Tryd.prog.cellsOf 4 = 1 := by kernel_rfl
theorem cellsU1 : Tryd.prog.cellsOf 5 = 1 := by kernel_rfl

theorem tri_of {H : Type} {enc : TypeId × Value → H} {w : World} {base : Nat} {sp : Nat → Bool} {held : Bool} {m : Nat} {cs : List Value} {y : DataW H × List MemPlace} {a b : Int} {c : Bool}
    (h : DataW.trod enc Tryd.prog w base sp held m 164 cs = some y) (hy : y.1 = .agg [.lit (.int .u8 a), .lit (.int .u8 b), .lit (.bool c)]) : cs = [.int .u8 a, .int .u8 b, .bool c] := by
  obtain ⟨y0, y1, y2, n, rfl, hl, h0, h1, h2⟩ := Deep.trod_struct3 Tryd.underlying164 h
  obtain ⟨u, e0, rfl, _⟩ := DataW.trod_int Tryd.underlying5 h0
  obtain ⟨v, e1, rfl, _⟩ := DataW.trod_int Tryd.underlying5 h1
  obtain ⟨x, e2, rfl⟩ := DataW.trod_bool Tryd.underlying4 h2
  rw [cellsTri] at hl
  rw [cellsU1] at e0 e1
  rw [cellsB1] at e2
  match cs, hl with
  | [c0, c1, c2], _ =>
    simp at e0 e1 e2 hy
    rw [e0, e1, e2, hy.1, hy.2.1, hy.2.2]

theorem cls_vars {W : World} {rest : List (String × DataW Unit)} {ps : List MemPlace} (h : DataW.LaidVars Tryd.prog W (("permitoffice/lexeme.classes", Rows.laid_permitoffice_lexeme_classes) :: rest) ps) : TabC W ∧ ∃ q, DataW.LaidVars Tryd.prog W rest q := by
  obtain ⟨g', t', cs, fuel, p, q, hg', ht', hvar, hd, hr, _⟩ := h
  obtain rfl := Option.some.inj (gCls.symm.trans hg')
  obtain rfl := Option.some.inj (gClsType.symm.trans ht')
  refine ⟨?_, q, hr⟩
  obtain ⟨xs, m, _, hx, hl, hxl, hi⟩ := DataW.trod_array Tryd.underlying165 hd
  rw [cellsTri] at hi
  simp only [Prod.mk.injEq] at hx
  have hx1 := hx.1
  match xs, hxl with
  | [x0, x1, x2, x3], _ =>
    simp only [Rows.laid_permitoffice_lexeme_classes, List.map_cons, List.map_nil, DataW.agg.injEq, List.cons.injEq, and_true] at hx1
    obtain ⟨a0, a1, a2, a3⟩ := hx1
    have p0 := tri_of (hi 0 (by decide)) a0.symm
    have p1 := tri_of (hi 1 (by decide)) a1.symm
    have p2 := tri_of (hi 2 (by decide)) a2.symm
    have p3 := tri_of (hi 3 (by decide)) a3.symm
    have key : ∀ (i : Nat) (u v x : Value), (cs.toList.drop (i * 3)).take 3 = [u, v, x] → cs.toList[i * 3]? = some u ∧ cs.toList[i * 3 + 1]? = some v ∧ cs.toList[i * 3 + 2]? = some x := by
      intro i u v x h
      refine ⟨?_, ?_, ?_⟩
      · have := congrArg (·[0]?) h
        simpa [List.getElem?_take, List.getElem?_drop] using this
      · have := congrArg (·[1]?) h
        simpa [List.getElem?_take, List.getElem?_drop] using this
      · have := congrArg (·[2]?) h
        simpa [List.getElem?_take, List.getElem?_drop] using this
    have c : ∀ i v, cs.toList[i]? = some v → W.cell? ⟨1, i, none⟩ = some v := fun i v h => by
      have := World.var?_cell gCls hvar i
      rw [this]; simpa using h
    have k0 := key 0 _ _ _ p0
    have k1 := key 1 _ _ _ p1
    have k2 := key 2 _ _ _ p2
    have k3 := key 3 _ _ _ p3
    intro j u hj
    have hj12 : j < 12 := by
      have := (List.getElem?_eq_some_iff.1 hj).1
      simpa [clsV] using this
    have : j = 0 ∨ j = 1 ∨ j = 2 ∨ j = 3 ∨ j = 4 ∨ j = 5 ∨ j = 6 ∨ j = 7 ∨ j = 8 ∨ j = 9 ∨ j = 10 ∨ j = 11 := by omega
    rcases this with rfl | rfl | rfl | rfl | rfl | rfl | rfl | rfl | rfl | rfl | rfl | rfl <;> (simp [clsV] at hj; subst hj)
    · exact c 0 _ k0.1
    · exact c 1 _ k0.2.1
    · exact c 2 _ k0.2.2
    · exact c 3 _ k1.1
    · exact c 4 _ k1.2.1
    · exact c 5 _ k1.2.2
    · exact c 6 _ k2.1
    · exact c 7 _ k2.2.1
    · exact c 8 _ k2.2.2
    · exact c 9 _ k3.1
    · exact c 10 _ k3.2.1
    · exact c 11 _ k3.2.2
theorem tab_cls {W : World} (h : laidMetH Tryd.prog [("permitoffice/lexeme.classes", Rows.laid_permitoffice_lexeme_classes)] W) : TabC W := by
  have h' : laidMet Tryd.prog [("permitoffice/lexeme.classes", Rows.laid_permitoffice_lexeme_classes)] W := h
  obtain ⟨ps, hv, _⟩ := h'
  exact (cls_vars hv).1
end Go.Proofs.YtgpcojmdfmngeaaDoor

namespace Go.Proofs.YtgpcojmdfmngeaaDoor
open Go.ChangeShapes Go.WideShapes Go.ChangeAt Go.RowKit
set_option maxRecDepth 100000

theorem gPos : Tryd.prog.globalNamed "permitoffice/mask.positions" = some 0 := by kernel_rfl
theorem gPosType : (Tryd.prog.globals[0]?).map (·.type) = some 156 := by kernel_rfl
theorem cellsPair : Tryd.prog.cellsOf 155 = 2 := by kernel_rfl
theorem cellsBool : Tryd.prog.cellsOf 4 = 1 := by kernel_rfl

theorem pair_of {H : Type} {enc : TypeId × Value → H} {w : World} {base : Nat} {sp : Nat → Bool} {held : Bool} {m : Nat} {cs : List Value} {y : DataW H × List MemPlace} {a b : Bool}
    (h : DataW.trod enc Tryd.prog w base sp held m 155 cs = some y) (hy : y.1 = .agg [.lit (.bool a), .lit (.bool b)]) : cs = [.bool a, .bool b] := by
  obtain ⟨y0, y1, n, rfl, hl, h0, h1⟩ := trod_struct2 Tryd.underlying155 h
  obtain ⟨u, e0, rfl⟩ := DataW.trod_bool Tryd.underlying4 h0
  obtain ⟨v, e1, rfl⟩ := DataW.trod_bool Tryd.underlying4 h1
  rw [cellsPair] at hl
  rw [cellsBool] at e0 e1
  match cs, hl with
  | [c0, c1], _ =>
    simp at e0 e1 hy
    rw [e0, e1, hy.1, hy.2]

theorem pos_vars {W : World} {rest : List (String × DataW Unit)} {ps : List MemPlace} (h : DataW.LaidVars Tryd.prog W (("permitoffice/mask.positions", Rows.laid_permitoffice_mask_positions) :: rest) ps) : Tab W := by
  obtain ⟨g', t', cs, fuel, p, q, hg', ht', hvar, hd, _, _⟩ := h
  obtain rfl := Option.some.inj (gPos.symm.trans hg')
  obtain rfl := Option.some.inj (gPosType.symm.trans ht')
  obtain ⟨xs, m, _, hx, hl, hxl, hi⟩ := DataW.trod_array Tryd.underlying156 hd
  rw [cellsPair] at hi
  simp only [Prod.mk.injEq] at hx
  have hx1 := hx.1
  match xs, hxl with
  | [x0, x1, x2, x3], _ =>
    simp only [Rows.laid_permitoffice_mask_positions, List.map_cons, List.map_nil, DataW.agg.injEq, List.cons.injEq, and_true] at hx1
    obtain ⟨a0, a1, a2, a3⟩ := hx1
    have p0 := pair_of (hi 0 (by decide)) a0.symm
    have p1 := pair_of (hi 1 (by decide)) a1.symm
    have p2 := pair_of (hi 2 (by decide)) a2.symm
    have p3 := pair_of (hi 3 (by decide)) a3.symm
    have key : ∀ (i : Nat) (u v : Value), (cs.toList.drop (i * 2)).take 2 = [u, v] → cs.toList[i * 2]? = some u ∧ cs.toList[i * 2 + 1]? = some v := by
      intro i u v h
      constructor
      · have := congrArg (·[0]?) h
        simpa [List.getElem?_take, List.getElem?_drop] using this
      · have := congrArg (·[1]?) h
        simpa [List.getElem?_take, List.getElem?_drop] using this
    have c : ∀ i v, cs.toList[i]? = some v → W.cell? ⟨0, i, none⟩ = some v := fun i v h => by
      have := World.var?_cell gPos hvar i
      rw [this]; simpa using h
    have k0 := key 0 _ _ p0
    have k1 := key 1 _ _ p1
    have k2 := key 2 _ _ p2
    have k3 := key 3 _ _ p3
    exact ⟨c 0 _ k0.1, c 1 _ k0.2, c 2 _ k1.1, c 3 _ k1.2, c 4 _ k2.1, c 5 _ k2.2, c 6 _ k3.1, c 7 _ k3.2⟩

theorem tab2_cls {W : World} (h : laidMetH Tryd.prog [("permitoffice/lexeme.classes", Rows.laid_permitoffice_lexeme_classes), ("permitoffice/mask.positions", Rows.laid_permitoffice_mask_positions)] W) : TabC W := by
  have h' : laidMet Tryd.prog [("permitoffice/lexeme.classes", Rows.laid_permitoffice_lexeme_classes), ("permitoffice/mask.positions", Rows.laid_permitoffice_mask_positions)] W := h
  obtain ⟨ps, hv, _⟩ := h'
  exact (cls_vars hv).1
theorem tab2_pos {W : World} (h : laidMetH Tryd.prog [("permitoffice/lexeme.classes", Rows.laid_permitoffice_lexeme_classes), ("permitoffice/mask.positions", Rows.laid_permitoffice_mask_positions)] W) : Tab W := by
  have h' : laidMet Tryd.prog [("permitoffice/lexeme.classes", Rows.laid_permitoffice_lexeme_classes), ("permitoffice/mask.positions", Rows.laid_permitoffice_mask_positions)] W := h
  obtain ⟨ps, hv, _⟩ := h'
  obtain ⟨_, q, hq⟩ := cls_vars hv
  exact pos_vars hq
end Go.Proofs.YtgpcojmdfmngeaaDoor

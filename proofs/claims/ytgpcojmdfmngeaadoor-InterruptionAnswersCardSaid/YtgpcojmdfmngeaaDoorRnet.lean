/-
  Reading a network, changes, bools and strings that came in.
-/
import Derived.Test.YtgpcojmdfmngeaaDoorGi
import Derived.Test.YtgpcojmdfmngeaaDoorGc
import Derived.Test.YtgpcojmdfmngeaaDoorGa
import Derived.Deep.Slices
import Derived.Lib.SmallJoins
import Derived.Deep.Grids
import Derived.Deep.Strs
namespace Go.Proofs.YtgpcojmdfmngeaaDoor
open Go.ChangeShapes Go.WideShapes Go.ChangeAt Go.RowKit
set_option maxRecDepth 100000

/-- A slice of records that came in. -/
theorem arg_recs {α : Type} [Inhabited α] {f : α → List Value} {m : Nat} (hf : ∀ x, (f x).length = m) (hm : 0 < m) {Q : α → Prop} {H : Type} {enc : TypeId × Value → H} {W : World} {base : Nat} {sp : Nat → Bool} {held : Bool}
    {t e : TypeId} (ht : Tryd.prog.underlying t = some (.slice e)) (hc : Tryd.prog.cellsOf e = m) (hop : ∀ n cs y, DataW.trod enc Tryd.prog W base sp held n e cs = some y → ∃ x, cs = f x ∧ Q x)
    {fuel : Nat} {v : Value} {y : DataW H × List MemPlace} (h : DataW.trod enc Tryd.prog W base sp held fuel t [v] = some y) :
    ∃ (A : Option Addr) (c : Nat) (xs : List α), v = .slice A xs.length c ∧ SV W (fun _ => True) A (recV f xs) ∧ (∀ x ∈ xs, Q x) ∧ xs.length ≤ maxLen := by
  rcases Deep.open_slice ht h with ⟨hcs, _⟩ | ⟨a, len, cap, mm, n, D, Pl, hcs, _, hl, hmx, hmm, _, hx⟩
  · injection hcs with hv _
    exact ⟨none, 0, [], hv, fun hne => absurd rfl hne, by simp, by simp⟩
  · injection hcs with hv _
    have hlm : len ≤ mm := by rw [hmm]; split <;> omega
    obtain ⟨F, hF⟩ := Deep.choose_lt (n := len) (p := fun i x => (∀ j, j < m → W.cell? ((a.add (i * m)).add j) = (f x)[j]?) ∧ Q x) (fun i hi => by
      obtain ⟨cs', h1, h2⟩ := hx i (by omega)
      obtain ⟨x, rfl, hq⟩ := hop n cs' _ h2
      rw [hc] at h1
      obtain ⟨_, _, h3⟩ := World.cells?_some h1
      exact ⟨x, h3, hq⟩)
    refine ⟨some a, cap, (List.range len).map F, by simpa using hv, fun hne => ?_, fun x hx => ?_, by simp; omega⟩
    · have hlen : 0 < len := by
        rcases Nat.eq_zero_or_pos len with h0 | h0
        · subst h0; exact absurd rfl hne
        · exact h0
      have hF' : ∀ i j, i < len → j < m → W.cell? (a.add (i * m + j)) = (f (F i))[j]? := fun i j hi hj => by
        rw [← (hF i hi).1 j hj, Deep.add_add]
      have h00 := hF' 0 0 hlen hm
      rw [List.getElem?_eq_getElem (by rw [hf]; exact hm)] at h00
      obtain ⟨b, off, spot⟩ := a
      have hspot : spot = none := by simpa [Addr.add] using World.cell?_spot h00
      subst hspot
      have hadd : ∀ k, (Addr.mk b off none).add k = ⟨b, off + k, none⟩ := fun k => by unfold Addr.add; split <;> simp_all
      refine ⟨b, off, rfl, trivial, World.block_lt_of_cell? W ⟨b, off, none⟩ (by simpa [Addr.add] using h00), fun k u hk => ?_⟩
      have hkl : k < len * m := by
        have := (List.getElem?_eq_some_iff.1 hk).1
        rw [recV_len hf] at this
        simpa using this
      have hi : k / m < len := Nat.div_lt_of_lt_mul (by rw [Nat.mul_comm]; exact hkl)
      have hj : k % m < m := Nat.mod_lt _ hm
      have hk2 : k = (k / m) * m + k % m := by rw [Nat.mul_comm]; exact (Nat.div_add_mod k m).symm
      have h1 := hF' (k / m) (k % m) hi hj
      rw [← hk2, hadd] at h1
      rw [h1]
      have h2 := recV_at hf ((List.range len).map F) (k / m) (F (k / m)) (by simp [hi]) (k % m) hj
      rw [← hk2, hk] at h2
      exact h2.symm
    · obtain ⟨i, hi, rfl⟩ := List.mem_map.1 hx
      exact (hF i (by simpa using hi)).2

instance : Inhabited Node := ⟨⟨⟨#[]⟩, 0, 0⟩⟩
instance : Inhabited Dev := ⟨⟨⟨#[]⟩, 0, 0, 0, 0⟩⟩
instance : Inhabited Chg := ⟨⟨0, 0, 0⟩⟩
theorem cellsNode : Tryd.prog.cellsOf 104 = 3 := by kernel_rfl
theorem cellsDev : Tryd.prog.cellsOf 78 = 5 := by kernel_rfl
theorem cellsChg : Tryd.prog.cellsOf 86 = 3 := by kernel_rfl
theorem cellsStr : Tryd.prog.cellsOf 9 = 1 := by kernel_rfl
theorem cellsInt : Tryd.prog.cellsOf 3 = 1 := by kernel_rfl
theorem wf_in {n : Int} (h : (Lit.int .i64 n).wf = true) : -9223372036854775808 ≤ n ∧ n ≤ 9223372036854775807 := by
  simp only [Lit.wf, Bool.and_eq_true, decide_eq_true_eq] at h
  exact h
section
variable {H : Type} {enc : TypeId × Value → H} {W : World} {base : Nat} {sp : Nat → Bool} {held : Bool}
theorem open_node {n : Nat} {cs : List Value} {y : DataW H × List MemPlace} (h : DataW.trod enc Tryd.prog W base sp held n 104 cs = some y) : ∃ x : Node, cs = nodeCells x ∧ x.name.size ≤ maxLen := by
  obtain ⟨y0, y1, y2, k, _, hl, h0, h1, h2⟩ := Deep.trod_struct3 Tryd.underlying104 h
  obtain ⟨s, e0, _, hs⟩ := DataW.trod_string Tryd.underlying9 h0
  obtain ⟨a, e1, _, _⟩ := DataW.trod_int Tryd.underlying3 h1
  obtain ⟨b, e2, _, _⟩ := DataW.trod_int Tryd.underlying3 h2
  rw [cellsNode] at hl
  rw [cellsStr] at e0
  rw [cellsInt] at e1 e2
  match cs, hl with
  | [c0, c1, c2], _ =>
    simp at e0 e1 e2
    subst e0 e1 e2
    exact ⟨⟨s, a, b⟩, rfl, hs⟩
theorem trod_struct5 {t : TypeId} {f0 f1 f2 f3 f4 : Field} {fuel : Nat} {cs : List Value} {x : DataW H × List MemPlace} (ht : Tryd.prog.underlying t = some (.struct #[f0, f1, f2, f3, f4])) (h : DataW.trod enc Tryd.prog W base sp held fuel t cs = some x) :
    ∃ y0 y1 y2 y3 y4 n, cs.length = Tryd.prog.cellsOf t ∧ DataW.trod enc Tryd.prog W base sp held n f0.type ((cs.drop f0.offset).take (Tryd.prog.cellsOf f0.type)) = some y0 ∧ DataW.trod enc Tryd.prog W base sp held n f1.type ((cs.drop f1.offset).take (Tryd.prog.cellsOf f1.type)) = some y1 ∧
      DataW.trod enc Tryd.prog W base sp held n f2.type ((cs.drop f2.offset).take (Tryd.prog.cellsOf f2.type)) = some y2 ∧ DataW.trod enc Tryd.prog W base sp held n f3.type ((cs.drop f3.offset).take (Tryd.prog.cellsOf f3.type)) = some y3 ∧
      DataW.trod enc Tryd.prog W base sp held n f4.type ((cs.drop f4.offset).take (Tryd.prog.cellsOf f4.type)) = some y4 := by
  obtain ⟨xs, n, _, rfl, hl, hlen, hf⟩ := DataW.trod_struct ht h
  match xs, hlen with
  | [y0, y1, y2, y3, y4], _ => exact ⟨y0, y1, y2, y3, y4, n, hl, by simpa using hf 0 f0 rfl, by simpa using hf 1 f1 rfl, by simpa using hf 2 f2 rfl, by simpa using hf 3 f3 rfl, by simpa using hf 4 f4 rfl⟩
theorem open_dev {n : Nat} {cs : List Value} {y : DataW H × List MemPlace} (h : DataW.trod enc Tryd.prog W base sp held n 78 cs = some y) : ∃ x : Dev, cs = devCells x ∧ x.name.size ≤ maxLen := by
  obtain ⟨y0, y1, y2, y3, y4, k, hl, h0, h1, h2, h3, h4⟩ := trod_struct5 Tryd.underlying78 h
  obtain ⟨s, e0, _, hs⟩ := DataW.trod_string Tryd.underlying9 h0
  obtain ⟨a, e1, _, _⟩ := DataW.trod_int Tryd.underlying3 h1
  obtain ⟨b, e2, _, _⟩ := DataW.trod_int Tryd.underlying3 h2
  obtain ⟨c, e3, _, _⟩ := DataW.trod_int Tryd.underlying3 h3
  obtain ⟨d, e4, _, _⟩ := DataW.trod_int Tryd.underlying3 h4
  rw [cellsDev] at hl
  rw [cellsStr] at e0
  rw [cellsInt] at e1 e2 e3 e4
  match cs, hl with
  | [c0, c1, c2, c3, c4], _ =>
    simp at e0 e1 e2 e3 e4
    subst e0 e1 e2 e3 e4
    exact ⟨⟨s, a, b, c, d⟩, rfl, hs⟩
theorem open_chg {n : Nat} {cs : List Value} {y : DataW H × List MemPlace} (h : DataW.trod enc Tryd.prog W base sp held n 86 cs = some y) :
    ∃ x : Chg, cs = chgV x ∧ (-9223372036854775808 ≤ x.t ∧ x.t ≤ 9223372036854775807) ∧ (-9223372036854775808 ≤ x.dev ∧ x.dev ≤ 9223372036854775807) ∧ (-9223372036854775808 ≤ x.pos ∧ x.pos ≤ 9223372036854775807) := by
  obtain ⟨y0, y1, y2, k, _, hl, h0, h1, h2⟩ := Deep.trod_struct3 Tryd.underlying86 h
  obtain ⟨s, e0, _, w0⟩ := DataW.trod_int Tryd.underlying3 h0
  obtain ⟨a, e1, _, w1⟩ := DataW.trod_int Tryd.underlying3 h1
  obtain ⟨b, e2, _, w2⟩ := DataW.trod_int Tryd.underlying3 h2
  rw [cellsChg] at hl
  rw [cellsInt] at e0 e1 e2
  match cs, hl with
  | [c0, c1, c2], _ =>
    simp at e0 e1 e2
    subst e0 e1 e2
    exact ⟨⟨s, a, b⟩, rfl, wf_in w0, wf_in w1, wf_in w2⟩
/-- A network that came in. -/
theorem arg_net {r : Reach} {b0 : Nat} {v : Value} {d : DataW H} {p : List MemPlace} (hv : Value.okWide Tryd.prog W r b0 26 v) (h : DataW.Trod enc Tryd.prog W base sp held 26 v d p) :
    ∃ (A1 A2 : Option Addr) (c1 c2 : Nat) (ns : List Node) (ds : List Dev), v = .agg #[.slice A1 ns.length c1, .slice A2 ds.length c2] ∧ NetIn W (fun _ => True) A1 A2 ns ds ∧ ns.length ≤ maxLen ∧ ds.length ≤ maxLen := by
  obtain ⟨v0, v1, y0, y1, n, rfl, _, _, h0, h1⟩ := Joins.open_agg2 Tryd.underlying26 (by kernel_rfl) (by kernel_rfl) hv h
  obtain ⟨A1, c1, ns, rfl, s1, q1, l1⟩ := arg_recs (f := nodeCells) (m := 3) (fun _ => rfl) (by decide) (Q := fun x => x.name.size ≤ maxLen) Tryd.underlying23 cellsNode (fun n cs y hy => open_node hy) h0
  obtain ⟨A2, c2, ds, rfl, s2, q2, l2⟩ := arg_recs (f := devCells) (m := 5) (fun _ => rfl) (by decide) (Q := fun x => x.name.size ≤ maxLen) Tryd.underlying24 cellsDev (fun n cs y hy => open_dev hy) h1
  exact ⟨A1, A2, c1, c2, ns, ds, rfl, ⟨s1, s2, q1, q2⟩, l1, l2⟩
/-- A slice of bools that came in. -/
theorem arg_bools {r : Reach} {b0 : Nat} {v : Value} {d : DataW H} {p : List MemPlace} (hv : Value.okWide Tryd.prog W r b0 27 v) (h : DataW.Trod enc Tryd.prog W base sp held 27 v d p) :
    ∃ (A : Option Addr) (c : Nat) (xs : List Bool), v = .slice A xs.length c ∧ SB W (fun _ => True) A xs ∧ xs.length ≤ maxLen := by
  obtain ⟨fuel, hf⟩ := h
  obtain ⟨a, len, cap, rfl⟩ := okWide_slice Tryd.underlying27 hv
  obtain ⟨A, c, xs, e, s, _, hl⟩ := arg_recs (f := fun x : Bool => [.bool x]) (m := 1) (fun _ => rfl) (by decide) (Q := fun _ => True) Tryd.underlying27 (by kernel_rfl)
    (fun n cs y hy => by obtain ⟨b, hb, _⟩ := DataW.trod_bool Tryd.underlying4 hy; exact ⟨b, hb, trivial⟩) hf
  refine ⟨A, c, xs, e, ?_, hl⟩
  have : recV (fun x : Bool => [Value.bool x]) xs = bools xs := by simp only [recV, bools]; exact (List.map_eq_flatMap).symm
  unfold SB
  rw [← this]
  exact s
end
end Go.Proofs.YtgpcojmdfmngeaaDoor

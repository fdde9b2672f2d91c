/-
  Changes and outages that came in; append of a whole slice of records.
-/
import Derived.Test.YtgpcojmdfmngeaaDoorRnet
import Derived.Test.YtgpcojmdfmngeaaDoorGh
namespace Go.Proofs.YtgpcojmdfmngeaaDoor
open Go.ChangeShapes Go.WideShapes Go.ChangeAt Go.RowKit
set_option maxRecDepth 100000

instance : Inhabited Out := ⟨⟨0, 0, 0, 0⟩⟩
theorem cellsOut : Tryd.prog.cellsOf 141 = 4 := by kernel_rfl
theorem cellsSpan : Tryd.prog.cellsOf 139 = 2 := by kernel_rfl
section
variable {H : Type} {enc : TypeId × Value → H} {W : World} {base : Nat} {sp : Nat → Bool} {held : Bool}
theorem trod_struct2 {t : TypeId} {f0 f1 : Field} {fuel : Nat} {cs : List Value} {x : DataW H × List MemPlace} (ht : Tryd.prog.underlying t = some (.struct #[f0, f1])) (h : DataW.trod enc Tryd.prog W base sp held fuel t cs = some x) :
    ∃ y0 y1 n, cs.length = Tryd.prog.cellsOf t ∧ DataW.trod enc Tryd.prog W base sp held n f0.type ((cs.drop f0.offset).take (Tryd.prog.cellsOf f0.type)) = some y0 ∧ DataW.trod enc Tryd.prog W base sp held n f1.type ((cs.drop f1.offset).take (Tryd.prog.cellsOf f1.type)) = some y1 := by
  obtain ⟨xs, n, _, rfl, hl, hlen, hf⟩ := DataW.trod_struct ht h
  match xs, hlen with
  | [y0, y1], _ => exact ⟨y0, y1, n, hl, by simpa using hf 0 f0 rfl, by simpa using hf 1 f1 rfl⟩
theorem open_out {n : Nat} {cs : List Value} {y : DataW H × List MemPlace} (h : DataW.trod enc Tryd.prog W base sp held n 141 cs = some y) : ∃ x : Out, cs = outV x := by
  obtain ⟨y0, y1, y2, k, _, hl, h0, h1, h2⟩ := Deep.trod_struct3 Tryd.underlying141 h
  obtain ⟨s, e0, _, w0⟩ := DataW.trod_int Tryd.underlying3 h0
  obtain ⟨a, e1, _, w1⟩ := DataW.trod_int Tryd.underlying3 h1
  obtain ⟨y3, y4, k2, hl2, h3, h4⟩ := trod_struct2 Tryd.underlying139 h2
  obtain ⟨f, e3, _, w3⟩ := DataW.trod_int Tryd.underlying3 h3
  obtain ⟨u, e4, _, w4⟩ := DataW.trod_int Tryd.underlying3 h4
  rw [cellsOut] at hl
  rw [cellsSpan] at hl2 e3 e4
  rw [cellsInt] at e0 e1 e3 e4
  match cs, hl with
  | [c0, c1, c2, c3], _ =>
    simp at e0 e1 e3 e4
    subst e0 e1 e3 e4
    exact ⟨⟨s, a, f, u⟩, rfl⟩
/-- Changes that came in. -/
theorem arg_chgs {r : Reach} {b0 : Nat} {v : Value} {d : DataW H} {p : List MemPlace} (hv : Value.okWide Tryd.prog W r b0 82 v) (h : DataW.Trod enc Tryd.prog W base sp held 82 v d p) :
    ∃ (A : Option Addr) (c : Nat) (xs : List Chg), v = .slice A xs.length c ∧ SV W (fun _ => True) A (recV chgV xs) ∧ (∀ x ∈ xs, x.t ≤ 9223372036854775807) ∧ xs.length ≤ maxLen := by
  obtain ⟨fuel, hf⟩ := h
  obtain ⟨a, len, cap, rfl⟩ := okWide_slice Tryd.underlying82 hv
  exact arg_recs (f := chgV) (m := 3) chgV_len (by decide) (Q := fun x => x.t ≤ 9223372036854775807) Tryd.underlying82 cellsChg (fun n cs y hy => by obtain ⟨x, hx, h1, _⟩ := open_chg hy; exact ⟨x, hx, h1.2⟩) hf
/-- Outages that came in. -/
theorem arg_outs {r : Reach} {b0 : Nat} {v : Value} {d : DataW H} {p : List MemPlace} (hv : Value.okWide Tryd.prog W r b0 83 v) (h : DataW.Trod enc Tryd.prog W base sp held 83 v d p) :
    ∃ (A : Option Addr) (c : Nat) (xs : List Out), v = .slice A xs.length c ∧ SV W (fun _ => True) A (recV outV xs) ∧ xs.length ≤ maxLen := by
  obtain ⟨fuel, hf⟩ := h
  obtain ⟨a, len, cap, rfl⟩ := okWide_slice Tryd.underlying83 hv
  obtain ⟨A, c, xs, e, s, _, hl⟩ := arg_recs (f := outV) (m := 4) outV_len (by decide) (Q := fun _ => True) Tryd.underlying83 cellsOut (fun n cs y hy => by obtain ⟨x, hx⟩ := open_out hy; exact ⟨x, hx, trivial⟩) hf
  exact ⟨A, c, xs, e, s, hl⟩
end

theorem recV_one {α : Type} {f : α → List Value} (h1 : ∀ x, ∀ u ∈ f x, u.oneCell' = true) (xs : List α) : ∀ u ∈ recV f xs, u.oneCell' = true := by
  intro u hu
  unfold recV at hu
  obtain ⟨x, _, hx⟩ := List.mem_flatMap.1 hu
  exact h1 x u hx
/-- append of a slice of records to nothing -/
theorem wpList_copyRec {α : Type} {f : α → List Value} {m : Nat} (hf : ∀ x, (f x).length = m) (hm : 0 < m) (h1 : ∀ x, ∀ u ∈ f x, u.oneCell' = true) {w : World} {ops : Array Oper} {rest : List Oper} {o : Oper} {a : Act} {Q : Exit → Act → World → Prop}
    (t e : TypeId) (z : Value) (bytes : Nat) (ht : Tryd.prog.underlying t = some (.slice e)) (hinfo : (Tryd.prog.info? e).map (fun i => (i.zero, i.size, i.bytes)) = some (some z, m, bytes)) (hzs : z.cells.size = m) (hby : bytes ≤ 1000)
    (hgd : o.guard = none) (s x : Operand) (ho : o.op = .call { callee := .builtin .append, args := #[s, x], argTypes := #[t, t] })
    {T : Nat → Prop} {A2 : Option Addr} {n2 c2 : Nat} {ys : List α} (hs : a.eval s = .slice none 0 0) (hx : a.eval x = .slice A2 n2 c2) (hn : n2 = ys.length) (hnews : SV w T A2 (recV f ys)) (hb : ys.length ≤ 65536)
    (h : ∀ A' c' w', OV w' (fun g => w.heap.size ≤ g) e m A' ys.length c' (recV f ys) → Below w.heap.size w w' →
      wpList Tryd.prog ops Q rest (a.put o.dst (.slice A' ys.length c')) w') : wpList Tryd.prog ops Q (o :: rest) a w := by
  obtain ⟨i0, hi, hz0, hz1, hz2⟩ := info_parts hinfo
  subst hn
  have hown : OV w (fun g => w.heap.size ≤ g) e m none 0 0 (recV f ([] : List α)) := OV.nil _ _ _ _
  have hbb : (0 + ys.length) * bytes ≤ 140737488355328 := Nat.le_trans (Nat.mul_le_mul (show 0 + ys.length ≤ 65536 by omega) hby) (by decide)
  obtain ⟨A', c', w', hr, h2, h3, h4⟩ := run_append_OV (P := Tryd.prog) w (fun g => w.heap.size ≤ g) t o.type e i0 z m bytes ht hi hz0 hz1 hz2 hzs hm none 0 0 (recV f []) hown T A2 ys.length c2 (recV f ys) (recV_len hf ys) hnews (recV_one h1 ys)
    (by simp only [maxLen]; omega) hbb
  refine wpList_plain hgd fun K hK => ?_
  unfold Oper.wp execOp
  simp only [ho, resolve, invoke, builtin, Sem.run_bind, Sem.run_pure, Result.andThen_ok, List.map_toArray, List.map_cons, List.map_nil, hs, hx, hr]
  rw [Nat.zero_add]
  refine hK _ _ (h A' c' w' ?_ ((Below.refl w.heap.size w).grown h3 (Nat.le_refl _) fun g hg => (OV.block hown g hg).1))
  have := h2.mono (T := fun g => w.heap.size ≤ g) (fun g _ hg => by rcases hg with hg | hg <;> omega)
  rw [Nat.zero_add] at this
  exact this
end Go.Proofs.YtgpcojmdfmngeaaDoor

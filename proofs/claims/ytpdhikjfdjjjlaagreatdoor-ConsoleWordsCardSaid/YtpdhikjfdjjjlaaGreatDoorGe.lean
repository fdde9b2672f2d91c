/-
  Runs that end in one of some ways; a walk over a map; a range over a function that yields nothing.
-/
import Derived.Test.YtpdhikjfdjjjlaaGreatDoorGd
import Derived.RangeFuncLeaves
import Derived.RangeFuncRecord
import Derived.Maps.RangeRun
import Derived.Test.YtpdhikjfdjjjlaaGreatDoorGc
namespace Go.Proofs.YtpdhikjfdjjjlaaGreatDoor.AL
open Go Go.RowKit
/-- A run that ends in one of some ways. -/
def EvX {X : Type} (P : Program) (G : Nat → Option (List D)) (N : Nat) (code : Code) (nx : Nat) (σ : Nat → D) (st : List (Nat × Blk)) (e : X → Exit) (nx' : X → Nat) (σ' : X → Nat → D) (st' : X → List (Nat × Blk)) : Prop :=
  ∀ B w0 O df ι0 ι a w, Rel ⟨P, G, N, B, w0, O, df, ι0⟩ (· < nx) ι a w σ (gs st) → code.wp P (fun e1 a' w' => ∃ x ι', e1 = e x ∧ Rel ⟨P, G, N, B, w0, O, df, ι0⟩ (· < nx' x) ι' a' w' (σ' x) (gs (st' x))) a w
/-- A function that works on names, and ends in one of some ways. -/
structure ImpX {X : Type} (P : Program) (G : Nat → Option (List D)) (k : Nat) (args : List D) (gl : List (Nat × Blk)) (lo hi : Nat) (R : X → D) (upd : X → List (Nat × Option Blk)) : Prop where
  body : HasBody P k
  calls : ∀ (c : Ctx) (dom : Nat → Prop) (ι : Nat → Option IB) (w : World) (st : Nat → Option Blk) (vs : Array Value), c.P = P → c.G = G → Rel c.bare dom ι act0 w any0 st → (∀ p ∈ gl, st p.1 = some p.2) → (∀ n, lo ≤ n → n < hi → ¬ dom n) → vs.size = args.length → (∀ i (hi : i < args.length), Rep w (Fb c ι st) ι (vs.getD i undef) args[i]) →
    Calls P k vs w (fun e w' => ∃ x v ι', e = .returned v ∧ Rel c.bare (fun n => dom n ∨ (lo ≤ n ∧ n < hi)) ι' act0 w' any0 (updL st (upd x)) ∧ Rep w' (Fb c ι' (updL st (upd x))) ι' v (R x) ∧ ∀ v d, Rep w (Fb c ι st) ι v d → Rep w' (Fb c ι' (updL st (upd x))) ι' v d)
section
variable {P : Program} {G : Nat → Option (List D)} {Ty : Nat → Option TyI}
theorem impX_of {X : Type} (hty : TyOK P Ty) {k : Nat} {fn : Func} {code : Code} {args : List D} {gl : List (Nat × Blk)} {lo hi N : Nat} {hi' : X → Nat} {R : X → D} {upd : X → List (Nat × Option Blk)} {σ0 : Nat → D} {σ' : X → Nat → D} {st' : X → List (Nat × Blk)} {e : X → Exit} (hf : P.funcs[k]? = some fn) (hb : fn.body = some code) (hNt : fn.ntmps = N) (hn : (fn.name == "runtime.NumGoroutine") = false) (hN : args.length ≤ N)
    (hσ0 : ∀ t, σ0 t = .any ∨ σ0 t = args.getD t .any)
    (hlt : ∀ p ∈ gl, p.1 < lo) (hargs : D.inns (hasB gl) args = true) (hgin : ∀ p ∈ gl, p.2.inn (hasB gl) = true) (hgs : ∀ p ∈ gl, gs gl p.1 = some p.2) (hcovX : ∀ x, ∀ p ∈ gl, p.1 ∈ (upd x).map (·.1))
    (h : EvX P G N code lo σ0 gl e hi' σ' st') (heX : ∀ x, e x = .normal ∨ e x = .ret) (hhiX : ∀ x, hi' x ≤ hi) (hresX : ∀ x, resRF Ty fn.results.toList (σ' x) (st' x) = some (R x)) (hRX : ∀ x, (R x).inn (inR gl lo hi) = true)
    (hupdX : ∀ x, ∀ q ∈ upd x, (hasB gl q.1 = true ∨ (lo ≤ q.1 ∧ q.1 < hi)) ∧ ∀ b, q.2 = some b → gs (st' x) q.1 = some b ∧ b.inn (inR gl lo hi) = true) : ImpX P G k args gl lo hi R upd := by
  subst hNt
  refine ⟨⟨fn, hf, by rw [hb]; rfl, hn⟩, fun c dom ι w st vs hP hG hr hst hnm hsz hrep => ?_⟩
  subst hP; subst hG
  refine calls_of_wp hf hb ?_
  have hsome : ∀ n, hasB gl n = true → ∃ b, gs gl n = some b ∧ st n = some b := fun n hn' => by
    obtain ⟨b, hb'⟩ := hasB_iff.1 hn'
    exact ⟨b, hgs _ hb', hst _ hb'⟩
  have hgssome : ∀ n b, gs gl n = some b → hasB gl n = true ∧ st n = some b := fun n b hn' => by
    have hm := gs_mem hn'
    exact ⟨hasB_iff.2 ⟨b, hm⟩, hst _ hm⟩
  obtain ⟨ι1, hι1⟩ : ∃ ι1 : Nat → Option IB, ι1 = fun n => if hasB gl n then ι n else none := ⟨_, rfl⟩
  have i1 : ∀ n, hasB gl n = true → ι1 n = ι n := fun n hn' => by rw [hι1]; simp [hn']
  have i0 : ∀ n, hasB gl n = false → ι1 n = none := fun n hn' => by rw [hι1]; simp [hn']
  obtain ⟨B1, hB1⟩ : ∃ B1 : Nat → Prop, B1 = fun b => c.B b ∨ ∃ n ib, (st n).isSome = true ∧ hasB gl n = false ∧ ι n = some ib ∧ 0 < ib.cap ∧ b = ib.blk := ⟨_, rfl⟩
  obtain ⟨O1, hO1⟩ : ∃ O1 : Nat → Prop, O1 = fun b => ∃ n ib, hasB gl n = true ∧ ι n = some ib ∧ 0 < ib.cap ∧ b = ib.blk := ⟨_, rfl⟩
  let c1 : Ctx := ⟨c.P, c.G, fn.ntmps, B1, w, O1, [], ι1⟩
  have ownO : ∀ b, Own ι1 (gs gl) b ↔ O1 b := by
    intro b
    rw [hO1]
    constructor
    · rintro ⟨n, ib, h1, h2, h3, h4⟩
      cases hg : gs gl n with
      | none => rw [hg] at h1; cases h1
      | some bb =>
        have := (hgssome n bb hg).1
        exact ⟨n, ib, this, by rw [← i1 n this]; exact h2, h3, h4⟩
    · rintro ⟨n, ib, h1, h2, h3, h4⟩
      obtain ⟨b, e1, e2⟩ := hsome n h1
      exact ⟨n, ib, by rw [e1]; rfl, by rw [i1 n h1]; exact h2, h3, h4⟩
  have oOwn : ∀ b, O1 b → Own ι st b := by
    intro b hb'
    rw [hO1] at hb'
    obtain ⟨n, ib, h1, h2, h3, h4⟩ := hb'
    obtain ⟨bb, e1, e2⟩ := hsome n h1
    exact ⟨n, ib, by rw [e2]; rfl, h2, h3, h4⟩
  have FF : ∀ b, Fb c1 ι1 (gs gl) b ↔ Fb c ι st b := by
    intro b
    show B1 b ∨ Own ι1 (gs gl) b ↔ c.B b ∨ Own ι st b
    rw [ownO, hB1]
    constructor
    · rintro ((h1 | ⟨n, ib, h1, _, h2, h3, h4⟩) | h1)
      · exact .inl h1
      · exact .inr ⟨n, ib, h1, h2, h3, h4⟩
      · exact .inr (oOwn b h1)
    · rintro (h1 | ⟨n, ib, h1, h2, h3, h4⟩)
      · exact .inl (.inl h1)
      · cases hh : hasB gl n with
        | true => right; rw [hO1]; exact ⟨n, ib, hh, h2, h3, h4⟩
        | false => exact .inl (.inr ⟨n, ib, h1, hh, h2, h3, h4⟩)
  have FFe : Fb c1 ι1 (gs gl) = Fb c ι st := funext fun b => propext (FF b)
  have disj : ∀ b, B1 b → ¬ O1 b := by
    intro b hb1 hb2
    have ho := oOwn b hb2
    rw [hB1] at hb1
    rw [hO1] at hb2
    rcases hb1 with hb1 | ⟨n, ib, h1, h2, h3, h4, h5⟩
    · exact (hr.own b ho).2.1 hb1
    · obtain ⟨m, ib', k1, k2, k3, k4⟩ := hb2
      obtain ⟨bb, e1, e2⟩ := hsome m k1
      have hne : n ≠ m := fun e => by rw [e, k1] at h2; cases h2
      exact hr.inj n m h1 (by rw [e2]; rfl) hne ib ib' h3 k2 h4 k3 (by rw [← h5, k4])
  have lowF : ∀ b, Fb c ι st b → b < w.heap.size := fun b hb' => by
    rcases hb' with hb' | hb'
    · have := (hr.low b hb').1; have := hr.hsize; show b < w.heap.size; exact Nat.lt_of_lt_of_le (hr.low b hb').1 hr.hsize
    · exact (hr.own b hb').1
  have hr1 : Rel c1 (· < lo) ι1 { tmps := vs ++ Array.replicate (fn.ntmps - vs.size) undef, defers := [] } w σ0 (gs gl) := by
    refine ⟨by simp [c1]; omega, rfl, fun t => ?_, fun n b hnb => ?_, fun n m h1 h2 hne ib ib' k1 k2 => ?_, fun n hn' => ?_, rfl, rfl, rfl, Nat.le_refl _, fun b _ _ => rfl, fun b hb' => ?_, fun b hb' => ?_, fun g row hg => ?_, Grows.refl _⟩
    · rw [FFe]
      rcases hσ0 t with hs0 | hs0
      · rw [hs0]; exact .pure _ _ (.any _)
      rw [hs0]
      by_cases ht : t < args.length
      · have e1 : (vs ++ Array.replicate (fn.ntmps - vs.size) undef).getD t undef = vs.getD t undef := by
          simp [Array.getElem?_append, hsz, ht]
        have e2 : args.getD t .any = args[t] := by simp [ht]
        rw [e1, e2]
        exact (hrep t ht).res (D.inns_at hargs t ht) (fun n ib hp hi => by rw [i1 n hp]; exact hi)
      · have e2 : args.getD t .any = .any := by simp [show args.length ≤ t by omega]
        rw [e2]; exact .pure _ _ (.any _)
    · obtain ⟨e1, e2⟩ := hgssome n b hnb
      rw [FFe]
      exact (hr.blk n b e2).res (hgin _ (gs_mem hnb)) e1 (fun n ib hp hi => by rw [i1 n hp]; exact hi)
    · cases hg1 : gs gl n with
      | none => rw [hg1] at h1; cases h1
      | some b1 =>
        cases hg2 : gs gl m with
        | none => rw [hg2] at h2; cases h2
        | some b2 =>
          obtain ⟨e1, e2⟩ := hgssome n b1 hg1
          obtain ⟨e3, e4⟩ := hgssome m b2 hg2
          exact hr.inj n m (by rw [e2]; rfl) (by rw [e4]; rfl) hne ib ib' (by rw [← i1 n e1]; exact k1) (by rw [← i1 m e3]; exact k2)
    · cases hh : hasB gl n with
      | false => rw [i0 n hh] at hn'; cases hn'
      | true =>
        obtain ⟨b, hb'⟩ := hasB_iff.1 hh
        exact hlt _ hb'
    · refine ⟨?_, disj b hb'⟩
      have : Fb c1 ι1 (gs gl) b := .inl hb'
      exact lowF b ((FF b).1 this)
    · have ho := (ownO b).1 hb'
      exact ⟨lowF b (.inr (oOwn b ho)), fun hb1 => disj b hb1 ho, .inl ho⟩
    · rw [FFe]; exact hr.glob g row hg
  have hlo : ∀ n, lo ≤ n → n < hi → hasB gl n = false := fun n h1 h2 => by
    cases hh : hasB gl n with
    | false => rfl
    | true => obtain ⟨b, hb'⟩ := hasB_iff.1 hh; have := hlt _ hb'; simp at this; omega
  have hnone : ∀ n, lo ≤ n → n < hi → ι n = none ∧ st n = none := fun n h1 h2 => hr.none_of (hnm n h1 h2)
  refine wp_mono (h B1 w O1 [] ι1 _ _ _ hr1) ?_
  rintro e1 a' w' ⟨x, ι2, rfl, hr2⟩
  have hcov := hcovX x
  have he := heX x
  have hhi := hhiX x
  have hres := hresX x
  have hRR := hRX x
  have hupd := hupdX x
  obtain ⟨stx, hstx⟩ : ∃ s, s = st' x := ⟨_, rfl⟩
  obtain ⟨udx, hudx⟩ : ∃ s, s = upd x := ⟨_, rfl⟩
  obtain ⟨Rx, hRx⟩ : ∃ s, s = R x := ⟨_, rfl⟩
  rw [← hstx] at hres hupd hr2
  rw [← hudx] at hcov hupd
  rw [← hRx] at hres hRR
  obtain ⟨v, v1, v2⟩ := results_allF hty hr2 hres
  have inRt : ∀ n, inR gl lo hi n = true ↔ hasB gl n = true ∨ (lo ≤ n ∧ n < hi) := fun n => by
    unfold inR; simp [Nat.ble_eq, Nat.blt_eq]
  obtain ⟨ι', hι'⟩ : ∃ ι' : Nat → Option IB, ι' = fun n => if inR gl lo hi n then ι2 n else ι n := ⟨_, rfl⟩
  have j1 : ∀ n, inR gl lo hi n = true → ι' n = ι2 n := fun n hn' => by rw [hι']; simp [hn']
  have j2 : ∀ n, inR gl lo hi n = false → ι' n = ι n := fun n h2 => by rw [hι']; simp [h2]
  -- what the names hold behind the call
  have notin : ∀ n, n ∉ udx.map (·.1) → updL st udx n = st n ∧ hasB gl n = false := fun n hn' => by
    refine ⟨updL_notin hn', ?_⟩
    cases hh : hasB gl n with
    | false => rfl
    | true => obtain ⟨b, hb'⟩ := hasB_iff.1 hh; exact absurd (hcov _ hb') hn'
  have notin2 : ∀ n b, n ∉ udx.map (·.1) → updL st udx n = some b → inR gl lo hi n = false := fun n b hn' hb' => by
    obtain ⟨e1, e2⟩ := notin n hn'
    rw [e1] at hb'
    cases hh : inR gl lo hi n with
    | false => rfl
    | true =>
      rcases (inRt n).1 hh with h | h
      · rw [h] at e2; cases e2
      · rw [(hnone n h.1 h.2).2] at hb'; cases hb'
  have isin : ∀ n b, n ∈ udx.map (·.1) → updL st udx n = some b → inR gl lo hi n = true ∧ gs stx n = some b ∧ b.inn (inR gl lo hi) = true := fun n b hn' hb' => by
    obtain ⟨ob, m1, m2⟩ := updL_mem (st := st) hn'
    rw [m2] at hb'
    obtain ⟨k1, k2⟩ := hupd _ m1
    obtain ⟨k3, k4⟩ := k2 b hb'
    exact ⟨(inRt n).2 k1, k3, k4⟩
  have own2 : ∀ b, Own ι' (updL st udx) b → (∃ n ib, (st n).isSome = true ∧ hasB gl n = false ∧ ι n = some ib ∧ 0 < ib.cap ∧ b = ib.blk) ∨ (∃ n0 ib, inR gl lo hi n0 = true ∧ (gs stx n0).isSome = true ∧ ι2 n0 = some ib ∧ 0 < ib.cap ∧ b = ib.blk) := by
    rintro b ⟨n, ib, h1, h2, h3, h4⟩
    by_cases hk : n ∈ udx.map (·.1)
    · cases hu : updL st udx n with
      | none => rw [hu] at h1; cases h1
      | some bb =>
        obtain ⟨k1, k2, k3⟩ := isin n bb hk hu
        exact .inr ⟨n, ib, k1, by rw [k2]; rfl, by rw [← j1 n k1]; exact h2, h3, h4⟩
    · cases hu : updL st udx n with
      | none => rw [hu] at h1; cases h1
      | some bb =>
        have k0 := notin2 n bb hk hu
        obtain ⟨e1, e2⟩ := notin n hk
        rw [e1] at hu
        exact .inl ⟨n, ib, by rw [hu]; rfl, e2, by rw [← j2 n k0]; exact h2, h3, h4⟩
  have own2' : ∀ b, (∃ n0 ib, inR gl lo hi n0 = true ∧ (gs stx n0).isSome = true ∧ ι2 n0 = some ib ∧ 0 < ib.cap ∧ b = ib.blk) → b < w'.heap.size ∧ ¬ B1 b ∧ (O1 b ∨ w.heap.size ≤ b) := by
    rintro b ⟨n0, ib, _, h2, h3, h4, h5⟩
    exact hr2.own b ⟨n0, ib, h2, h3, h4, h5⟩
  have sub1 : ∀ b, Fb c ι' (updL st udx) b → Fb c1 ι2 (gs stx) b := by
    intro b hb'
    rcases hb' with hb' | hb'
    · exact .inl (show B1 b by rw [hB1]; exact .inl hb')
    · rcases own2 b hb' with hh | hh
      · exact .inl (show B1 b by rw [hB1]; exact .inr hh)
      · obtain ⟨n0, ib0, k1, k2, k3, k4, k5⟩ := hh
        exact .inr ⟨n0, ib0, k2, k3, k4, k5⟩
  have keep2 : ∀ b, b < w.heap.size → ¬ O1 b → w'.heap[b]? = w.heap[b]? := fun b h1 h2 => hr2.keep b h1 h2
  have hgrow : Grows ι ι' := by
    intro n ib hi'
    cases hh : hasB gl n with
    | true =>
      obtain ⟨ib', g1, g2⟩ := hr2.grow n ib (by show ι1 n = some ib; rw [i1 n hh]; exact hi')
      exact ⟨ib', by rw [j1 n ((inRt n).2 (.inl hh))]; exact g1, g2⟩
    | false =>
      have : inR gl lo hi n = false := by
        cases hq : inR gl lo hi n with
        | false => rfl
        | true =>
          rcases (inRt n).1 hq with h | h
          · rw [h] at hh; cases hh
          · rw [(hnone n h.1 h.2).1] at hi'; cases hi'
      exact ⟨ib, by rw [j2 n this]; exact hi', .inl rfl⟩
  have hmb : ∀ b, ¬ Fb c ι st b → (w.heap[b]?).isSome = true → w'.heap[b]? = w.heap[b]? ∧ ¬ Fb c ι' (updL st udx) b := by
    intro b hF hz
    have hlt := isSome_lt hz
    refine ⟨keep2 b hlt (fun ho => hF (.inr (oOwn b ho))), fun hF' => ?_⟩
    rcases hF' with hF' | hF'
    · exact hF (.inl hF')
    · rcases own2 b hF' with ⟨n, ib, k1, _, k3, k4, k5⟩ | hh
      · exact hF (.inr ⟨n, ib, k1, k3, k4, k5⟩)
      · obtain ⟨_, _, o⟩ := own2' b hh
        rcases o with o | o
        · exact hF (.inr (oOwn b o))
        · omega
  have key : a'.defers = [] ∧ ∃ v, (results fn a'.tmps).run c.P w' = .ok v w' ∧ (∃ v' ι', Ending.returned v = .returned v' ∧ Rel c.bare (fun n => dom n ∨ (lo ≤ n ∧ n < hi)) ι' act0 w' any0 (updL st udx) ∧ Rep w' (Fb c ι' (updL st udx)) ι' v' Rx ∧ ∀ v d, Rep w (Fb c ι st) ι v d → Rep w' (Fb c ι' (updL st udx)) ι' v d) := by
    refine ⟨hr2.defers, v, v1, v, ι', rfl, ?_, ?_, fun v d hv => hv.mono hmb hgrow⟩
    · refine ⟨rfl, rfl, fun t => .pure _ _ (.any _), fun n b hnb => ?_, fun n m h1 h2 hne ib ib' k1 k2 k3 k4 => ?_, fun n hn' => ?_, hr2.os.trans hr.os, hr2.tape.trans hr.tape, hr2.output.trans hr.output, Nat.le_trans hr.hsize hr2.hsize, fun b h1 h2 => ?_, hr.low, fun b hb' => ?_, fun g row hg => (hr.glob g row hg).mono hmb, hr.grow.trans hgrow⟩
      · by_cases hk : n ∈ udx.map (·.1)
        · obtain ⟨k1, k2, k3⟩ := isin n b hk hnb
          exact ((hr2.blk n b k2).forb (F' := Fb c ι' (updL st udx)) sub1).res k3 k1 (fun n ib hp hi => by rw [j1 n hp]; exact hi)
        · have k0 := notin2 n b hk hnb
          obtain ⟨e1, e2⟩ := notin n hk
          rw [e1] at hnb
          refine (hr.blk n b hnb).mono hmb hgrow (j2 n k0) (fun ib hi hc => ?_)
          have ho : Own ι st ib.blk := ⟨n, ib, by rw [hnb]; rfl, hi, hc, rfl⟩
          exact keep2 _ (hr.own _ ho).1 (disj _ (by rw [hB1]; exact .inr ⟨n, ib, by rw [hnb]; rfl, e2, hi, hc, rfl⟩))
      · have cls : ∀ n ib, (updL st udx n).isSome = true → ι' n = some ib → 0 < ib.cap → ((st n).isSome = true ∧ hasB gl n = false ∧ ι n = some ib) ∨ (inR gl lo hi n = true ∧ (gs stx n).isSome = true ∧ ι2 n = some ib) := by
          intro n ib h1 h2 h3
          by_cases hk : n ∈ udx.map (·.1)
          · cases hu : updL st udx n with
            | none => rw [hu] at h1; cases h1
            | some bb =>
              obtain ⟨k1, k2, k3⟩ := isin n bb hk hu
              exact .inr ⟨k1, by rw [k2]; rfl, by rw [← j1 n k1]; exact h2⟩
          · cases hu : updL st udx n with
            | none => rw [hu] at h1; cases h1
            | some bb =>
              have k0 := notin2 n bb hk hu
              obtain ⟨e1, e2⟩ := notin n hk
              rw [e1] at h1
              exact .inl ⟨h1, e2, by rw [← j2 n k0]; exact h2⟩
        rcases cls n ib h1 k1 k3 with ⟨a1, a2, a3⟩ | ⟨a1, a3, a4⟩ <;> rcases cls m ib' h2 k2 k4 with ⟨b1, b2, b3⟩ | ⟨b1, b3, b4⟩
        · exact hr.inj n m a1 b1 hne ib ib' a3 b3 k3 k4
        · intro e
          have h3 : B1 ib.blk := by rw [hB1]; exact .inr ⟨n, ib, a1, a2, a3, k3, rfl⟩
          exact (own2' ib'.blk ⟨m, ib', b1, b3, b4, k4, rfl⟩).2.1 (e ▸ h3)
        · intro e
          have h3 : B1 ib'.blk := by rw [hB1]; exact .inr ⟨m, ib', b1, b2, b3, k4, rfl⟩
          exact (own2' ib.blk ⟨n, ib, a1, a3, a4, k3, rfl⟩).2.1 (e ▸ h3)
        · exact hr2.inj n m a3 b3 hne ib ib' a4 b4 k3 k4
      · by_cases e : lo ≤ n ∧ n < hi
        · exact .inr e
        · left
          cases hh : hasB gl n with
          | false =>
            have : inR gl lo hi n = false := by
              cases hq : inR gl lo hi n with
              | false => rfl
              | true =>
                rcases (inRt n).1 hq with h | h
                · rw [h] at hh; cases hh
                · exact absurd h e
            exact hr.dom n (by rw [← j2 n this]; exact hn')
          | true =>
            obtain ⟨b, e1, e2⟩ := hsome n hh
            have hbr := hr.blk n b e2
            cases b with
            | box cs => obtain ⟨ib, _, _, k1, _⟩ := hbr; exact hr.dom n (by rw [k1]; rfl)
            | arr es rows => obtain ⟨ib, k1, _⟩ := hbr; exact hr.dom n (by rw [k1]; rfl)
            | obj q => obtain ⟨ib, o, k1, _⟩ := hbr; exact hr.dom n (by rw [k1]; rfl)
            | mp ks cs => obtain ⟨ib, es, ck, k1, _⟩ := hbr; exact hr.dom n (by rw [k1]; rfl)
            | deck sc => obtain ⟨ib, v0, ty, xs, i, s, k1, _⟩ := hbr; exact hr.dom n (by rw [k1]; rfl)
      · have hsz0 : c.w0.heap.size ≤ w.heap.size := hr.hsize
        have h1' : b < c.w0.heap.size := h1
        rw [keep2 b (by omega) (fun ho => by
          have := (hr.own b (oOwn b ho)).2.2
          rcases this with h | h
          · exact h2 h
          · exact absurd h1' (Nat.not_lt.2 h))]
        exact hr.keep b h1 h2
      · rcases own2 b hb' with ⟨n, ib, k1, _, k3, k4, k5⟩ | hh
        · obtain ⟨o1, o2⟩ := hr.own b ⟨n, ib, k1, k3, k4, k5⟩
          exact ⟨Nat.lt_of_lt_of_le o1 hr2.hsize, o2⟩
        · obtain ⟨o1, o2, o3⟩ := own2' b hh
          refine ⟨o1, fun hcB => o2 (by rw [hB1]; exact .inl hcB), ?_⟩
          rcases o3 with o | o
          · exact (hr.own b (oOwn b o)).2.2
          · exact .inr (Nat.le_trans hr.hsize o)
    · exact (v2.mono (fun b h1 _ => ⟨rfl, fun h2 => h1 (sub1 b h2)⟩) (Grows.refl _)).res hRR (fun n ib hp hi => by rw [j1 n hp]; exact hi)
  rcases he with he | he
  all_goals
    rw [he]
    obtain ⟨k1, v, k2, v', ι', k3, k4, k5, k6⟩ := key
    rw [hudx] at k4 k5 k6
    rw [hRx] at k5
    exact ⟨k1, v, k2, x, v', ι', k3, k4, k5, k6⟩

end
end Go.Proofs.YtpdhikjfdjjjlaaGreatDoor.AL
namespace Go.Proofs.YtpdhikjfdjjjlaaGreatDoor.AL
open Go Go.RowKit
/-! Runs that end in one of some states. -/
structure OutX where
  e : Exit
  s : ES
def digB (l p q : List UInt8) : Bool := match l.drop p.length with
  | b :: r => decide (l.take p.length = p) && (decide (r = q) && (Nat.ble 49 b.toNat && Nat.ble b.toNat 57))
  | [] => false
theorem digB_ok {l p q : List UInt8} (h : digB l p q = true) : ∃ b : UInt8, l = p ++ b :: q ∧ 49 ≤ b.toNat ∧ b.toNat ≤ 57 := by
  unfold digB at h
  split at h
  · rename_i b r e
    simp only [Bool.and_eq_true, decide_eq_true_eq, Nat.ble_eq] at h
    obtain ⟨h1, rfl, h3, h4⟩ := h
    exact ⟨b, by rw [← e]; conv => lhs; rw [← List.take_append_drop p.length l, h1], h3, h4⟩
  · cases h
mutual
/-- Data that say no more than others. -/
def leD : D → D → Bool
  | _, .any => true
  | .bool a, .bool b => a == b
  | .int k a, .int k' b => decide (k = k') && decide (a = b)
  | .int k a, .rng k' lo hi => decide (k = k') && (decide (lo ≤ a) && decide (a ≤ hi))
  | .rng k a c, .rng k' lo hi => decide (k = k') && (decide (lo ≤ a) && decide (c ≤ hi))
  | .str a, .str b => decide (a.data.toList = b.data.toList)
  | .str a, .strg p q => digB a.data.toList p.data.toList q.data.toList
  | .strg a c, .strg b d => decide (a.data.toList = b.data.toList) && decide (c.data.toList = d.data.toList)
  | .np, .np | .nils, .nils | .nilf, .nilf | .nili, .nili | .sle, .sle => true
  | .sl a, .sl b => leDss a b
  | .vp a, .vp b | .agg a, .agg b | .tup a, .tup b => leDs a b
  | .bp n o, .bp n' o' => Nat.beq n n' && Nat.beq o o'
  | .ap n h i o, .ap n' h' i' o' => Nat.beq n n' && Nat.beq h h' && Nat.beq i i' && Nat.beq o o'
  | .os n h i o, .os n' h' i' o' => Nat.beq n n' && Nat.beq h h' && Nat.beq i i' && Nat.beq o o'
  | .rf n a, .rf n' b => Nat.beq n n' && a == b
  | _, _ => false
def leDs : List D → List D → Bool
  | [], [] => true
  | a :: as, b :: bs => leD a b && leDs as bs
  | _, _ => false
def leDss : List (List D) → List (List D) → Bool
  | [], [] => true
  | a :: as, b :: bs => leDs a b && leDss as bs
  | _, _ => false
end
/-- The same, as it is said of values. -/
structure LeV (a b : D) : Prop where
  p : ∀ w F v, RepP w F v a → RepP w F v b
  r : Le a b
theorem LeV.any (a : D) : LeV a .any := ⟨fun _ _ v _ => .any v, Le.any a⟩
theorem LeV.refl (a : D) : LeV a a := ⟨fun _ _ _ h => h, Le.refl a⟩
theorem LeV.flat {a b : D} (h : ∀ w F v, RepP w F v a → RepP w F v b) (hc : ∀ w F ι v, Rep w F ι v a → RepP w F v a) : LeV a b := ⟨h, fun w F ι v hr => .pure _ _ (h w F v (hc w F ι v hr))⟩
mutual
theorem leD_ok : ∀ {a b : D}, leD a b = true → LeV a b
  | a, .any, _ => LeV.any a
  | .bool a, b, h => by cases b <;> simp [leD] at h <;> first | (subst h; exact LeV.refl _) | exact LeV.any _
  | .int k a, b, h => by
    cases b <;> simp [leD] at h
    · exact LeV.any _
    · obtain ⟨rfl, rfl⟩ := h; exact LeV.refl _
    · obtain ⟨rfl, h1, h2⟩ := h
      exact LeV.flat (fun w F v hr => by cases hr; exact .rng _ _ _ _ h1 h2) (fun w F ι v hr => by cases hr with | pure _ _ h => exact h)
  | .rng k a c, b, h => by
    cases b <;> simp [leD] at h
    · exact LeV.any _
    · obtain ⟨rfl, h1, h2⟩ := h
      exact LeV.flat (fun w F v hr => by cases hr; exact .rng _ _ _ _ (by omega) (by omega)) (fun w F ι v hr => by cases hr with | pure _ _ h => exact h)
  | .str a, b, h => by
    cases b <;> simp [leD] at h
    · exact LeV.any _
    · rename_i c
      obtain ⟨a⟩ := a
      obtain ⟨c⟩ := c
      simp at h
      rw [h]; exact LeV.refl _
    · obtain ⟨b, e, h1, h2⟩ := digB_ok h
      exact LeV.flat (fun w F v hr => by cases hr; exact .strg _ _ _ b h1 h2 e) (fun w F ι v hr => by cases hr with | pure _ _ h => exact h)
  | .strg a c, b, h => by
    cases b <;> simp [leD] at h
    · exact LeV.any _
    · rename_i b d
      obtain ⟨a⟩ := a
      obtain ⟨b⟩ := b
      obtain ⟨c⟩ := c
      obtain ⟨d⟩ := d
      simp at h
      rw [h.1, h.2]; exact LeV.refl _
  | .np, b, h => by cases b <;> simp [leD] at h <;> first | exact LeV.refl _ | exact LeV.any _
  | .nils, b, h => by cases b <;> simp [leD] at h <;> first | exact LeV.refl _ | exact LeV.any _
  | .nilf, b, h => by cases b <;> simp [leD] at h <;> first | exact LeV.refl _ | exact LeV.any _
  | .nili, b, h => by cases b <;> simp [leD] at h <;> first | exact LeV.refl _ | exact LeV.any _
  | .sle, b, h => by cases b <;> simp [leD] at h <;> first | exact LeV.refl _ | exact LeV.any _
  | .sl a, b, h => by
    cases b <;> simp [leD] at h
    · exact LeV.any _
    · rename_i c
      obtain ⟨h1, h2⟩ := leDss_ok h
      refine LeV.flat (fun w F v hr => ?_) (fun w F ι v hr => hr.is_sl)
      generalize hd : D.sl a = d at hr
      cases hr <;> first | (cases hd; done) | skip
      · cases hd
        have : c = [] := List.length_eq_zero_iff.1 (by rw [← h1]; rfl)
        subst this
        exact .sl0 _ _ (by assumption)
      · rename_i b off es cap rows vs hc hF hes hm hz hr
        cases hd
        rw [h1]
        refine .sl b off es cap c vs (by omega) hF (fun r hr' => ?_) (fun i j hi hj => hm i j (by omega) hj) hz (fun i hi j hj => ?_)
        · obtain ⟨i, hi, rfl⟩ := List.getElem_of_mem hr'
          rw [← (h2 i (by omega) hi).1]
          exact hes _ (List.getElem_mem _)
        · obtain ⟨k1, k2⟩ := h2 i (by omega) hi
          exact (k2 j (by omega) hj).p _ _ _ (hr i (by omega) j (by omega))
  | .vp a, b, h => by
    cases b <;> simp [leD] at h
    · exact LeV.any _
    · rename_i c
      obtain ⟨h1, h2⟩ := leDs_ok h
      refine LeV.flat (fun w F v hr => ?_) (fun w F ι v hr => hr.is_vp)
      cases hr with
      | vp b off row vs hF hm hz hr => exact .vp b off c vs hF (fun j hj => hm j (by omega)) hz (fun j hj => (h2 j (by omega) hj).p _ _ _ (hr j (by omega)))
  | .agg a, b, h => by
    cases b <;> simp [leD] at h
    · exact LeV.any _
    · rename_i c
      obtain ⟨h1, h2⟩ := leDs_ok h
      have hp : ∀ w F v, RepP w F v (.agg a) → RepP w F v (.agg c) := fun w F v hr => by
        cases hr with
        | agg cs ds hl h => exact .agg cs c (by omega) (fun i hi => (h2 i (by omega) hi).p _ _ _ (h i (by omega)))
      refine ⟨hp, fun w F ι v hr => ?_⟩
      cases hr with
      | pure _ _ h => exact .pure _ _ (hp _ _ _ h)
      | agg cs ds hl h => exact .agg cs c (by omega) (fun i hi => (h2 i (by omega) hi).r _ _ _ _ (h i (by omega)))
  | .tup a, b, h => by
    cases b <;> simp [leD] at h
    · exact LeV.any _
    · rename_i c
      obtain ⟨h1, h2⟩ := leDs_ok h
      have hp : ∀ w F v, RepP w F v (.tup a) → RepP w F v (.tup c) := fun w F v hr => by
        cases hr with
        | tup cs ds hl h => exact .tup cs c (by omega) (fun i hi => (h2 i (by omega) hi).p _ _ _ (h i (by omega)))
      refine ⟨hp, fun w F ι v hr => ?_⟩
      cases hr with
      | pure _ _ h => exact .pure _ _ (hp _ _ _ h)
      | tup cs ds hl h => exact .tup cs c (by omega) (fun i hi => (h2 i (by omega) hi).r _ _ _ _ (h i (by omega)))
  | .bp n o, b, h => by
    cases b <;> simp [leD] at h
    · exact LeV.any _
    · rw [h.1, h.2]; exact LeV.refl _
  | .ap n a i o, b, h => by
    cases b <;> simp [leD] at h
    · exact LeV.any _
    · rw [h.1.1.1, h.1.1.2, h.1.2, h.2]; exact LeV.refl _
  | .os n a i o, b, h => by
    cases b <;> simp [leD] at h
    · exact LeV.any _
    · rw [h.1.1.1, h.1.1.2, h.1.2, h.2]; exact LeV.refl _
  | .rf n a, b, h => by
    cases b <;> simp [leD] at h
    · exact LeV.any _
    · rw [h.1, h.2]; exact LeV.refl _
  | .fn _ _ _, b, h => by cases b <;> simp [leD] at h; exact LeV.any _
  | .ifc _ _, b, h => by cases b <;> simp [leD] at h; exact LeV.any _
  | .any, b, h => by cases b <;> simp [leD] at h; exact LeV.any _
theorem leDs_ok : ∀ {a b : List D}, leDs a b = true → a.length = b.length ∧ ∀ i (h1 : i < a.length) (h2 : i < b.length), LeV a[i] b[i]
  | [], [], _ => ⟨rfl, fun i h => absurd h (Nat.not_lt_zero _)⟩
  | a :: as, b :: bs, h => by
    simp only [leDs, Bool.and_eq_true] at h
    obtain ⟨h1, h2⟩ := leDs_ok h.2
    refine ⟨by simp [h1], fun i i1 i2 => ?_⟩
    cases i with
    | zero => exact leD_ok h.1
    | succ i => exact h2 i (by simpa using i1) (by simpa using i2)
  | [], _ :: _, h => by cases h
  | _ :: _, [], h => by cases h
theorem leDss_ok : ∀ {a b : List (List D)}, leDss a b = true → a.length = b.length ∧ ∀ i (h1 : i < a.length) (h2 : i < b.length), a[i].length = b[i].length ∧ ∀ j (k1 : j < a[i].length) (k2 : j < b[i].length), LeV a[i][j] b[i][j]
  | [], [], _ => ⟨rfl, fun i h => absurd h (Nat.not_lt_zero _)⟩
  | a :: as, b :: bs, h => by
    simp only [leDss, Bool.and_eq_true] at h
    obtain ⟨h1, h2⟩ := leDss_ok h.2
    refine ⟨by simp [h1], fun i i1 i2 => ?_⟩
    cases i with
    | zero => exact leDs_ok h.1
    | succ i => exact h2 i (by simpa using i1) (by simpa using i2)
  | [], _ :: _, h => by cases h
  | _ :: _, [], h => by cases h
end
def leSM : SM → SM → Bool
  | _, .lf => true
  | .nd d l r, .nd d' l' r' => leD d d' && leSM l l' && leSM r r'
  | .lf, .nd _ _ _ => false
theorem leSM_ok : ∀ {m m' : SM}, leSM m m' = true → ∀ t, Le (m.get t) (m'.get t)
  | m, .lf, _, t => by simp only [SM.get]; exact Le.any _
  | .nd d l r, .nd d' l' r', h, t => by
    simp only [leSM, Bool.and_eq_true] at h
    cases t with
    | zero => exact (leD_ok h.1.1).r
    | succ t =>
      simp only [SM.get]
      cases Nat.beq (Nat.mod t 2) 0 with
      | true => exact leSM_ok h.1.2 _
      | false => exact leSM_ok h.2 _
  | .lf, .nd _ _ _, h, _ => by cases h
def leB : Blk → Blk → Bool
  | .box a, .box b => leDs a b
  | .arr es a, .arr es' b => Nat.beq es es' && leDss a b
  | .deck _, .deck [] => true
  | _, _ => false
theorem leB_ok {b b' : Blk} (h : leB b b' = true) {w : World} {F : Nat → Prop} {ι : Nat → Option IB} {n : Nat} (hb : BlkRep w F ι n b) : BlkRep w F ι n b' := by
  unfold leB at h
  split at h
  · obtain ⟨h1, h2⟩ := leDs_ok h
    obtain ⟨ib, vs, ty, k1, k2, k3, k4, k5, k6⟩ := hb
    exact ⟨ib, vs, ty, k1, k2, k3, k4, by omega, fun i hi => (h2 i (by omega) hi).r _ _ _ _ (k6 i (by omega))⟩
  · simp only [Bool.and_eq_true, Nat.beq_eq] at h
    obtain ⟨rfl, h⟩ := h
    obtain ⟨h1, h2⟩ := leDss_ok h
    rename_i es a b
    obtain ⟨ib, k1, k2, k3, k4, k5, k6, k7⟩ := hb
    refine ⟨ib, k1, k2, k3, by omega, by omega, fun r hr => ?_, fun hc => ?_⟩
    · obtain ⟨i, hi, rfl⟩ := List.getElem_of_mem hr
      rw [← (h2 i (by omega) hi).1]
      exact k6 _ (List.getElem_mem _)
    · obtain ⟨vs, ty, q1, q2, q3⟩ := k7 hc
      refine ⟨vs, ty, q1, q2, fun i hi j hj hbi => ?_⟩
      obtain ⟨e1, e2⟩ := h2 i (by omega) hi
      exact (e2 j (by omega) hj).p _ _ _ (q3 i (by omega) j (by omega) hbi)
  · obtain ⟨ib, v0, ty, xs, i, s, k1, k2, k3, k4, k5, k6, k7, k8, k9, _⟩ := hb
    exact ⟨ib, v0, ty, xs, i, s, k1, k2, k3, k4, k5, k6, k7, k8, k9, trivial⟩
  · cases h
/-- What the names hold may be said otherwise. -/
theorem Rel.reB {c : Ctx} {dom : Nat → Prop} {ι : Nat → Option IB} {a : Act} {w : World} {σ : Nat → D} {st st' : Nat → Option Blk} (h : Rel c dom ι a w σ st) (hd : ∀ n, (st' n).isSome = (st n).isSome) (hb : ∀ n b', st' n = some b' → ∃ b, st n = some b ∧ (BlkRep w (Fb c ι st) ι n b → BlkRep w (Fb c ι st) ι n b')) : Rel c dom ι a w σ st' := by
  have ho : Own ι st' = Own ι st := by
    funext b
    unfold Own
    simp only [hd]
  have hF : Fb c ι st' = Fb c ι st := by unfold Fb; rw [ho]
  refine ⟨h.size, h.defers, fun t => by rw [hF]; exact h.env t, fun n b' hn => ?_, fun n m h1 h2 => h.inj n m (by rw [← hd]; exact h1) (by rw [← hd]; exact h2), h.dom, h.os, h.tape, h.output, h.hsize, h.keep, h.low, fun b hb' => h.own b (by rw [← ho]; exact hb'), fun g row hg => by rw [hF]; exact h.glob g row hg, h.grow⟩
  rw [hF]
  obtain ⟨b, h1, h2⟩ := hb n b' hn
  exact h2 (h.blk n b h1)
def leSt (st st' : St) : Bool := st'.all fun p => match gs st p.1 with | some b => leB b p.2 | none => false
def leES (s s' : ES) : Bool := Nat.ble s.nx s'.nx && leSM s.σ s'.σ && leSt s.st s'.st
theorem Rel.leES {c : Ctx} {ι : Nat → Option IB} {a : Act} {w : World} {s s' : ES} (h : Rel c (· < s.nx) ι a w s.σ.get (gs s.st)) (hl : leES s s' = true) : Rel c (· < s'.nx) ι a w s'.σ.get (gs s'.st) := by
  simp only [Go.Proofs.YtpdhikjfdjjjlaaGreatDoor.AL.leES, Bool.and_eq_true, Nat.ble_eq] at hl
  obtain ⟨⟨h1, h2⟩, h3⟩ := hl
  have h4 : ∀ n b', gs s'.st n = some b' → ∃ b, gs s.st n = some b ∧ leB b b' = true := by
    intro n b' hn
    unfold leSt at h3
    rw [List.all_eq_true] at h3
    have := h3 _ (gs_mem hn)
    simp only at this
    cases hg : gs s.st n with
    | none => rw [hg] at this; cases this
    | some b => rw [hg] at this; exact ⟨b, rfl, this⟩
  have hr1 := h.drop (st' := fun n => match gs s'.st n with | some _ => gs s.st n | none => none) (fun n b hn => by
    cases hg : gs s'.st n with
    | none => simp only [hg] at hn; cases hn
    | some _ => simp only [hg] at hn; exact hn)
  refine (hr1.reB (st' := gs s'.st) (fun n => ?_) (fun n b' hn => ?_)).weaken (leSM_ok h2) (fun n hn => by show n < s'.nx; have : n < s.nx := hn; omega)
  · cases hg : gs s'.st n with
    | none => rfl
    | some b' => obtain ⟨b, e, _⟩ := h4 n b' hg; simp only [e]; rfl
  · obtain ⟨b, e, hb⟩ := h4 n b' hn
    exact ⟨b, by simp only [hn]; exact e, leB_ok hb⟩
/-- A deck's next numbers, for the bounds that will be asked: each number apart, or its bounds alone. -/
def scripts : List (Int × Bool) → List (List (Int × Int × Int))
  | [] => [[]]
  | (a, true) :: l => (List.range a.toNat).flatMap fun (v : Nat) => (scripts l).map ((a, (v : Int), (v : Int)) :: ·)
  | (a, false) :: l => (scripts l).map ((a, 0, a - 1) :: ·)
theorem scripts_cover {xs : List Int} : ∀ (l : List (Int × Bool)) (i : Nat) (s : Int), (l.all fun p => decide (1 ≤ p.1)) = true → ∃ sc ∈ scripts l, SOK xs i s sc
  | [], i, s, _ => ⟨[], by simp [scripts], trivial⟩
  | (a, b) :: l, i, s, h => by
    simp only [List.all_cons, Bool.and_eq_true, decide_eq_true_eq] at h
    obtain ⟨sc, h1, h2⟩ := scripts_cover l (deckI xs i) (deckS xs i s) h.2
    have v0 : 0 ≤ deckV (deckS xs i s) a := Int.emod_nonneg _ (by omega)
    have v1 : deckV (deckS xs i s) a < a := Int.emod_lt_of_pos _ (by omega)
    cases b with
    | true =>
      refine ⟨(a, deckV (deckS xs i s) a, deckV (deckS xs i s) a) :: sc, ?_, Int.le_refl _, Int.le_refl _, h2⟩
      simp only [scripts, List.mem_flatMap, List.mem_range, List.mem_map]
      refine ⟨(deckV (deckS xs i s) a).toNat, by omega, sc, h1, ?_⟩
      rw [Int.toNat_of_nonneg v0]
    | false => exact ⟨(a, 0, a - 1) :: sc, by simp only [scripts, List.mem_map]; exact ⟨sc, h1, rfl⟩, v0, by omega, h2⟩

/-- What to do where a run may go on in more than one way: for a function (by its number of slots) and a region, the bounds asked of a deck; the regions with a call that ends in one of some ways; the functions that do. -/
structure Fk where
  fork : Nat → Nat → Option (List (Int × Bool))
  many : Nat → Nat → Bool
  fn : Nat → Bool
  mrg : List OutX → List OutX
def isDeck : Option Blk → Bool
  | some (.deck _) => true
  | _ => false
def findDeck : St → Option Nat
  | [] => none
  | (n, .deck []) :: _ => some n
  | _ :: l => findDeck l
theorem findDeck_ok : ∀ {st : St} {n : Nat}, findDeck st = some n → ∃ b, (n, b) ∈ st
  | [], _, h => by cases h
  | (m, b) :: l, n, h => by
    unfold findDeck at h
    split at h
    · rename_i e; cases e
    · rename_i e; injection e with e1 e2; cases h; cases e1; exact ⟨_, List.mem_cons_self⟩
    · rename_i e; injection e with e1 e2; subst e1; subst e2
      obtain ⟨b', hb⟩ := findDeck_ok h
      exact ⟨b', List.mem_cons_of_mem _ hb⟩
def bindO : List OutX → (ES → Option (List OutX)) → Option (List OutX)
  | [], _ => some []
  | o :: O, g => match (match o.e with | .normal => g o.s | _ => some [o]), bindO O g with
    | some A, some B => some (A ++ B)
    | _, _ => none
def blockO (i : Nat) (O : List OutX) : List OutX := O.map fun o => match o.e with | .exit j => cond (Nat.beq i j) ⟨.normal, o.s⟩ o | _ => o
def eqE : Exit → Exit → Bool
  | .normal, .normal | .ret, .ret => true
  | .exit i, .exit j => Nat.beq i j
  | _, _ => false
theorem eqE_ok {a b : Exit} (h : eqE a b = true) : a = b := by
  unfold eqE at h
  split at h <;> first | rfl | (rw [Nat.beq_eq] at h; subst h; rfl) | cases h
def hasB' (N : Nat) (m : SM) : Bool := (List.range N).all m.has
/-- Outcomes may be said by fewer ones. -/
def mergeO (N : Nat) (mrg : List OutX → List OutX) (O : List OutX) : List OutX :=
  cond ((mrg O).all (fun o => hasB' N o.s.σ && o.s.mm.isEmpty) && O.all fun o => (mrg O).any fun o' => eqE o.e o'.e && leES o.s o'.s) (mrg O) O
section
variable (Ty : Nat → Option TyI) (G : Nat → Option (List D)) (M : Mo) (K : Fk) (ev : Nat → Code → ES → Res) (el : Nat → Code → ES → Option (List OutX))
def maxNx (O : List OutX) : Nat := O.foldl (fun m o => Nat.max m o.s.nx) 0
/-- A function that ends in one of some ways. -/
def evMany (k : Nat) (A : List D) (gl : St) (lo : Nat) : Option (List CO) :=
  match M.fns k with
  | none => none
  | some f =>
    if A.length ≤ f.ntmps ∧ D.inns (hasB gl) A = true ∧ (gl.all fun p => p.2.inn (hasB gl) && Nat.blt p.1 lo) = true then
      match el f.ntmps f.body ⟨lo, SM.args A 0 (SM.full (depthOf f.ntmps)), gl, []⟩ with
      | none => none
      | some O =>
        let hi := maxNx O
        mapO (fun (o : OutX) => match o.e, resRF Ty f.results o.s.σ.get o.s.st with
          | .exit _, _ | .goto _, _ | .panic _, _ | .outgrown, _ | _, none => none
          | _, some R =>
            let new := pickN (seen (gs o.s.st) 100 (namesD R ++ gl.map (·.1)) []) (gs o.s.st)
            let upd := gl.map (fun p => (p.1, gs o.s.st p.1)) ++ (new.filter (fun p => !hasB gl p.1)).map (fun p => (p.1, some p.2))
            if lo ≤ hi ∧ R.inn (inR gl lo hi) = true ∧ (upd.all fun q => inR gl lo hi q.1 && (match q.2 with | some b => b.inn (inR gl lo hi) | none => true)) = true then some ⟨R, upd, gl.map (·.1), hi, []⟩ else none) O
    else none
def evSeqM (N : Nat) (ops : List Oper) : List Oper → ES → Option (List ES)
  | [], s => some [s]
  | o :: rest, s =>
    match wantS ops s.σ o with
    | none => none
    | some false => if dstOK N o.dst then evSeqM N ops rest { s with σ := s.σ.setO o.dst (.tup []) } else none
    | some true =>
      let one (_ : Unit) : Option (List ES) :=
        let s := thawN (needs G M o s) s
        match evOp Ty G M ev o s with
        | none => none
        | some r => if dstOK N o.dst then evSeqM N ops rest ⟨r.nx, s.σ.setO o.dst r.v, putS s.st r.upd, r.mm⟩ else none
      match o.op with
      | .call { callee := .value f, args, .. } => match opD G s.σ.get f with
        | .fn (.func k) d1 d2 => cond (K.fn k) (
            let A := d1 ++ args.toList.map (opD G s.σ.get) ++ d2
            let L := seen (gs s.st) 100 (namesL A) []
            match evMany Ty M el k A (pickN L (gs s.st)) s.nx with
            | none => none
            | some cs => if dstOK N o.dst then (mapO (fun (r : CO) => evSeqM N ops rest ⟨r.nx, s.σ.setO o.dst r.v, putS s.st r.upd, s.mm⟩) cs).map List.flatten else none) (one ())
        | _ => one ()
      | _ => one ()
end
def evL (Ty : Nat → Option TyI) (G : Nat → Option (List D)) (M : Mo) (K : Fk) : Nat → Nat → Code → ES → Option (List OutX)
  | 0, _, _, _ => none
  | f + 1, N, c, s => match c with
    | .skip => some [⟨.normal, s⟩]
    | .label _ => some [⟨.normal, s⟩]
    | .ret => some [⟨.ret, s⟩]
    | .exit i => some [⟨.exit i, s⟩]
    | .seq a b => (match evL Ty G M K f N a s with | some O => (match bindO O (evL Ty G M K f N b) with | some O => some (mergeO N K.mrg O) | none => none) | none => none)
    | .cond c x y => (match opD G s.σ.get c with | .bool b => cond b (evL Ty G M K f N x s) (evL Ty G M K f N y s) | _ => none)
    | .block i x => (evL Ty G M K f N x s).map (blockO i)
    | .loop b => (match evL Ty G M K f N b s with | some O => bindO O (evL Ty G M K f N (.loop b)) | none => none)
    | .region id ops draw => match K.fork N id with
      | some l => match findDeck s.st with
        | some n => cond ((l.all fun p => decide (1 ≤ p.1)) && isDeck (gs s.st n)) (mapO (fun sc => match evS Ty G M f N (.region id ops draw) { s with st := putS s.st [(n, some (.deck sc))] } with | .nrm s' => some ⟨.normal, s'⟩ | _ => none) (scripts l)) none
        | none => none
      | none => cond (K.many N id && !draw) ((evSeqM Ty G M K (evS Ty G M f) (evL Ty G M K f) N ops.toList ops.toList s).map (·.map (⟨.normal, ·⟩))) (match evS Ty G M f N (.region id ops draw) s with | .nrm s' => some [⟨.normal, s'⟩] | _ => none)
    | _ => none
end Go.Proofs.YtpdhikjfdjjjlaaGreatDoor.AL
namespace Go.Proofs.YtpdhikjfdjjjlaaGreatDoor.AL
open Go Go.RowKit
def EvM (P : Program) (G : Nat → Option (List D)) (N : Nat) (code : Code) (s : ES) (O : List OutX) : Prop :=
  ∀ B w0 Ow df ι0 ι a w, Rel ⟨P, G, N, B, w0, Ow, df, ι0⟩ (· < s.nx) ι a w s.σ.get (gs s.st) → code.wp P (fun e a' w' => ∃ o ∈ O, e = o.e ∧ ∃ ι', Rel ⟨P, G, N, B, w0, Ow, df, ι0⟩ (· < o.s.nx) ι' a' w' o.s.σ.get (gs o.s.st)) a w
/-- A loop, from the beginning of a round on. -/
def EvML (P : Program) (G : Nat → Option (List D)) (N : Nat) (body : Code) (s : ES) (O : List OutX) : Prop :=
  ∀ B w0 Ow df ι0 ι a w, Rel ⟨P, G, N, B, w0, Ow, df, ι0⟩ (· < s.nx) ι a w s.σ.get (gs s.st) → ∀ b k cs, ∃ e1 a' w', (∃ o ∈ O, e1 = o.e ∧ ∃ ι', Rel ⟨P, G, N, B, w0, Ow, df, ι0⟩ (· < o.s.nx) ι' a' w' o.s.σ.get (gs o.s.st)) ∧ Arrives P (lone (b.at a (.code body :: .inLoop body :: k)) cs w) b k cs e1 a' w'
section
variable {P : Program} {G : Nat → Option (List D)} {N : Nat} {s : ES} {O O1 : List OutX}
theorem evm_one {c : Code} {e : Exit} {s' : ES} (h : Evs P G N c s.nx s.σ.get s.st e s'.nx s'.σ.get s'.st) : EvM P G N c s [⟨e, s'⟩] := by
  intro B w0 Ow df ι0 ι a w hr
  refine wp_mono (h B w0 Ow df ι0 ι a w hr) ?_
  rintro e1 a' w' ⟨ι', rfl, h1⟩
  exact ⟨_, List.mem_singleton.2 rfl, rfl, ι', h1⟩
theorem evm_mono {c : Code} (h : EvM P G N c s O1) (hs : ∀ o ∈ O1, ∃ o' ∈ O, o.e = o'.e ∧ ∀ {c ι a w}, Rel c (· < o.s.nx) ι a w o.s.σ.get (gs o.s.st) → Rel c (· < o'.s.nx) ι a w o'.s.σ.get (gs o'.s.st)) : EvM P G N c s O := by
  intro B w0 Ow df ι0 ι a w hr
  refine wp_mono (h B w0 Ow df ι0 ι a w hr) ?_
  rintro e1 a' w' ⟨o, ho, rfl, ι', h1⟩
  obtain ⟨o', k1, k2, k3⟩ := hs o ho
  exact ⟨o', k1, k2, ι', k3 h1⟩
theorem evm_sub {c : Code} (h : EvM P G N c s O1) (hs : ∀ o ∈ O1, o ∈ O) : EvM P G N c s O := evm_mono h (fun o ho => ⟨o, hs o ho, rfl, fun h => h⟩)
theorem evm_seq {x y : Code} (h : EvM P G N x s O1) (k : ∀ o ∈ O1, o.e = .normal → EvM P G N y o.s O) (k2 : ∀ o ∈ O1, o.e ≠ .normal → o ∈ O) : EvM P G N (.seq x y) s O := by
  intro B w0 Ow df ι0 ι a w hr
  refine wp_seq (wp_mono (h B w0 Ow df ι0 ι a w hr) ?_)
  rintro e1 a' w' ⟨o, ho, rfl, ι', h1⟩
  have k := k o ho
  have k2 := k2 o ho
  generalize he : o.e = e at *
  cases e with
  | normal => exact k rfl B w0 Ow df ι0 ι' a' w' h1
  | _ => exact ⟨o, k2 (by simp), he.symm, ι', h1⟩
theorem evm_cond {c : Operand} {x y : Code} {b : Bool} (hc : opD G s.σ.get c = .bool b) (h : EvM P G N (if b then x else y) s O) : EvM P G N (.cond c x y) s O := by
  intro B w0 Ow df ι0 ι a w hr
  have h0 := opD_rep hr c
  rw [show opD _ s.σ.get c = .bool b from hc] at h0
  refine wp_cond h0.is_bool ?_
  cases b with
  | true => exact h B w0 Ow df ι0 ι a w hr
  | false => exact h B w0 Ow df ι0 ι a w hr
theorem evm_block {id : Nat} {x : Code} (h : EvM P G N x s O) : EvM P G N (.block id x) s (blockO id O) := by
  intro B w0 Ow df ι0 ι a w hr
  refine wp_block (wp_mono (h B w0 Ow df ι0 ι a w hr) ?_)
  rintro e1 a' w' ⟨o, ho, rfl, ι', h1⟩
  have hm : (match o.e with | .exit j => cond (Nat.beq id j) (⟨.normal, o.s⟩ : OutX) o | _ => o) ∈ blockO id O := List.mem_map.2 ⟨o, ho, rfl⟩
  generalize he : o.e = e at *
  cases e with
  | exit j =>
    simp only at hm
    cases hb : Nat.beq id j with
    | true =>
      rw [hb] at hm
      have := Nat.eq_of_beq_eq_true hb
      subst this
      simp only [Exit.inBlock, if_true]
      exact ⟨_, hm, rfl, ι', h1⟩
    | false =>
      rw [hb] at hm
      have := Nat.ne_of_beq_eq_false hb
      simp only [Exit.inBlock, if_neg (Ne.symm this)]
      exact ⟨o, hm, he.symm, ι', h1⟩
  | _ => exact ⟨o, hm, he.symm, ι', h1⟩
theorem evml_next {body : Code} (h : EvM P G N body s O1) (k : ∀ o ∈ O1, o.e = .normal → EvML P G N body o.s O) (k2 : ∀ o ∈ O1, o.e ≠ .normal → o ∈ O) : EvML P G N body s O := by
  intro B w0 Ow df ι0 ι a w hr b q cs
  obtain ⟨e1, a1, w1, ⟨o, ho, he, ι1, h1⟩, harr⟩ := h B w0 Ow df ι0 ι a w hr b (.inLoop body :: q) cs
  have k := k o ho
  have k2 := k2 o ho
  subst he
  by_cases hn : o.e = .normal
  · rw [hn] at harr
    obtain ⟨e2, a2, w2, hq2, harr2⟩ := k hn B w0 Ow df ι0 ι1 a1 w1 h1 b q cs
    exact ⟨e2, a2, w2, hq2, .of_steps (Steps.trans harr (.one step_inLoop)) harr2⟩
  · exact ⟨_, a1, w1, ⟨o, k2 hn, rfl, ι1, h1⟩, .pass (x := .inLoop body) rfl (fun _ _ => .inl hn) harr⟩
theorem evm_loop {body : Code} (h : EvML P G N body s O) : EvM P G N (.loop body) s O := by
  intro B w0 Ow df ι0 ι a w hr b q cs
  obtain ⟨e1, a1, w1, hq, harr⟩ := h B w0 Ow df ι0 ι a w hr b q cs
  exact ⟨e1, a1, w1, hq, .of_steps (.one step_loop) harr⟩
end
theorem bindO_ok {g : ES → Option (List OutX)} : ∀ {O R : List OutX}, bindO O g = some R →
    (∀ o ∈ O, o.e = .normal → ∃ A, g o.s = some A ∧ ∀ x ∈ A, x ∈ R) ∧ (∀ o ∈ O, o.e ≠ .normal → o ∈ R) ∧ ∀ r ∈ R, r ∈ O ∨ ∃ o ∈ O, ∃ A, g o.s = some A ∧ r ∈ A
  | [], R, h => by cases h; exact ⟨fun o ho => (by cases ho), fun o ho => (by cases ho), fun r hr => (by cases hr)⟩
  | o :: O, R, h => by
    simp only [bindO] at h
    split at h
    · rename_i A B hA hB
      cases h
      obtain ⟨i1, i2, i3⟩ := bindO_ok hB
      refine ⟨fun o' ho' hn => ?_, fun o' ho' hn => ?_, fun r hr => ?_⟩
      · rcases List.mem_cons.1 ho' with rfl | ho'
        · rw [hn] at hA
          exact ⟨A, hA, fun x hx => List.mem_append_left _ hx⟩
        · obtain ⟨A', k1, k2⟩ := i1 o' ho' hn
          exact ⟨A', k1, fun x hx => List.mem_append_right _ (k2 x hx)⟩
      · rcases List.mem_cons.1 ho' with rfl | ho'
        · have : A = [o'] := by
            split at hA
            · rename_i e; exact absurd e hn
            · cases hA; rfl
          subst this
          simp
        · exact List.mem_append_right _ (i2 o' ho' hn)
      · rcases List.mem_append.1 hr with hr | hr
        · split at hA
          · exact .inr ⟨o, by simp, A, hA, hr⟩
          · cases hA
            simp only [List.mem_singleton] at hr
            subst hr
            exact .inl (by simp)
        · rcases i3 r hr with h | ⟨o', k1, k2⟩
          · exact .inl (List.mem_cons_of_mem _ h)
          · exact .inr ⟨o', List.mem_cons_of_mem _ k1, k2⟩
    · cases h
theorem mapO_mem {α β : Type} {f : α → Option β} : ∀ {l : List α} {r : List β}, mapO f l = some r → (∀ a ∈ l, ∃ b ∈ r, f a = some b) ∧ ∀ b ∈ r, ∃ a ∈ l, f a = some b
  | [], r, h => by cases h; exact ⟨fun a ha => (by cases ha), fun b hb => (by cases hb)⟩
  | a :: l, r, h => by
    simp only [mapO] at h
    split at h
    · rename_i b bs hb hbs
      cases h
      obtain ⟨i1, i2⟩ := mapO_mem hbs
      refine ⟨fun x hx => ?_, fun y hy => ?_⟩
      · rcases List.mem_cons.1 hx with rfl | hx
        · exact ⟨b, by simp, hb⟩
        · obtain ⟨y, k1, k2⟩ := i1 x hx; exact ⟨y, List.mem_cons_of_mem _ k1, k2⟩
      · rcases List.mem_cons.1 hy with rfl | hy
        · exact ⟨a, by simp, hb⟩
        · obtain ⟨x, k1, k2⟩ := i2 y hy; exact ⟨x, List.mem_cons_of_mem _ k1, k2⟩
    · cases h
section
variable {P : Program} {G : Nat → Option (List D)} {o : Oper} {ρ : Operand → D} {g : Nat → Option Blk} {lo hi : Nat}
theorem do_callX {X : Type} {k : Nat} {f : Operand} {args : Array Operand} {tys : Array TypeId} {d1 d2 : List D} {R : X → D} {gl : List (Nat × Blk)} {upd : X → List (Nat × Option Blk)} (ho : o.op = .call { callee := .value f, args := args, argTypes := tys }) (hf : ρ f = .fn (.func k) d1 d2)
    (hp : ImpX P G k (d1 ++ args.toList.map ρ ++ d2) gl lo hi R upd) (hgl : ∀ p ∈ gl, g p.1 = some p.2) :
    ∀ c dom ι a w σ st (K : Act → World → Prop) Q, c.P = P → c.G = G → Rel c dom ι a w σ st → (∀ x, x ∈ o.op.operands → opD G σ x = ρ x) → (∀ n b, g n = some b → st n = some b) → (∀ n, lo ≤ n → n < hi → ¬ dom n) → (∀ t, o.dst = some t → t < c.N) →
      (∀ x a' w' ι', Rel c (fun n => dom n ∨ (lo ≤ n ∧ n < hi)) ι' a' w' (setO σ o.dst (R x)) (updL st (upd x)) → K a' w') → o.wp P a w K Q := by
  intro c dom ι a w σ st K Q hP hG hr hρ hg hnm hd hK
  have hG' := hG
  subst hG
  have hop : ∀ x ∈ args, x ∈ o.op.operands := fun x hx => by rw [ho]; simp [Op.operands, Call.operands, hx]
  have hvf := opD_rep hr f
  rw [hρ f (by rw [ho]; simp [Op.operands, Call.operands]), hf] at hvf
  obtain ⟨c1, c2, ef, h1, h2, r1, r2⟩ := hvf.is_fn
  obtain ⟨a1, a2⟩ := args_rep (ρ := ρ) (ev := a.eval) h1 h2 r1 r2 (fun x hx => by rw [← hρ x (hop x hx)]; exact opD_rep hr x)
  unfold Oper.wp
  rw [call_run ho ef hp.body]
  refine (hp.calls c dom ι w st _ hP hG' hr.bare (fun p hp' => hg _ _ (hgl p hp')) hnm a1 a2).mono ?_
  rintro e w' ⟨x, v, ι', rfl, hr', hv, hm⟩
  exact hK x _ _ ι' ((hr.dress hr' hm).put v (R x) hv o.dst hd)
end
def ML (P : Program) (G : Nat → Option (List D)) (N : Nat) (c : Code) (s : ES) (O : List OutX) : Prop := (∀ o ∈ O, HasN N o.s.σ ∧ MemOK P G o.s.mm) ∧ EvM P G N c s O ∧ ∀ b, c = .loop b → EvML P G N b s O
def ElOK (P : Program) (G : Nat → Option (List D)) (el : Nat → Code → ES → Option (List OutX)) : Prop := ∀ N c s O, HasN N s.σ → MemOK P G s.mm → el N c s = some O → ML P G N c s O
theorem hasB'_ok {N : Nat} {m : SM} (h : hasB' N m = true) : HasN N m := by
  intro t ht
  unfold hasB' at h
  rw [List.all_eq_true] at h
  exact h t (List.mem_range.2 ht)
theorem mergeO_ok {P : Program} {G : Nat → Option (List D)} {N : Nat} {c : Code} {s : ES} {O : List OutX} (mrg : List OutX → List OutX) (h1 : ∀ o ∈ O, HasN N o.s.σ ∧ MemOK P G o.s.mm) (h2 : EvM P G N c s O) : (∀ o ∈ mergeO N mrg O, HasN N o.s.σ ∧ MemOK P G o.s.mm) ∧ EvM P G N c s (mergeO N mrg O) := by
  unfold mergeO
  cases hc : ((mrg O).all (fun o => hasB' N o.s.σ && o.s.mm.isEmpty) && O.all fun o => (mrg O).any fun o' => eqE o.e o'.e && leES o.s o'.s) with
  | false => exact ⟨h1, h2⟩
  | true =>
    simp only [Bool.and_eq_true, List.all_eq_true, List.any_eq_true] at hc
    refine ⟨fun o ho => ⟨hasB'_ok (hc.1 o ho).1, ?_⟩, evm_mono h2 (fun o ho => ?_)⟩
    · have := (hc.1 o ho).2
      rw [List.isEmpty_iff] at this
      rw [this]
      intro p hp; cases hp
    · obtain ⟨o', k1, k2, k3⟩ := hc.2 o ho
      exact ⟨o', k1, eqE_ok k2, fun h => h.leES k3⟩
end Go.Proofs.YtpdhikjfdjjjlaaGreatDoor.AL
namespace Go.Proofs.YtpdhikjfdjjjlaaGreatDoor.AL
open Go Go.RowKit
theorem le_maxNx {O : List OutX} {o : OutX} (h : o ∈ O) : o.s.nx ≤ maxNx O := by
  have key : ∀ (O : List OutX) (m : Nat), (m ≤ O.foldl (fun m o => Nat.max m o.s.nx) m) ∧ ∀ o ∈ O, o.s.nx ≤ O.foldl (fun m o => Nat.max m o.s.nx) m := by
    intro O
    induction O with
    | nil => exact fun m => ⟨Nat.le_refl _, fun o ho => by cases ho⟩
    | cons x O ih =>
      intro m
      obtain ⟨i1, i2⟩ := ih (Nat.max m x.s.nx)
      refine ⟨Nat.le_trans (Nat.le_max_left _ _) i1, fun o ho => ?_⟩
      rcases List.mem_cons.1 ho with rfl | ho
      · exact Nat.le_trans (Nat.le_max_right _ _) i1
      · exact i2 o ho
  exact (key O 0).2 o h
section
variable {P : Program} {Ty : Nat → Option TyI} {G : Nat → Option (List D)} {M : Mo} {K : Fk} {ev : Nat → Code → ES → Res} {el : Nat → Code → ES → Option (List OutX)}
theorem evMany_ok (hty : TyOK P Ty) (hM : MoOK P G M) (hel : ElOK P G el) {k : Nat} {A : List D} {gl : St} {g : Nat → Option Blk} {L : List Nat} {lo : Nat} {cs : List CO} (hgl : gl = pickN L g) (h : evMany Ty M el k A gl lo = some cs) :
    ∃ (X : Type) (cox : X → CO) (hi : Nat), (∀ x, cox x ∈ cs) ∧ (∀ x, (cox x).nx = hi) ∧ lo ≤ hi ∧ ImpX P G k A gl lo hi (fun x => (cox x).v) (fun x => (cox x).upd) := by
  unfold evMany at h
  split at h
  · cases h
  · rename_i f hf
    obtain ⟨fn, f1, f2, f3, f4, f5, f6⟩ := hM.fns k f hf
    split at h
    · rename_i hc
      obtain ⟨hA, hin, hall⟩ := hc
      rw [List.all_eq_true] at hall
      obtain ⟨h1, h2⟩ := start_ok f6 hA
      split at h
      · cases h
      · rename_i O hO
        obtain ⟨m1, m2, _⟩ := hel f.ntmps f.body _ O h1 (fun p hp => by cases hp) hO
        simp only at h
        obtain ⟨q1, q2⟩ := mapO_mem h
        have hx : ∀ x : {o // o ∈ O}, ∃ co ∈ cs, ∃ R, resRF Ty f.results x.1.s.σ.get x.1.s.st = some R ∧ (x.1.e = .normal ∨ x.1.e = .ret) ∧ co = ⟨R, gl.map (fun p => (p.1, gs x.1.s.st p.1)) ++ ((pickN (seen (gs x.1.s.st) 100 (namesD R ++ gl.map (·.1)) []) (gs x.1.s.st)).filter (fun p => !hasB gl p.1)).map (fun p => (p.1, some p.2)), gl.map (·.1), maxNx O, []⟩ ∧ lo ≤ maxNx O ∧ R.inn (inR gl lo (maxNx O)) = true ∧ ((gl.map (fun p => (p.1, gs x.1.s.st p.1)) ++ ((pickN (seen (gs x.1.s.st) 100 (namesD R ++ gl.map (·.1)) []) (gs x.1.s.st)).filter (fun p => !hasB gl p.1)).map (fun p => (p.1, some p.2))).all fun q => inR gl lo (maxNx O) q.1 && (match q.2 with | some b => b.inn (inR gl lo (maxNx O)) | none => true)) = true := by
          intro x
          obtain ⟨co, c1, c2⟩ := q1 x.1 x.2
          refine ⟨co, c1, ?_⟩
          split at c2 <;> first | (cases c2; done) | skip
          rename_i R hR hne1 hne2 hne3 hne4
          split at c2
          · rename_i hcond
            cases c2
            refine ⟨R, by assumption, ?_, rfl, hcond⟩
            generalize x.1.e = e at *
            cases e with
            | normal => exact .inl rfl
            | ret => exact .inr rfl
            | _ => simp_all
          · cases c2
        obtain ⟨cox, hcox⟩ := Classical.axiomOfChoice hx
        have hmax : ∀ _ : {o // o ∈ O}, Nat.max lo (maxNx O) = maxNx O := fun x => by
          obtain ⟨_, R, _, _, _, hlo, _⟩ := hcox x
          exact Nat.max_eq_right hlo
        refine ⟨{o // o ∈ O}, cox, Nat.max lo (maxNx O), fun x => (hcox x).1, fun x => ?_, Nat.le_max_left _ _, ?_⟩
        · obtain ⟨_, R, _, _, e, _⟩ := hcox x
          rw [e, hmax x]
        · refine impX_of (X := {o // o ∈ O}) (hi' := fun x => x.1.s.nx) (σ' := fun x => x.1.s.σ.get) (st' := fun x => x.1.s.st) (e := fun x => x.1.e) hty f1 f2 f3 f5 hA h2 (fun p hp => ?_) hin (fun p hp => ?_) (fun p hp => ?_) (fun x p hp => ?_) (fun B w0 Ow df ι0 ι a w hr => ?_) (fun x => ?_) (fun x => ?_) (fun x => ?_) (fun x => ?_) (fun x q hq => ?_)
          · have := hall p hp
            simp only [Bool.and_eq_true, Nat.blt_eq] at this
            exact this.2
          · have := hall p hp
            simp only [Bool.and_eq_true] at this
            exact this.1
          · subst hgl; exact gs_pickN' hp
          · obtain ⟨_, R, _, _, e, _⟩ := hcox x
            rw [e]
            simp only [List.map_append, List.map_map, List.mem_append, List.mem_map]
            exact .inl ⟨p, hp, rfl⟩
          · refine wp_mono (m2 B w0 Ow df ι0 ι a w hr) ?_
            rintro e1 a' w' ⟨o, ho, he, ι', h1⟩
            exact ⟨⟨o, ho⟩, ι', he, h1⟩
          · obtain ⟨_, R, _, he, _⟩ := hcox x
            exact he
          · rw [hmax x]; exact le_maxNx x.2
          · obtain ⟨_, R, hR, _, e, _⟩ := hcox x
            rw [e, f4]; exact hR
          · obtain ⟨_, R, _, _, e, _, hRi, _⟩ := hcox x
            rw [e, hmax x]; exact hRi
          · obtain ⟨_, R, _, _, e, _, _, c3⟩ := hcox x
            rw [List.all_eq_true] at c3
            rw [e] at hq
            rw [hmax x]
            have h3 := c3 q hq
            simp only [Bool.and_eq_true] at h3
            refine ⟨?_, fun b hb => ?_⟩
            · have := h3.1
              unfold inR at this
              simpa [Nat.ble_eq, Nat.blt_eq] using this
            · refine ⟨?_, by have := h3.2; rw [hb] at this; exact this⟩
              rcases List.mem_append.1 hq with hq | hq
              · obtain ⟨p, hp, rfl⟩ := List.mem_map.1 hq
                exact hb
              · obtain ⟨p, hp, rfl⟩ := List.mem_map.1 hq
                simp only [Option.some.injEq] at hb
                subst hb
                exact gs_pickN (List.mem_filter.1 hp).1
    · cases h
theorem evSeqM_ok (hty : TyOK P Ty) (hM : MoOK P G M) (hev : EvOK P G ev) (hel : ElOK P G el) {N : Nat} {ops : Array Oper} : ∀ (rest : List Oper) (i : Nat) (s : ES) (L : List ES), rest = ops.toList.drop i → i ≤ ops.size → HasN N s.σ → MemOK P G s.mm → evSeqM Ty G M K ev el N ops.toList rest s = some L →
    (∀ s' ∈ L, HasN N s'.σ ∧ MemOK P G s'.mm) ∧ ∀ (c : Ctx) (Q : Exit → Act → World → Prop), c.P = P → c.G = G → c.N = N → (∀ s' ∈ L, ∀ ι a w, Rel c (· < s'.nx) ι a w s'.σ.get (gs s'.st) → Q .normal a w) → ∀ ι a w, Rel c (· < s.nx) ι a w s.σ.get (gs s.st) → wpOps P ops Q ((List.range ops.size).drop i) a w
  | [], i, s, L, hrest, hi, hN, hm, h => by
    simp only [evSeqM, Option.some.injEq] at h
    subst h
    refine ⟨fun s' hs' => by simp only [List.mem_singleton] at hs'; subst hs'; exact ⟨hN, hm⟩, fun c Q hP hG hcN fin ι a w hr => ?_⟩
    have : i = ops.size := by
      have := congrArg List.length hrest
      simp at this; omega
    subst this
    have hd : (List.range ops.size).drop ops.size = [] := by simp
    rw [hd]
    exact fin s (by simp) ι a w hr
  | o :: rest, i, s, L, hrest, hi, hN, hm, h => by
    have hlt : i < ops.size := by
      have := congrArg List.length hrest
      simp at this; omega
    have hc : (List.range ops.size).drop i = i :: (List.range ops.size).drop (i + 1) := by
      rw [List.drop_eq_getElem_cons (by simpa using hlt)]
      simp
    have hcons : ops.toList.drop i = ops.toList[i]'(by simpa using hlt) :: ops.toList.drop (i + 1) := List.drop_eq_getElem_cons (by simpa using hlt)
    rw [hcons] at hrest
    injection hrest with ho hrest
    have ho' : ops[i]? = some o := by rw [ho]; simp [hlt]
    simp only [evSeqM] at h
    split at h
    · cases h
    · rename_i hw
      split at h
      · rename_i hd
        obtain ⟨k1, k2, k3⟩ := hN.setO hd (.tup [])
        obtain ⟨r1, r3⟩ := evSeqM_ok hty hM hev hel rest (i + 1) { s with σ := s.σ.setO o.dst (.tup []) } L hrest (by omega) k1 hm h
        refine ⟨r1, fun c Q hP hG hcN fin ι a w hr => ?_⟩
        rw [hc, wpOps_cons]
        unfold wpOp
        rw [ho']
        have hwant := wanted_ok hr (ops := ops) (o := o) (b := false) (by rw [← wantS_eq]; exact hw)
        simp only [hwant, Bool.false_eq_true, if_false]
        refine r3 c Q hP hG hcN fin ι _ w ?_
        show Rel c (· < s.nx) ι _ w (s.σ.setO o.dst (.tup [])).get (gs s.st)
        rw [k2]
        exact hr.put undef (.tup []) (.pure _ _ (.tup #[] [] rfl (fun i hi => absurd hi (Nat.not_lt_zero _)))) _ (by rw [hcN]; exact k3)
      · cases h
    · rename_i hw
      have one : (match evOp Ty G M ev o (thawN (needs G M o s) s) with
        | none => none
        | some r => if dstOK N o.dst then evSeqM Ty G M K ev el N ops.toList rest ⟨r.nx, (thawN (needs G M o s) s).σ.setO o.dst r.v, putS (thawN (needs G M o s) s).st r.upd, r.mm⟩ else none) = some L →
          (∀ s' ∈ L, HasN N s'.σ ∧ MemOK P G s'.mm) ∧ ∀ (c : Ctx) (Q : Exit → Act → World → Prop), c.P = P → c.G = G → c.N = N → (∀ s' ∈ L, ∀ ι a w, Rel c (· < s'.nx) ι a w s'.σ.get (gs s'.st) → Q .normal a w) → ∀ ι a w, Rel c (· < s.nx) ι a w s.σ.get (gs s.st) → wpOps P ops Q ((List.range ops.size).drop i) a w := by
        intro h
        obtain ⟨t1, t2, t3, t4⟩ := thawN_ok (L := needs G M o s) hN
        generalize hs2 : thawN (needs G M o s) s = s2 at *
        split at h
        · cases h
        · rename_i r hr0
          split at h
          · rename_i hd
            obtain ⟨q1, q2, q3⟩ := evOp_ok hty hM hev (by rw [t3]; exact hm) hr0
            obtain ⟨k1, k2, k3⟩ := t1.setO hd r.v
            obtain ⟨r1, r3⟩ := evSeqM_ok hty hM hev hel rest (i + 1) ⟨r.nx, s2.σ.setO o.dst r.v, putS s2.st r.upd, r.mm⟩ L hrest (by omega) k1 q3 h
            refine ⟨r1, fun c Q hP hG hcN fin ι a w hr => ?_⟩
            rw [hc, wpOps_cons]
            unfold wpOp
            rw [ho']
            have hwant := wanted_ok hr (ops := ops) (o := o) (b := true) (by rw [← wantS_eq]; exact hw)
            simp only [hwant, if_true]
            left
            refine q1 c _ ι a w s2.σ.get (gs s2.st) _ _ hP hG (t4 hr) (fun x hx => rfl) (fun n b hn => ?_) (fun n h1 _ h2 => ?_) (by rw [hcN]; exact k3) (fun a' w' ι' hr' => ?_)
            · unfold resN at hn
              split at hn
              · exact hn
              · cases hn
            · rw [t2] at h1
              exact Nat.not_lt.2 h1 h2
            · refine r3 c Q hP hG hcN fin ι' a' w' ?_
              show Rel c (· < r.nx) ι' a' w' (s2.σ.setO o.dst r.v).get (gs (putS s2.st r.upd))
              rw [k2, gs_putS]
              refine hr'.weaken (fun _ => Le.refl _) (fun n hn => ?_)
              rcases hn with hn | hn
              · have : n < s.nx := hn
                have : s.nx ≤ r.nx := by rw [← t2]; exact q2
                show n < r.nx; omega
              · exact hn.2
          · cases h
      split at h
      · rename_i f args tys hop
        split at h
        · rename_i k d1 d2 hf
          cases hk : K.fn k with
          | false => rw [hk] at h; exact one h
          | true =>
            rw [hk] at h
            simp only [cond_true] at h
            split at h
            · cases h
            · rename_i cs hcs
              split at h
              · rename_i hd
                obtain ⟨X, cox, hi', x1, x2, x3, x4⟩ := evMany_ok hty hM hel rfl hcs
                cases hmap : mapO (fun (r : CO) => evSeqM Ty G M K ev el N ops.toList rest ⟨r.nx, s.σ.setO o.dst r.v, putS s.st r.upd, s.mm⟩) cs with
                | none => rw [hmap] at h; cases h
                | some LL =>
                  rw [hmap] at h
                  cases h
                  obtain ⟨p1, p2⟩ := mapO_mem hmap
                  have hrec := fun (r : CO) (L' : List ES) (hL : evSeqM Ty G M K ev el N ops.toList rest ⟨r.nx, s.σ.setO o.dst r.v, putS s.st r.upd, s.mm⟩ = some L') => evSeqM_ok hty hM hev hel rest (i + 1) ⟨r.nx, s.σ.setO o.dst r.v, putS s.st r.upd, s.mm⟩ L' hrest (by omega) (hN.setO hd r.v).1 hm hL
                  refine ⟨fun s' hs' => ?_, fun c Q hP hG hcN fin ι a w hr => ?_⟩
                  · obtain ⟨L', hL', hs'⟩ := List.mem_flatten.1 hs'
                    obtain ⟨r, _, hr⟩ := p2 L' hL'
                    exact (hrec r L' hr).1 s' hs'
                  · rw [hc, wpOps_cons]
                    unfold wpOp
                    rw [ho']
                    have hwant := wanted_ok hr (ops := ops) (o := o) (b := true) (by rw [← wantS_eq]; exact hw)
                    simp only [hwant, if_true]
                    left
                    refine do_callX (ρ := opD G s.σ.get) (g := gs s.st) hop hf x4 (fun p hp => gs_pickN hp) c _ ι a w s.σ.get (gs s.st) _ _ hP hG hr (fun x hx => rfl) (fun n b hn => hn) (fun n h1 _ h2 => Nat.not_lt.2 h1 h2) (by rw [hcN]; exact (hN.setO hd .any).2.2) (fun x a' w' ι' hr' => ?_)
                    obtain ⟨L', k1, k2⟩ := p1 (cox x) (x1 x)
                    refine (hrec (cox x) L' k2).2 c Q hP hG hcN (fun s' hs' => fin s' (List.mem_flatten.2 ⟨L', k1, hs'⟩)) ι' a' w' ?_
                    show Rel c (· < (cox x).nx) ι' a' w' (s.σ.setO o.dst (cox x).v).get (gs (putS s.st (cox x).upd))
                    rw [(hN.setO hd (cox x).v).2.1, gs_putS, x2 x]
                    refine hr'.weaken (fun _ => Le.refl _) (fun n hn => ?_)
                    rcases hn with hn | hn
                    · have : n < s.nx := hn
                      show n < hi'; omega
                    · exact hn.2
              · cases h
        · exact one h
      · exact one h
end
theorem evL_ok {P : Program} {Ty : Nat → Option TyI} {G : Nat → Option (List D)} {M : Mo} {K : Fk} (hty : TyOK P Ty) (hM : MoOK P G M) (hmx : P.follows .mixedOrders = true) : ∀ f, ElOK P G (evL Ty G M K f)
  | 0 => fun N c s O _ _ h => by simp [evL] at h
  | f + 1 => by
    have ih := evL_ok (K := K) (G := G) hty hM hmx f
    have ihS := evS_ok (G := G) hty hM hmx f
    intro N c s O hN hm h
    have single : ∀ {e : Exit}, Evs P G N c s.nx s.σ.get s.st e s.nx s.σ.get s.st → O = [⟨e, s⟩] → (∀ b, c ≠ .loop b) → ML P G N c s O := by
      intro e he hO hnl
      subst hO
      exact ⟨fun o ho => by simp only [List.mem_singleton] at ho; subst ho; exact ⟨hN, hm⟩, evm_one he, fun b hb => absurd hb (hnl b)⟩
    have reg : ∀ {id : Nat} {ops : Array Oper} {draw : Bool}, c = .region id ops draw → (match evS Ty G M f N (.region id ops draw) s with | .nrm s' => some [(⟨.normal, s'⟩ : OutX)] | _ => none) = some O → ML P G N c s O := by
      intro id ops draw hcc h'
      subst hcc
      have hs := ihS N (.region id ops draw) s hN hm
      split at h'
      · rename_i s' hr
        cases h'
        rw [hr] at hs
        exact ⟨fun o ho => by simp only [List.mem_singleton] at ho; subst ho; exact ⟨hs.1, hs.2.1⟩, evm_one hs.2.2.1, fun b hb => by cases hb⟩
      · cases h'
    cases c with
    | skip => simp only [evL, Option.some.injEq] at h; exact single evs_skip h.symm (fun b => by simp)
    | label l => simp only [evL, Option.some.injEq] at h; exact single evs_label h.symm (fun b => by simp)
    | ret => simp only [evL, Option.some.injEq] at h; exact single evs_ret h.symm (fun b => by simp)
    | exit i => simp only [evL, Option.some.injEq] at h; exact single evs_exit h.symm (fun b => by simp)
    | seq a b =>
      simp only [evL] at h
      split at h
      · rename_i O1 h1
        split at h
        · rename_i O2 h2
          cases h
          obtain ⟨a1, a2, _⟩ := ih N a s O1 hN hm h1
          obtain ⟨b1, b2, b3⟩ := bindO_ok h2
          obtain ⟨m1, m2⟩ := mergeO_ok (P := P) (G := G) (N := N) (c := .seq a b) (s := s) (O := O2) K.mrg (fun r hr => by
            rcases b3 r hr with hr | ⟨o, ho, A, hA, hrA⟩
            · exact a1 r hr
            · exact (ih N b o.s A (a1 o ho).1 (a1 o ho).2 hA).1 r hrA) (evm_seq a2 (fun o ho hn => by
              obtain ⟨A, hA, hs⟩ := b1 o ho hn
              exact evm_sub (ih N b o.s A (a1 o ho).1 (a1 o ho).2 hA).2.1 hs) b2)
          exact ⟨m1, m2, fun b hb => by cases hb⟩
        · cases h
      · cases h
    | cond c x y =>
      simp only [evL] at h
      split at h
      · rename_i b hc
        cases b with
        | true =>
          obtain ⟨a1, a2, _⟩ := ih N x s O hN hm h
          exact ⟨a1, evm_cond hc (by simpa using a2), fun b hb => by cases hb⟩
        | false =>
          obtain ⟨a1, a2, _⟩ := ih N y s O hN hm h
          exact ⟨a1, evm_cond hc (by simpa using a2), fun b hb => by cases hb⟩
      · cases h
    | block i x =>
      simp only [evL] at h
      cases hx : evL Ty G M K f N x s with
      | none => rw [hx] at h; cases h
      | some O1 =>
        rw [hx] at h
        cases h
        obtain ⟨a1, a2, _⟩ := ih N x s O1 hN hm hx
        refine ⟨fun o ho => ?_, evm_block a2, fun b hb => by cases hb⟩
        obtain ⟨o1, h1, h2⟩ := List.mem_map.1 ho
        have : o.s = o1.s := by
          rw [← h2]
          split
          · rename_i j _; cases Nat.beq i j <;> rfl
          · rfl
        rw [this]; exact a1 o1 h1
    | loop b =>
      simp only [evL] at h
      split at h
      · rename_i O1 h1
        obtain ⟨a1, a2, _⟩ := ih N b s O1 hN hm h1
        obtain ⟨b1, b2, b3⟩ := bindO_ok h
        have hl : EvML P G N b s O := evml_next a2 (fun o ho hn => by
          obtain ⟨A, hA, hs⟩ := b1 o ho hn
          have := (ih N (.loop b) o.s A (a1 o ho).1 (a1 o ho).2 hA).2.2 b rfl
          intro B w0 Ow df ι0 ι a w hr q k cs
          obtain ⟨e1, a', w', ⟨o', ho', k1, k2⟩, k3⟩ := this B w0 Ow df ι0 ι a w hr q k cs
          exact ⟨e1, a', w', ⟨o', hs o' ho', k1, k2⟩, k3⟩) b2
        refine ⟨fun r hr => ?_, evm_loop hl, fun b' hb => by cases hb; exact hl⟩
        rcases b3 r hr with hr | ⟨o, ho, A, hA, hrA⟩
        · exact a1 r hr
        · exact (ih N (.loop b) o.s A (a1 o ho).1 (a1 o ho).2 hA).1 r hrA
      · cases h
    | region id ops draw =>
      simp only [evL] at h
      split at h
      · rename_i l hl
        split at h
        · rename_i n hn
          cases hc : ((l.all fun p => decide (1 ≤ p.1)) && isDeck (gs s.st n)) with
          | false => rw [hc] at h; cases h
          | true =>
            rw [hc] at h
            simp only [cond_true] at h
            simp only [Bool.and_eq_true] at hc
            obtain ⟨c1, c2⟩ := hc
            obtain ⟨p1, p2⟩ := mapO_mem h
            have hrun : ∀ sc o, (match evS Ty G M f N (.region id ops draw) { s with st := putS s.st [(n, some (.deck sc))] } with | .nrm s' => some (⟨.normal, s'⟩ : OutX) | _ => none) = some o → SP P G N (.region id ops draw) { s with st := putS s.st [(n, some (.deck sc))] } .normal o.s ∧ o.e = .normal := by
              intro sc o ho
              have hs := ihS N (.region id ops draw) { s with st := putS s.st [(n, some (.deck sc))] } hN hm
              split at ho
              · rename_i s' hr
                cases ho
                rw [hr] at hs
                exact ⟨hs, rfl⟩
              · cases ho
            refine ⟨fun o ho => ?_, fun B w0 Ow df ι0 ι a w hr => ?_, fun b hb => by cases hb⟩
            · obtain ⟨sc, _, h2⟩ := p2 o ho
              exact ⟨(hrun sc o h2).1.1, (hrun sc o h2).1.2.1⟩
            · cases hg : gs s.st n with
              | none => rw [hg] at c2; cases c2
              | some b =>
                cases b with
                | deck sc0 =>
                  obtain ⟨ib, v0, ty, xs, i, s0, k1, k2, k3, k4, k5, k6, k7, k8, k9, _⟩ := hr.blk n _ hg
                  obtain ⟨sc, h1, h2⟩ := scripts_cover (xs := xs) l i s0 c1
                  obtain ⟨o, ho, hrun'⟩ := p1 sc h1
                  obtain ⟨r1, r2⟩ := hrun sc o hrun'
                  have hr' : Rel ⟨P, G, N, B, w0, Ow, df, ι0⟩ (· < s.nx) ι a w s.σ.get (gs (putS s.st [(n, some (.deck sc))])) := by
                    rw [gs_putS]
                    refine hr.reB (fun m => ?_) (fun m b' hm' => ?_)
                    · show (updS (gs s.st) n (some (.deck sc)) m).isSome = _
                      unfold updS
                      by_cases e : m = n
                      · subst e; rw [if_pos rfl, hg]; rfl
                      · rw [if_neg e]
                    · have hm' : updS (gs s.st) n (some (.deck sc)) m = some b' := hm'
                      unfold updS at hm'
                      by_cases e : m = n
                      · subst e
                        rw [if_pos rfl] at hm'
                        cases hm'
                        exact ⟨_, hg, fun _ => ⟨ib, v0, ty, xs, i, s0, k1, k2, k3, k4, k5, k6, k7, k8, k9, h2⟩⟩
                      · rw [if_neg e] at hm'
                        exact ⟨b', hm', fun h => h⟩
                  refine wp_mono (r1.2.2.1 B w0 Ow df ι0 ι a w hr') ?_
                  rintro e1 a' w' ⟨ι', rfl, q1⟩
                  exact ⟨o, ho, r2.symm, ι', q1⟩
                | _ => rw [hg] at c2; cases c2
        · cases h
      · cases hmany : (K.many N id && !draw) with
        | false => rw [hmany] at h; exact reg rfl h
        | true =>
          rw [hmany] at h
          simp only [cond_true] at h
          simp only [Bool.and_eq_true, Bool.not_eq_true'] at hmany
          obtain ⟨_, rfl⟩ := hmany
          cases hL : evSeqM Ty G M K (evS Ty G M f) (evL Ty G M K f) N ops.toList ops.toList s with
          | none => rw [hL] at h; cases h
          | some L =>
            rw [hL] at h
            cases h
            obtain ⟨q1, q2⟩ := evSeqM_ok hty hM ihS ih _ 0 s L rfl (Nat.zero_le _) hN hm hL
            refine ⟨fun o ho => ?_, fun B w0 Ow df ι0 ι a w hr => ?_, fun b hb => by cases hb⟩
            · obtain ⟨s', h1, rfl⟩ := List.mem_map.1 ho
              exact q1 s' h1
            · exact wp_region (q2 ⟨P, G, N, B, w0, Ow, df, ι0⟩ _ rfl rfl rfl (fun s' hs' ι a w hr => ⟨⟨.normal, s'⟩, List.mem_map.2 ⟨s', hs', rfl⟩, rfl, ι, hr⟩) ι a w hr)
    | _ => simp only [evL] at h; cases h
end Go.Proofs.YtpdhikjfdjjjlaaGreatDoor.AL
namespace Go.Proofs.YtpdhikjfdjjjlaaGreatDoor.AL
open Go Go.RowKit
/-! What two outcomes have in common (checked by mergeO, so nothing is proved of it). -/
mutual
def joinD : D → D → Option D
  | .any, _ => some .any
  | _, .any => some .any
  | .bool a, .bool b => cond (a == b) (some (.bool a)) (some .any)
  | .int k a, .int k' b => if k = k' then (if a = b then some (.int k a) else some (.rng k (if a ≤ b then a else b) (if a ≤ b then b else a))) else none
  | .int k a, .rng k' l h => if k = k' then some (.rng k (if a ≤ l then a else l) (if a ≤ h then h else a)) else none
  | .rng k l h, .int k' a => if k = k' then some (.rng k (if a ≤ l then a else l) (if a ≤ h then h else a)) else none
  | .rng k l h, .rng k' l' h' => if k = k' then some (.rng k (if l ≤ l' then l else l') (if h ≤ h' then h' else h)) else none
  | .str a, .str b => if a.data.toList = b.data.toList then some (.str a) else none
  | .np, .np => some .np
  | .nils, .nils => some .nils
  | .nilf, .nilf => some .nilf
  | .nili, .nili => some .nili
  | .sle, .sle => some .sle
  | .sl a, .sl b => (joinDss a b).map .sl
  | .vp a, .vp b => (joinDs a b).map .vp
  | .agg a, .agg b => (joinDs a b).map .agg
  | .tup a, .tup b => (joinDs a b).map .tup
  | .bp n o, .bp n' o' => if n = n' ∧ o = o' then some (.bp n o) else none
  | .ap n a b c, .ap n' a' b' c' => if n = n' ∧ a = a' ∧ b = b' ∧ c = c' then some (.ap n a b c) else none
  | .os n a b c, .os n' a' b' c' => if n = n' ∧ a = a' ∧ b = b' ∧ c = c' then some (.os n a b c) else none
  | _, _ => none
def joinDs : List D → List D → Option (List D)
  | [], [] => some []
  | a :: as, b :: bs => match joinD a b, joinDs as bs with | some x, some xs => some (x :: xs) | _, _ => none
  | _, _ => none
def joinDss : List (List D) → List (List D) → Option (List (List D))
  | [], [] => some []
  | a :: as, b :: bs => match joinDs a b, joinDss as bs with | some x, some xs => some (x :: xs) | _, _ => none
  | _, _ => none
end
def joinT (a b : D) : Option D := match joinD a b with
  | some d => some d
  | none => match a, b with
    | .ap _ _ _ _, .ap _ _ _ _ => some .any
    | .bp _ _, .bp _ _ => some .any
    | _, _ => none
def joinSM : SM → SM → Option SM
  | .lf, .lf => some .lf
  | .nd d l r, .nd d' l' r' => match joinT d d', joinSM l l', joinSM r r' with | some x, some y, some z => some (.nd x y z) | _, _, _ => none
  | _, _ => none
def joinB : Blk → Blk → Option Blk
  | .box a, .box b => (joinDs a b).map .box
  | .arr e a, .arr e' b => if e = e' then (joinDss a b).map (.arr e) else none
  | .deck _, .deck _ => some (.deck [])
  | _, _ => none
def joinSt : St → St → Option St
  | [], _ => some []
  | (n, b) :: l, m => match gs m n, joinSt l m with
    | none, r => r
    | some b', some r => (match joinB b b' with | some x => some ((n, x) :: r) | none => none)
    | some _, none => none
def joinO (a b : OutX) : Option OutX :=
  cond (eqE a.e b.e) (match joinSM a.s.σ b.s.σ, joinSt a.s.st b.s.st with
    | some σ, some st => some ⟨a.e, ⟨Nat.max a.s.nx b.s.nx, σ, st, []⟩⟩
    | _, _ => none) none
def addO (o : OutX) : List OutX → List OutX
  | [] => [⟨o.e, { o.s with mm := [] }⟩]
  | x :: l => match joinO x o with | some y => y :: l | none => x :: addO o l
def mrgAll (O : List OutX) : List OutX := match O with | [] => [] | [o] => [o] | O => O.foldl (fun l o => addO o l) []
end Go.Proofs.YtpdhikjfdjjjlaaGreatDoor.AL
namespace Go.Proofs.YtpdhikjfdjjjlaaGreatDoor.AL
open Go Go.RowKit
/-! Contracts for less that is known. -/
theorem Pure.le {P : Program} {G : Nat → Option (List D)} {k : Nat} {A A' : List D} {R R' : D} (h : Pure P G k A' R') (hA : leDs A A' = true) (hR : leD R' R = true) : Pure P G k A R := by
  obtain ⟨l1, l2⟩ := leDs_ok hA
  refine ⟨h.body, fun w F vs hs hr hG hF => (h.calls w F vs (by omega) (fun i hi => (l2 i (by omega) hi).p _ _ _ (hr i (by omega))) hG hF).mono ?_⟩
  rintro e w' ⟨v, rfl, hb, hv⟩
  exact ⟨v, rfl, hb, (leD_ok hR).p _ _ _ hv⟩
/-- One of some data is what a value reads as. -/
def Cases (a : D) (as : List D) : Prop := ∀ w F v, RepP w F v a → ∃ a' ∈ as, RepP w F v a'
theorem pure_cases {P : Program} {G : Nat → Option (List D)} {k : Nat} {a : D} {as A : List D} {R : D} (hc : Cases a as) (hb : HasBody P k) (h : ∀ a' ∈ as, ∃ R', Pure P G k (a' :: A) R' ∧ leD R' R = true) : Pure P G k (a :: A) R := by
  refine ⟨hb, fun w F vs hs hr hG hF => ?_⟩
  have h0 := hr 0 (by simp)
  obtain ⟨a', m, ha'⟩ := hc w F _ h0
  obtain ⟨R', hp, hl⟩ := h a' m
  refine (hp.calls w F vs (by simpa using hs) (fun i hi => ?_) hG hF).mono ?_
  · cases i with
    | zero => exact ha'
    | succ i =>
      have := hr (i + 1) (by simpa using hi)
      simpa using this
  · rintro e w' ⟨v, rfl, hbl, hv⟩
    exact ⟨v, rfl, hbl, (leD_ok hl).p _ _ _ hv⟩
def rngL (k : IntKind) (lo hi : Int) : List D := (List.range (hi + 1 - lo).toNat).map fun (i : Nat) => .int k (lo + i)
theorem cases_rng (k : IntKind) (lo hi : Int) : Cases (.rng k lo hi) (rngL k lo hi) := by
  intro w F v h
  cases h with
  | rng k lo hi n h1 h2 =>
    refine ⟨.int k n, List.mem_map.2 ⟨(n - lo).toNat, List.mem_range.2 (by omega), ?_⟩, .int _ _⟩
    rw [show lo + ((n - lo).toNat : Int) = n by omega]
def digL : List UInt8 := [49, 50, 51, 52, 53, 54, 55, 56, 57]
theorem digL_mem (b : UInt8) (h1 : 49 ≤ b.toNat) (h2 : b.toNat ≤ 57) : b ∈ digL := by
  have hb : b = UInt8.ofNat b.toNat := by simp
  have : b.toNat = 49 ∨ b.toNat = 50 ∨ b.toNat = 51 ∨ b.toNat = 52 ∨ b.toNat = 53 ∨ b.toNat = 54 ∨ b.toNat = 55 ∨ b.toNat = 56 ∨ b.toNat = 57 := by omega
  rcases this with h | h | h | h | h | h | h | h | h <;> (rw [hb, h]; decide)
def strgL (p q : ByteArray) : List D := digL.map fun d => .str ⟨(p.data.toList ++ d :: q.data.toList).toArray⟩
theorem cases_strg (p q : ByteArray) : Cases (.strg p q) (strgL p q) := by
  intro w F v h
  cases h with
  | strg p q s b h1 h2 h =>
    refine ⟨.str s, List.mem_map.2 ⟨b, digL_mem b h1 h2, ?_⟩, .str _⟩
    rw [← h]
theorem cases_nil : Cases (.sl []) [.nils, .sle] := by
  intro w F v h
  generalize hd : D.sl [] = d at h
  cases h <;> first | (cases hd; done) | skip
  · rename_i a cap h0
    cases a with
    | none => exact ⟨.nils, by simp, by rw [h0 rfl]; exact .nils⟩
    | some a => exact ⟨.sle, by simp, .sle _ _⟩
  · injection hd with hd
    subst hd
    exact ⟨.sle, by simp, .sle _ _⟩
theorem nils_le {w : World} {F : Nat → Prop} {v : Value} (h : RepP w F v .nils) : RepP w F v (.sl []) := by cases h; exact .sl0 _ _ (fun _ => rfl)
theorem sle_le {w : World} {F : Nat → Prop} {v : Value} (h : RepP w F v .sle) : RepP w F v (.sl []) := by cases h; exact .sl0 _ _ (fun h => by cases h)
/-- A function that leaves empty lists empty. -/
theorem pure_nil {P : Program} {G : Nat → Option (List D)} {k : Nat} (hb : HasBody P k) (h1 : Pure P G k [.nils] .nils) (h2 : Pure P G k [.sle] .sle) : Pure P G k [.sl []] (.sl []) := by
  refine ⟨hb, fun w F vs hs hr hG hF => ?_⟩
  have h0 := hr 0 (by simp)
  obtain ⟨a', m, ha'⟩ := cases_nil w F _ h0
  simp only [List.mem_cons, List.not_mem_nil, or_false] at m
  rcases m with rfl | rfl
  · refine (h1.calls w F vs hs (fun i hi => by have : i = 0 := by simpa using hi
                                               subst this; exact ha') hG hF).mono ?_
    rintro e w' ⟨v, rfl, hbl, hv⟩
    exact ⟨v, rfl, hbl, nils_le hv⟩
  · refine (h2.calls w F vs hs (fun i hi => by have : i = 0 := by simpa using hi
                                               subst this; exact ha') hG hF).mono ?_
    rintro e w' ⟨v, rfl, hbl, hv⟩
    exact ⟨v, rfl, hbl, sle_le hv⟩
end Go.Proofs.YtpdhikjfdjjjlaaGreatDoor.AL
namespace Go.Proofs.YtpdhikjfdjjjlaaGreatDoor.AL
open Go Go.RowKit
section
variable {P : Program} {Ty : Nat → Option TyI} {G : Nat → Option (List D)} {M : Mo} {ev : Nat → Code → ES → Res}
/-- The first operations of a region. -/
theorem evSeqP_ok (hty : TyOK P Ty) (hM : MoOK P G M) (hev : EvOK P G ev) {N : Nat} {ops : Array Oper} : ∀ (rest tail : List Oper) (i : Nat) (s s' : ES), rest ++ tail = ops.toList.drop i → i ≤ ops.size → HasN N s.σ → MemOK P G s.mm → evSeq Ty G M ev N ops.toList rest s = some s' →
    HasN N s'.σ ∧ MemOK P G s'.mm ∧ ∀ (c : Ctx) (Q : Exit → Act → World → Prop), c.P = P → c.G = G → c.N = N → (∀ ι a w, Rel c (· < s'.nx) ι a w s'.σ.get (gs s'.st) → wpOps P ops Q ((List.range ops.size).drop (i + rest.length)) a w) → ∀ ι a w, Rel c (· < s.nx) ι a w s.σ.get (gs s.st) → wpOps P ops Q ((List.range ops.size).drop i) a w
  | [], tail, i, s, s', hrest, hi, hN, hm, h => by
    simp only [evSeq, Option.some.injEq] at h
    subst h
    exact ⟨hN, hm, fun c Q hP hG hcN fin ι a w hr => fin ι a w hr⟩
  | o :: rest, tail, i, s, s', hrest, hi, hN, hm, h => by
    have hlt : i < ops.size := by
      have := congrArg List.length hrest
      simp at this; omega
    have hc : (List.range ops.size).drop i = i :: (List.range ops.size).drop (i + 1) := by
      rw [List.drop_eq_getElem_cons (by simpa using hlt)]
      simp
    have hcons : ops.toList.drop i = ops.toList[i]'(by simpa using hlt) :: ops.toList.drop (i + 1) := List.drop_eq_getElem_cons (by simpa using hlt)
    rw [hcons, List.cons_append] at hrest
    injection hrest with ho hrest
    have hlen : i + (o :: rest).length = (i + 1) + rest.length := by simp; omega
    rw [hlen]
    have ho' : ops[i]? = some o := by rw [ho]; simp [hlt]
    simp only [evSeq] at h
    split at h
    · cases h
    · rename_i hw
      split at h
      · rename_i hd
        obtain ⟨k1, k2, k3⟩ := hN.setO hd (.tup [])
        obtain ⟨r1, r2, r3⟩ := evSeqP_ok hty hM hev rest tail (i + 1) { s with σ := s.σ.setO o.dst (.tup []) } s' hrest (by omega) k1 hm h
        refine ⟨r1, r2, fun c Q hP hG hcN fin ι a w hr => ?_⟩
        rw [hc, wpOps_cons]
        unfold wpOp
        rw [ho']
        have hwant := wanted_ok hr (ops := ops) (o := o) (b := false) (by rw [← wantS_eq]; exact hw)
        simp only [hwant, Bool.false_eq_true, if_false]
        refine r3 c Q hP hG hcN fin ι _ w ?_
        show Rel c (· < s.nx) ι _ w (s.σ.setO o.dst (.tup [])).get (gs s.st)
        rw [k2]
        exact hr.put undef (.tup []) (.pure _ _ (.tup #[] [] rfl (fun i hi => absurd hi (Nat.not_lt_zero _)))) _ (by rw [hcN]; exact k3)
      · cases h
    · rename_i hw
      obtain ⟨t1, t2, t3, t4⟩ := thawN_ok (L := needs G M o s) hN
      generalize hs2 : thawN (needs G M o s) s = s2 at *
      split at h
      · cases h
      · rename_i r hr0
        split at h
        · rename_i hd
          obtain ⟨q1, q2, q3⟩ := evOp_ok hty hM hev (by rw [t3]; exact hm) hr0
          obtain ⟨k1, k2, k3⟩ := t1.setO hd r.v
          obtain ⟨r1, r2, r3⟩ := evSeqP_ok hty hM hev rest tail (i + 1) ⟨r.nx, s2.σ.setO o.dst r.v, putS s2.st r.upd, r.mm⟩ s' hrest (by omega) k1 q3 h
          refine ⟨r1, r2, fun c Q hP hG hcN fin ι a w hr => ?_⟩
          rw [hc, wpOps_cons]
          unfold wpOp
          rw [ho']
          have hwant := wanted_ok hr (ops := ops) (o := o) (b := true) (by rw [← wantS_eq]; exact hw)
          simp only [hwant, if_true]
          left
          refine q1 c _ ι a w s2.σ.get (gs s2.st) _ _ hP hG (t4 hr) (fun x hx => rfl) (fun n b hn => ?_) (fun n h1 _ h2 => ?_) (by rw [hcN]; exact k3) (fun a' w' ι' hr' => ?_)
          · unfold resN at hn
            split at hn
            · exact hn
            · cases hn
          · rw [t2] at h1
            exact Nat.not_lt.2 h1 h2
          · refine r3 c Q hP hG hcN fin ι' a' w' ?_
            show Rel c (· < r.nx) ι' a' w' (s2.σ.setO o.dst r.v).get (gs (putS s2.st r.upd))
            rw [k2, gs_putS]
            refine hr'.weaken (fun _ => Le.refl _) (fun n hn => ?_)
            rcases hn with hn | hn
            · have : n < s.nx := hn
              have : s.nx ≤ r.nx := by rw [← t2]; exact q2
              show n < r.nx; omega
            · exact hn.2
        · cases h
end
/-- From a later start: what is owned may be turned, all else stands. -/
theorem Rel.rebase {c : Ctx} {dom : Nat → Prop} {ι : Nat → Option IB} {a : Act} {w : World} {σ : Nat → D} {st : Nat → Option Blk} (h : Rel c dom ι a w σ st) : Rel ⟨c.P, c.G, c.N, c.B, w, Own ι st, c.df, ι⟩ dom ι a w σ st :=
  ⟨h.size, h.defers, h.env, h.blk, h.inj, h.dom, rfl, rfl, rfl, Nat.le_refl _, fun _ _ _ => rfl,
    fun b hb => ⟨Nat.lt_of_lt_of_le (h.low b hb).1 h.hsize, fun ho => (h.own b ho).2.1 hb⟩, fun b hb => ⟨(h.own b hb).1, (h.own b hb).2.1, .inl hb⟩, h.glob, Grows.refl _⟩
/-- Back to the earlier start. -/
theorem Rel.unbase {c : Ctx} {dom dom' : Nat → Prop} {ι ι' : Nat → Option IB} {a a' : Act} {w w' : World} {σ σ' : Nat → D} {st st' : Nat → Option Blk} {df : List Deferred} (h : Rel c dom ι a w σ st) (h' : Rel ⟨c.P, c.G, c.N, c.B, w, Own ι st, df, ι⟩ dom' ι' a' w' σ' st') :
    Rel ⟨c.P, c.G, c.N, c.B, c.w0, c.O, df, c.ι0⟩ dom' ι' a' w' σ' st' ∧ w.heap.size ≤ w'.heap.size ∧ ∀ b, b < w.heap.size → ¬ Own ι st b → w'.heap[b]? = w.heap[b]? ∧ ¬ Own ι' st' b := by
  refine ⟨⟨h'.size, h'.defers, h'.env, h'.blk, h'.inj, h'.dom, h'.os.trans h.os, h'.tape.trans h.tape, h'.output.trans h.output, Nat.le_trans h.hsize h'.hsize, fun b hb hO => ?_, h.low, fun b hb => ?_, h'.glob, h.grow.trans h'.grow⟩, h'.hsize, fun b hb ho => ⟨h'.keep b hb ho, fun ho' => ?_⟩⟩
  · have hb : b < c.w0.heap.size := hb
    have hO : ¬ c.O b := hO
    have hn : ¬ Own ι st b := fun ho => by
      rcases (h.own b ho).2.2 with h1 | h1
      · exact hO h1
      · omega
    have hs : b < w.heap.size := by have := h.hsize; omega
    exact (h'.keep b hs hn).trans (h.keep b hb hO)
  · obtain ⟨h1, h2, h3⟩ := h'.own b hb
    refine ⟨h1, h2, ?_⟩
    rcases h3 with h3 | h3
    · exact (h.own b h3).2.2
    · have := h.hsize
      exact .inr (Nat.le_trans this h3)
  · rcases (h'.own b ho').2.2 with h1 | h1
    · exact ho h1
    · exact absurd hb (Nat.not_lt.2 h1)
theorem Below.put {B : Nat} (w : World) (r : Nat) (o : Obj) (h : B ≤ r) : Below B w (w.putObj r o) :=
  ⟨rfl, rfl, rfl, by simp, fun k hk => World.putObj_heap_other (by omega)⟩
/-- A range over a function that yields nothing. -/
theorem wp_rangeFn {P : Program} {Q : Exit → Act → World → Prop} {a : Act} {w : World} {g : Operand} {ps : Array Tmp} {assign body : Code} {gf : Nat} {lf lb : Array Value} (hg : a.eval g = .func (.func gf) lf lb) (hb : HasBody P gf)
    (hcall : ∀ w1, Below w.heap.size w w1 → ∃ W2 : World → Prop, (∀ w2, W2 w2 → Below w1.heap.size w1 w2) ∧ Calls P gf (lf ++ #[.func (.yield (w.heap.size + 1)) #[] #[]] ++ lb) w1 (fun e w2 => (∃ v, e = .returned v) ∧ W2 w2))
    (hQ : ∀ w', Below w.heap.size w w' → w'.heap[w.heap.size]? = some (.deferred (some [])) → Q .normal { a with defers := { target := .collected w.heap.size, args := #[] } :: a.defers } w') : (Code.rangeFunc g ps assign body).wp P Q a w := by
  refine (wpIn_wide (n := 0)).1 (wpIn_rangeFunc fun fn _ => ?_)
  obtain ⟨rec, hrec⟩ : ∃ rec : LoopState → Option Code → Loop, rec = fun st pe => { state := st, pending := pe, fn, tmps := a.tmps, params := ps, assign, body, defers := w.heap.size } := ⟨_, rfl⟩
  obtain ⟨W1, hW1⟩ : ∃ W1, (w.alloc (.deferred (some []))).alloc (.loop (rec .ready none)) = W1 := ⟨_, rfl⟩
  have hL1 : W1.heap[w.heap.size + 1]? = some (.loop (rec .ready none)) := by
    rw [← hW1]; have := World.alloc_heap_new (w.alloc (.deferred (some []))) (.loop (rec .ready none)); rwa [World.size_alloc] at this
  have hK1 : W1.heap[w.heap.size]? = some (.deferred (some [])) := by
    rw [← hW1]; exact (Below.heap_alloc _ _ _ (by simp)).trans (World.alloc_heap_new w _)
  have hsz : W1.heap.size = w.heap.size + 2 := by rw [← hW1]; simp
  have hb1 : Below w.heap.size w W1 := by
    rw [← hW1]; exact ((Below.refl _ w).alloc (Nat.le_refl _) _).alloc (by simp) _
  obtain ⟨fn1, e1, e2, e3⟩ := hb
  have e2' : fn1.body.isNone = false := by cases hq : fn1.body <;> simp [hq] at e2 ⊢
  refine ⟨w.heap.size + 1, [{ target := .collected w.heap.size, args := #[] }], W1, { target := .fn (.func gf) lb, args := lf ++ #[.func (.yield (w.heap.size + 1)) #[] #[]] }, W1, gf,
    lf ++ #[.func (.yield (w.heap.size + 1)) #[] #[]] ++ lb, W1, ?_, ?_, fun _ _ => trivial, ?_, fun h => (by cases h), ?_⟩
  · rw [← hW1, hrec]; exact run_enterLoop_outer _ _ _ _ _
  · simp only [resolve, hg]
    simp [go_sem, Deferred.ofValue, Act.eval]
  · simp only [invoke, callFunc, Sem.run_bind, run_program, Result.andThen_ok, e1, e2', e3, Bool.false_eq_true, if_false, Sem.run_pure]
  · obtain ⟨W2, k1, k2⟩ := hcall W1 hb1
    refine callsIn_wide.2 (k2.mono ?_)
    rintro e w2 ⟨⟨v, rfl⟩, h2⟩
    have hbel := k1 w2 h2
    have hl2 : w2.heap[w.heap.size + 1]? = some (.loop (rec .ready none)) := (hbel.block _ (by omega)).trans hL1
    have hd2 : w2.heap[w.heap.size]? = some (.deferred (some [])) := (hbel.block _ (by omega)).trans hK1
    refine ⟨none, _, by have := run_endLoop (P := P) hl2 (by rw [hrec]; simp); rw [hrec] at this; exact this, ?_⟩
    refine hQ _ ?_ ((World.putObj_heap_other (by omega)).trans hd2)
    exact (hb1.trans (hbel.mono (by omega))).trans (Below.put _ _ _ (by omega))
end Go.Proofs.YtpdhikjfdjjjlaaGreatDoor.AL
namespace Go.Proofs.YtpdhikjfdjjjlaaGreatDoor.AL
open Go Go.RowKit
open Go.ChangeMaps (setBlock)
def MK.d : MK → D
  | .s l => .str ⟨l.toArray⟩
  | .i k n => .int k n
theorem MK.d_rep (w : World) (F : Nat → Prop) (ι : Nat → Option IB) (q : MK) : Rep w F ι q.val q.d := by
  cases q with
  | s l => exact .pure _ _ (.str _)
  | i k n => exact .pure _ _ (.int _ _)
/-- What a walk over a map bears. -/
def iterO (bm n : Nat) (seen : Array Nat) : Blk := .obj (.raw (.mapIter (some bm) n seen n))
section
variable {c : Ctx} {dom : Nat → Prop} {ι : Nat → Option IB} {a : Act} {w : World} {σ : Nat → D} {st : Nat → Option Blk} {o : Oper} {K : Act → World → Prop} {Q : Exit → Act → World → Prop}
theorem rel_range (hr : Rel c dom ι a w σ st) {t k e nM nI : Nat} {x : Operand} {ks : List MK} {cs : List D} (ho : o.op = .range t x) (hu : c.P.underlying t = some (.map k e)) (hx : opD c.G σ x = .rf nM false) (hs : st nM = some (.mp ks cs)) (hnm : ¬ dom nI) (hd : ∀ t, o.dst = some t → t < c.N)
    (hK : ∀ a' w' ι' ibM, ι' nM = some ibM → Rel c (fun n => dom n ∨ n = nI) ι' a' w' (setO σ o.dst (.bp nI 0)) (updS st nI (some (iterO ibM.blk cs.length #[]))) → K a' w') : o.wp c.P a w K Q := by
  have h1 := opD_rep hr x
  rw [hx] at h1
  obtain ⟨ib, es, ck, b1, b2, b3, b4, b5, b6, b8, hv, hB⟩ := rf_mp hr h1 hs
  have hck : ck = cs.length := hB.1.trans b5
  have hrun : (execOp a.eval o).run c.P w = .ok (.value (.pointer (some ⟨w.heap.size, 0, none⟩))) (w.alloc (.mapIter (some ib.blk) ck #[] ck)) := by
    rw [show execOp a.eval o = (do pure (.value (← Instr.range t (a.eval x)))) by unfold execOp; rw [ho]]
    rw [hv]
    simp [Instr.range, run_underlying hu, Go.MapKept.run_getObj_map b4, Result.andThen]
  unfold Oper.wp
  rw [hrun]
  obtain ⟨h1, h2⟩ := hr.none_of hnm
  obtain ⟨r1, r2⟩ := hr.one (w' := w.alloc (.mapIter (some ib.blk) ck #[] ck)) nI ⟨true, w.heap.size, 0, 0, 1, 0⟩ (iterO ib.blk cs.length #[]) rfl rfl rfl (by simp) (fun b hb => .inl (Below.heap_alloc w _ b hb)) (fun _ => ⟨by simp, .inr (Nat.le_refl _)⟩)
    (fun ib hib => by rw [h1] at hib; cases hib) (fun f1 f2 =>
      ⟨⟨true, w.heap.size, 0, 0, 1, 0⟩, _, by simp [updI], rfl, Nat.one_pos, heap_new _ _, by rw [hck]; rfl⟩)
  refine hK _ _ _ ib ?_ (r1.put _ (.bp nI 0) (.bp nI 0 ⟨true, w.heap.size, 0, 0, 1, 0⟩ (by simp [updI]) rfl) o.dst hd)
  have hne : nM ≠ nI := fun e => by rw [e, h1] at b1; cases b1
  simp [updI, hne, b1]
theorem iter_at (hr : Rel c dom ι a w σ st) {nI bm n : Nat} {seen : Array Nat} (hi : st nI = some (iterO bm n seen)) {v : Value} (hv : Rep w (Fb c ι st) ι v (.bp nI 0)) : ∃ ib, ι nI = some ib ∧ ib.box = true ∧ 0 < ib.cap ∧ w.heap[ib.blk]? = some (.mapIter (some bm) n seen n) ∧ v = .pointer (some ⟨ib.blk, 0, none⟩) := by
  obtain ⟨ib, ob, i1, i2, i3, i4, i5⟩ := hr.blk nI _ hi
  have hob : ob = .mapIter (some bm) n seen n := i5
  subst hob
  cases hv with
  | pure _ _ h => cases h
  | bp _ _ ib' h1 h2 =>
    obtain rfl : ib' = ib := Option.some.inj (h1.symm.trans i1)
    exact ⟨ib', h1, h2, i3, i4, rfl⟩
theorem rel_next (hr : Rel c dom ι a w σ st) {nM nI bm : Nat} {x : Operand} {ks : List MK} {cs : List D} {seen : Array Nat} {ibM : IB} (ho : o.op = .next x false) (hx : opD c.G σ x = .bp nI 0) (hs : st nM = some (.mp ks cs)) (hM : ι nM = some ibM) (hbm : ibM.blk = bm) (hi : st nI = some (iterO bm cs.length seen)) (hd : ∀ t, o.dst = some t → t < c.N)
    (h0 : ∀ a' w', Rel c dom ι a' w' (setO σ o.dst (.tup [.bool false])) st → K a' w')
    (h1 : ∀ a' w' i, i < cs.length → i ∉ seen.toList → Rel c dom ι a' w' (setO σ o.dst (.tup [.bool true, .any, .any])) (updS st nI (some (iterO bm cs.length (seen.push i)))) → K a' w') : o.wp c.P a w K Q := by
  have hv := opD_rep hr x
  rw [hx] at hv
  obtain ⟨ib, i1, i2, i3, i4, hv⟩ := iter_at hr hi hv
  obtain ⟨ib2, es, ck, b1, b2, b3, b4, b5, b6, hB, b8⟩ := hr.blk nM _ hs
  obtain rfl : ib2 = ibM := Option.some.inj (b1.symm.trans hM)
  subst hbm
  have hborn : ∀ e ∈ es.toList, e.born < cs.length := fun e he => by
    have : e.born ∈ es.toList.map (·.born) := List.mem_map.2 ⟨e, he, rfl⟩
    rw [hB.2, b5] at this
    exact List.mem_range.1 this
  have hck : ck = cs.length := hB.1.trans b5
  have hop : execOp a.eval o = (do pure (.value (← Instr.next (a.eval x) false o.type))) := by unfold execOp; rw [ho]
  unfold Oper.wp
  rw [hop, hv]
  rcases run_next_at (P := c.P) w o.type ib.blk ib2.blk cs.length cs.length seen es ck i4 b4 hborn (Nat.le_refl _) with ⟨_, hrun⟩ | ⟨e, he, w1, hw1, hrun⟩
  · simp only [Sem.run_bind, hrun, Result.andThen_ok, Sem.run_pure]
    refine h0 _ _ (hr.put (.tuple #[.bool false]) _ (.tup _ _ rfl (fun i hi => ?_)) o.dst hd)
    match i, hi with
    | 0, _ => exact .pure _ _ (.bool false)
  · simp only [Sem.run_bind, hrun, Result.andThen_ok, Sem.run_pure]
    have hl : e ∈ es.toList ∧ e.born ∉ seen.toList := by
      unfold leftOf at he
      simp at he
      exact ⟨by simpa using he.1, by simpa using he.2⟩
    have hr1 : Rel c dom ι a w1 σ st := by rcases hw1 with rfl | rfl; exact hr; exact hr.drew
    have hh1 : w1.heap = w.heap := by rcases hw1 with rfl | rfl <;> rfl
    have i4' : w1.heap[ib.blk]? = some (.mapIter (some ib2.blk) cs.length seen cs.length) := by rw [hh1]; exact i4
    have hlt : ib.blk < w1.heap.size := (Array.getElem?_eq_some_iff.1 i4').1
    have hso : (st nI).isSome = true := by rw [hi]; rfl
    obtain ⟨r1, r2⟩ := hr1.one (w' := setBlock w1 ib.blk (.mapIter (some ib2.blk) cs.length (seen.push e.born) ck)) nI ib (iterO ib2.blk cs.length (seen.push e.born)) rfl rfl rfl (by simp [setBlock])
      (fun b hb' => by
        by_cases e : b = ib.blk
        · exact .inr ⟨ib, i1, hso, i3, e⟩
        · exact .inl (by simp [setBlock, Array.getElem?_setIfInBounds_ne (Ne.symm e)]))
      (fun _ => ⟨by simpa [setBlock] using hlt, .inl ⟨ib, i1, hso, i3, rfl⟩⟩)
      (fun ib2 h2 => .inl (Option.some.inj (i1.symm.trans h2)))
      (fun f1 f2 => ⟨ib, _, by simp [updI], i2, i3, by simp [setBlock, hlt]; rfl, by rw [hck]; rfl⟩)
    have hupd : updI ι nI ib = ι := by
      funext m
      unfold updI
      by_cases e : m = nI
      · subst e; simp [i1]
      · simp [e]
    rw [hupd] at r1
    refine h1 _ _ e.born (hborn e hl.1) hl.2 ((r1.put (.tuple #[.bool true, e.key, e.val]) (.tup [.bool true, .any, .any]) (.tup _ _ rfl (fun i hi => ?_)) o.dst hd).weaken (fun _ => Le.refl _) (fun m hm => hm.elim id (fun e => e ▸ hr.dom nI (by rw [i1]; rfl))))
    match i, hi with
    | 0, _ => exact .pure _ _ (.bool true)
    | 1, _ => exact .pure _ _ (.any _)
    | 2, _ => exact .pure _ _ (.any _)
theorem rel_entry (hr : Rel c dom ι a w σ st) {nM nI bm i : Nat} {x : Operand} {ks : List MK} {cs : List D} {seen : Array Nat} {ibM : IB} (ho : o.op = .entry x) (hx : opD c.G σ x = .bp nI 0) (hs : st nM = some (.mp ks cs)) (hM : ι nM = some ibM) (hbm : ibM.blk = bm) (hi : st nI = some (iterO bm cs.length (seen.push i))) (hlt : i < cs.length) (hd : ∀ t, o.dst = some t → t < c.N)
    (h0 : ∀ a' (hk : i < ks.length), Rel c dom ι a' w (setO σ o.dst (.tup [ks[i].d, cs[i]])) st → K a' w) : o.wp c.P a w K Q := by
  have hv := opD_rep hr x
  rw [hx] at hv
  obtain ⟨ib, i1, i2, i3, i4, hv⟩ := iter_at hr hi hv
  obtain ⟨ib2, es, ck, b1, b2, b3, b4, b5, b6, hB, b8⟩ := hr.blk nM _ hs
  obtain rfl : ib2 = ibM := Option.some.inj (b1.symm.trans hM)
  subst hbm
  have hck : ck = cs.length := hB.1.trans b5
  have hie : i < es.size := by omega
  have hlen : ks.length = es.size := by simpa using (congrArg List.length b6).symm
  have hborn : es[i].born = i := by
    have := congrArg (fun l => l[i]?) hB.2
    simpa [hie] using this
  have hkey : es[i].key = ks[i].val := by
    have := congrArg (fun l => l[i]?) b6
    simpa [hie, show i < ks.length by omega] using this
  have hrun := run_entry_at (P := c.P) w ib.blk ib2.blk cs.length seen es ck es[i] (by rw [hborn, hck]; exact i4) b4 (by simp) (by rw [hB.2]; exact List.nodup_range)
  have hop : execOp a.eval o = (do pure (.value (← Instr.entry (a.eval x)))) := by unfold execOp; rw [ho]
  unfold Oper.wp
  rw [hop, hv]
  simp only [Sem.run_bind, hrun, Result.andThen_ok, Sem.run_pure]
  refine h0 _ (by omega) (hr.put _ _ (.tup _ _ rfl (fun j hj => ?_)) o.dst hd)
  match j, hj with
  | 0, _ => show Rep _ _ _ es[i].key _; rw [hkey]; exact MK.d_rep _ _ _ _
  | 1, _ =>
    have := b8 i hlt
    simpa [hie] using this
end
end Go.Proofs.YtpdhikjfdjjjlaaGreatDoor.AL

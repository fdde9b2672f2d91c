/-
  accounts.Defects: seven iterators in any order, none of which yields.
-/
import Derived.Test.YtpdhikjfdjjjlaaGreatDoorGg
import Derived.Test.YtpdhikjfdjjjlaaGreatDoorGe
namespace Go.Proofs.YtpdhikjfdjjjlaaGreatDoor.AL
open Go Go.RowKit
set_option maxRecDepth 100000

def cSl : Code → Code | .seq a _ => a | c => c
def cSr : Code → Code | .seq _ b => b | c => c
def cBl : Code → Code | .block _ a => a | c => c
def cLp : Code → Code | .loop a => a | c => c
def cOps : Code → Array Oper | .region _ ops _ => ops | _ => #[]
def cFa : Code → Code | .rangeFunc _ _ a _ => a | c => c
def cFb : Code → Code | .rangeFunc _ _ _ b => b | c => c
def cBody (f : Func) : Code := match f.body with | some c => c | none => .skip
noncomputable def dC : Code := cBody Tryz.f181
noncomputable def dR0 := cSl dC
noncomputable def dA1 := cSl (cSr dC)
noncomputable def dR4 := cSl (cSr (cSr dC))
noncomputable def dR5 := cSl (cSr (cSr (cSr dC)))
noncomputable def dX4 := cSr (cSr (cSr (cSr dC)))
noncomputable def dR6 := cSl (cSl dX4)
noncomputable def dBL := cSr (cSl dX4)
noncomputable def dX6 := cSr dX4
noncomputable def dLB := cLp (cBl dBL)
noncomputable def dR7 := cSl dLB
noncomputable def dR8 := cSl (cBl (cSr (cSr dLB)))
noncomputable def dR9 := cSl (cSr (cBl (cSr (cSr dLB))))
noncomputable def dRF := cBl (cSr (cSr (cBl (cSr (cSr dLB)))))
noncomputable def dPre : Code := .seq dR0 (.seq dA1 (.seq dR4 dR5))
noncomputable def dO (c : Code) (i : Nat) : Oper := (cOps c).getD i default
theorem dC_eq : dC = .seq dR0 (.seq dA1 (.seq dR4 (.seq dR5 (.seq (.seq dR6 (.block 0 (.loop dLB))) dX6)))) := by kernel_rfl
theorem dLB_eq : dLB = .seq dR7 (.seq (.cond (.tmp 39) .skip (.exit 0)) (.block 1 (.seq dR8 (.seq dR9 (.block 2 (.rangeFunc (.tmp 43) #[44] (cFa dRF) (cFb dRF))))))) := by kernel_rfl
theorem dR6_eq : dR6 = .region 6 (cOps dR6) false := by kernel_rfl
theorem dR7_eq : dR7 = .region 7 (cOps dR7) false := by kernel_rfl
theorem dR8_eq : dR8 = .region 8 (cOps dR8) false := by kernel_rfl
theorem dR9_eq : dR9 = .region 9 (cOps dR9) false := by kernel_rfl
theorem dR6_sz : (cOps dR6).size = 24 := by kernel_rfl
theorem dR7_sz : (cOps dR7).size = 2 := by kernel_rfl
theorem dR8_sz : (cOps dR8).size = 6 := by kernel_rfl
theorem dR9_sz : (cOps dR9).size = 1 := by kernel_rfl
theorem o6 : (dO dR6 23).op = .range 312 (.tmp 36) ∧ (dO dR6 23).dst = some 37 ∧ (dO dR6 23).guard = none := by and_intros <;> kernel_rfl
theorem o7 : (dO dR7 0).op = .next (.tmp 37) false ∧ (dO dR7 0).dst = some 38 ∧ (dO dR7 0).guard = none := by and_intros <;> kernel_rfl
theorem o8 : (dO dR8 0).op = .entry (.tmp 37) ∧ (dO dR8 0).dst = some 40 ∧ (dO dR8 0).guard = none := by and_intros <;> kernel_rfl
noncomputable def dM (F : List (Nat × List D × D)) : Mo := MF cloneS F
noncomputable def dS0 (A : List D) : ES := ⟨0, SM.args A 0 (SM.full (depthOf 55)), [], []⟩
def oget (o : Option ES) : ES := match o with | some s => s | none => ⟨0, .lf, [], []⟩
def rget (o : Res) : ES := match o with | .nrm s => s | .ret s => s | _ => ⟨0, .lf, [], []⟩
def isN : Res → Bool | .nrm _ => true | _ => false
def isR : Res → Bool | .ret _ => true | _ => false
def isS : Option ES → Bool | some _ => true | none => false
noncomputable def dRun (F : List (Nat × List D × D)) (A : List D) : Option ES := match evS Ty G0 (dM F) 200 55 dPre (dS0 A) with
  | .nrm s5 => evSeq Ty G0 (dM F) (evS Ty G0 (dM F) 200) 55 (cOps dR6).toList ((cOps dR6).toList.take 23) s5
  | _ => none
def keys7 : List MK := [.i .i64 1, .i .i64 2, .i .i64 3, .i .i64 4, .i .i64 5, .i .i64 6, .i .i64 7]
def fns7 (bk : D) : List D := [.fn (.func 262) [bk] [], .fn (.func 263) [bk] [], .fn (.func 264) [bk] [], .fn (.func 265) [bk] [], .fn (.func 266) [bk] [], .fn (.func 267) [bk] [], .fn (.func 268) [bk] []]
noncomputable def dSt (bk : D) (bm : Nat) (seen : Array Nat) : St := [(16, .mp keys7 (fns7 bk)), (15, .box [.nils]), (39, iterO bm 7 seen)]
noncomputable def dE : List (Nat × D) := [(8, .bp 15 0), (37, .bp 39 0)]
def dσ : SM := ((SM.full 5).set (.bp 15 0) 8).set (.bp 39 0) 37
section
variable (bk : D) (bm : Nat) (seen : Array Nat) (k : Int) (fd : D)
noncomputable def evq (c : Code) (i : Nat) (s : ES) : Option ES := evSeq Ty G0 (dM []) (evS Ty G0 (dM []) 10) 55 (cOps c).toList ((cOps c).toList.drop i) s
noncomputable def s7f : ES := ⟨40, dσ.set (.tup [.bool false]) 38, dSt bk bm seen, []⟩
noncomputable def s7t : ES := ⟨40, dσ.set (.tup [.bool true, .any, .any]) 38, dSt bk bm seen, []⟩
noncomputable def t7f : ES := oget (evq dR7 1 (s7f bk bm seen))
noncomputable def t7t : ES := oget (evq dR7 1 (s7t bk bm seen))
theorem t7f_ok : evq dR7 1 (s7f bk bm seen) = some (t7f bk bm seen) := by kernel_rfl
theorem t7t_ok : evq dR7 1 (s7t bk bm seen) = some (t7t bk bm seen) := by kernel_rfl
theorem t7f_v : (t7f bk bm seen).σ.get 39 = .bool false ∧ (t7f bk bm seen).σ.get 8 = .bp 15 0 ∧ (t7f bk bm seen).st = dSt bk bm seen ∧ (t7f bk bm seen).nx = 41 := by and_intros <;> kernel_rfl
theorem t7t_v : (t7t bk bm seen).σ.get 39 = .bool true ∧ (t7t bk bm seen).σ.get 37 = .bp 39 0 ∧ (t7t bk bm seen).st = dSt bk bm seen ∧ (t7t bk bm seen).nx = 41 := by and_intros <;> kernel_rfl
noncomputable def s8 : ES := ⟨41, (t7t bk bm seen).σ.set (.tup [.int .i64 k, fd]) 40, dSt bk bm seen, []⟩
noncomputable def t8 : ES := oget (evq dR8 1 (s8 bk bm seen k fd))
theorem t8_ok : evq dR8 1 (s8 bk bm seen k fd) = some (t8 bk bm seen k fd) := by kernel_rfl
noncomputable def t9 : ES := oget (evq dR9 0 (t8 bk bm seen k fd))
theorem t9_ok : evq dR9 0 (t8 bk bm seen k fd) = some (t9 bk bm seen k fd) := by kernel_rfl
theorem t9_v : (t9 bk bm seen k fd).σ.get 43 = fd ∧ (t9 bk bm seen k fd).σ.get 8 = .bp 15 0 ∧ (t9 bk bm seen k fd).σ.get 37 = .bp 39 0 ∧ gs (t9 bk bm seen k fd).st 16 = some (.mp keys7 (fns7 bk)) ∧ gs (t9 bk bm seen k fd).st 15 = some (.box [.nils]) ∧ gs (t9 bk bm seen k fd).st 39 = some (iterO bm 7 seen) := by and_intros <;> kernel_rfl
end
noncomputable def s12 : ES := ⟨41, (SM.full 5).set (.bp 15 0) 8, [(15, .box [.nils])], []⟩
noncomputable def t12 : ES := rget (evS Ty G0 (dM []) 1000 55 dX6 s12)
theorem t12_ok : evS Ty G0 (dM []) 1000 55 dX6 s12 = .ret t12 := by kernel_rfl
theorem t12_v : t12.σ.get 4 = .nils ∧ t12.σ.get 5 = .int .i64 0 := by and_intros <;> kernel_rfl
theorem f181_res : Tryz.f181.results = #[.tmp 4, .tmp 5] ∧ Tryz.f181.ntmps = 55 := by and_intros <;> kernel_rfl
end Go.Proofs.YtpdhikjfdjjjlaaGreatDoor.AL
namespace Go.Proofs.YtpdhikjfdjjjlaaGreatDoor.AL
open Go Go.RowKit
set_option maxRecDepth 100000
/-- A loop, by a state beside it. -/
theorem wp_loopX {P : Program} {Q : Exit → Act → World → Prop} {a : Act} {w : World} {c : Code} {X : Type} (I : X → Act → World → Prop) (μ : X → Nat) (x0 : X) (h₀ : I x0 a w)
    (round : ∀ x a w, I x a w → c.wp P (Exit.then (fun a' w' => ∃ x', I x' a' w' ∧ μ x' < μ x) Q) a w) : (Code.loop c).wp P Q a w := by
  intro b k cs
  have key : ∀ n x a w, μ x = n → I x a w →
      ∃ e a' w', Q e a' w' ∧ Arrives P (lone (b.at a (.code c :: .inLoop c :: k)) cs w) b k cs e a' w' := by
    intro n
    induction n using Nat.strongRecOn with
    | _ n ih =>
      intro x a w hn hI
      obtain ⟨e, a₁, w₁, hq, harr⟩ := round x a w hI b (.inLoop c :: k) cs
      cases e with
      | normal =>
        obtain ⟨x', hI₁, hlt⟩ := hq
        obtain ⟨e₂, a₂, w₂, hq₂, harr₂⟩ := ih (μ x') (hn ▸ hlt) x' a₁ w₁ rfl hI₁
        exact ⟨e₂, a₂, w₂, hq₂, .of_steps (Steps.trans harr (.one step_inLoop)) harr₂⟩
      | exit id => exact ⟨_, a₁, w₁, hq, .pass (x := .inLoop c) rfl (fun _ _ => .inl (by simp)) harr⟩
      | goto l => exact ⟨_, a₁, w₁, hq, .pass (x := .inLoop c) rfl (fun _ _ => .inl (by simp)) harr⟩
      | ret => exact ⟨_, a₁, w₁, hq, .pass (x := .inLoop c) rfl (fun _ _ => .inl (by simp)) harr⟩
      | panic ch => exact ⟨_, a₁, w₁, hq, .pass (x := .inLoop c) rfl (fun _ _ => .inl (by simp)) harr⟩
      | outgrown => exact ⟨_, a₁, w₁, hq, .pass (x := .inLoop c) rfl (fun _ _ => .inl (by simp)) harr⟩
  obtain ⟨e, a', w', hq, harr⟩ := key _ x0 a w rfl h₀
  exact ⟨e, a', w', hq, .of_steps (.one step_loop) harr⟩
def marks (rs : List Nat) : List Deferred := rs.map fun r => { target := .collected r, args := #[] }
/-- The blocks of the calls that are put off: empty ones. -/
def DOK (B : Nat) (rs : List Nat) (ι : Nat → Option IB) (st : Nat → Option Blk) (w : World) : Prop := rs.Nodup ∧ ∀ r ∈ rs, B ≤ r ∧ w.heap[r]? = some (.deferred (some [])) ∧ ¬ Own ι st r
theorem leaves_marks {P : Program} {fn : Func} {tmps : Array Value} {R : Ending → World → Prop} {B : Nat} : ∀ (rs : List Nat) (w : World), rs.Nodup → (∀ r ∈ rs, B ≤ r ∧ w.heap[r]? = some (.deferred (some []))) → (∀ w', Below B w w' → LeavesInM Fence.wide 0 P fn tmps R [] .returning w') → LeavesInM Fence.wide 0 P fn tmps R (marks rs) .returning w
  | [], w, _, _, h => h w (Below.refl _ _)
  | r :: rs, w, hn, hr, h => by
    obtain ⟨h1, h2⟩ := List.nodup_cons.1 hn
    obtain ⟨k1, k2⟩ := hr r (by simp)
    refine ⟨by simp, .inl ⟨r, _, rfl, run_takeDeferred k2, leaves_marks rs _ h2 (fun q hq => ⟨(hr q (by simp [hq])).1, ?_⟩) (fun w' hw => h w' ((Below.put _ _ _ k1).trans hw))⟩⟩
    exact (World.putObj_heap_other (fun (e : q = r) => h1 (by rw [← e]; exact hq))).trans (hr q (by simp [hq])).2
theorem Rel.defer {c : Ctx} {dom : Nat → Prop} {ι : Nat → Option IB} {a : Act} {w : World} {σ : Nat → D} {st : Nat → Option Blk} (h : Rel c dom ι a w σ st) (df : List Deferred) : Rel ⟨c.P, c.G, c.N, c.B, c.w0, c.O, df, c.ι0⟩ dom ι { a with defers := df } w σ st :=
  ⟨h.size, rfl, h.env, h.blk, h.inj, h.dom, h.os, h.tape, h.output, h.hsize, h.keep, h.low, h.own, h.glob, h.grow⟩
theorem evS_seq_nrm {Ty : Nat → Option TyI} {G : Nat → Option (List D)} {M : Mo} {f N : Nat} {a b : Code} {s s' : ES} (h : evS Ty G M (f + 1) N (.seq a b) s = .nrm s') : ∃ s1, evS Ty G M f N a s = .nrm s1 ∧ evS Ty G M f N b s1 = .nrm s' := by
  simp only [evS] at h
  split at h
  · rename_i s1 h1; exact ⟨s1, h1, h⟩
  · rename_i h1; exact absurd h (h1 s')
/-- One operation that is always done. -/
theorem wpOps_one {P : Program} {ops : Array Oper} {Q : Exit → Act → World → Prop} {i : Nat} {rest : List Nat} {a : Act} {w : World} (hi : i < ops.size) (hg : (ops.getD i default).guard = none) (h : (ops.getD i default).wp P a w (wpOps P ops Q rest) Q) : wpOps P ops Q (i :: rest) a w := by
  rw [wpOps_cons]
  unfold wpOp
  have e : ops[i]? = some (ops.getD i default) := by simp [hi]
  rw [e]
  have hw : Region.wanted (ops.getD i default) (yielded ops a.tmps) = true := by unfold Region.wanted; rw [hg]
  simp only [hw, if_true]
  exact .inl h
end Go.Proofs.YtpdhikjfdjjjlaaGreatDoor.AL
namespace Go.Proofs.YtpdhikjfdjjjlaaGreatDoor.AL
open Go Go.RowKit
set_option maxRecDepth 100000
theorem dσ_get : HasN 55 dσ ∧ dσ.get = setO (setO (fun _ => .any) (some 8) (.bp 15 0)) (some 37) (.bp 39 0) := by
  have h0 : HasN 55 (SM.full 5) := depthOf_has 55 (by omega)
  obtain ⟨h1, h2, _⟩ := h0.setO (dst := some 8) (by rfl) (.bp 15 0)
  obtain ⟨h3, h4, _⟩ := h1.setO (dst := some 37) (by rfl) (.bp 39 0)
  refine ⟨h3, ?_⟩
  show (((SM.full 5).setO (some 8) (.bp 15 0)).setO (some 37) (.bp 39 0)).get = _
  rw [h4, h2]
  congr 2
  funext t
  exact SM.full_get 5 t
theorem dE_le (σ : Nat → D) (h8 : σ 8 = .bp 15 0) (h37 : σ 37 = .bp 39 0) : ∀ t, Le (σ t) (gt dE t) := by
  intro t
  simp only [dE, gt]
  by_cases e : t = 8
  · subst e; simp only [if_true]; rw [h8]; exact Le.refl _
  · rw [if_neg e]
    by_cases e2 : t = 37
    · subst e2; simp only [if_true]; rw [h37]; exact Le.refl _
    · rw [if_neg e2]; exact Le.any _
theorem dE_eq : ∀ t, Le (gt dE t) (dσ.get t) := by
  intro t
  rw [dσ_get.2]
  simp only [dE, gt, setO]
  by_cases e : t = 37
  · subst e; simp only [show (37:Nat) = 8 ↔ False from by decide, if_true, if_false]; exact Le.refl _
  · by_cases e2 : t = 8
    · subst e2; simp only [show (8:Nat) = 37 ↔ False from by decide, if_true, if_false]; exact Le.refl _
    · simp only [e, e2, if_false]; exact Le.refl _
theorem dSt_gs {bk : D} {bm : Nat} {seen : Array Nat} {st : Nat → Option Blk} (h1 : st 16 = some (.mp keys7 (fns7 bk))) (h2 : st 15 = some (.box [.nils])) (h3 : st 39 = some (iterO bm 7 seen)) : ∀ n b, gs (dSt bk bm seen) n = some b → st n = some b := by
  intro n b h
  simp only [dSt, gs] at h
  by_cases e1 : n = 16
  · subst e1; simp only [if_true] at h; rw [h1]; exact h
  · rw [if_neg e1] at h
    by_cases e2 : n = 15
    · subst e2; simp only [if_true] at h; rw [h2]; exact h
    · rw [if_neg e2] at h
      by_cases e3 : n = 39
      · subst e3; simp only [if_true] at h; rw [h3]; exact h
      · rw [if_neg e3] at h; cases h
theorem dSt_upd (bk : D) (bm : Nat) (seen seen' : Array Nat) : updS (gs (dSt bk bm seen)) 39 (some (iterO bm 7 seen')) = gs (dSt bk bm seen') := by
  funext n
  simp only [updS, dSt, gs]
  by_cases e1 : n = 39
  · subst e1; simp
  · rw [if_neg e1, if_neg e1, if_neg e1]
theorem dSt_lo {bk : D} (hb : bk.lo 40 = true) (bm : Nat) (seen : Array Nat) : ∀ p ∈ dSt bk bm seen, p.1 < 40 ∧ p.2.lo 40 = true := by
  intro p hp
  simp only [dSt, List.mem_cons, List.not_mem_nil, or_false] at hp
  rcases hp with rfl | rfl | rfl
  · refine ⟨show 16 < 40 by omega, ?_⟩
    simp [Blk.lo, fns7, D.los, D.lo, hb]
  · exact ⟨show 15 < 40 by omega, rfl⟩
  · exact ⟨show 39 < 40 by omega, rfl⟩
end Go.Proofs.YtpdhikjfdjjjlaaGreatDoor.AL
namespace Go.Proofs.YtpdhikjfdjjjlaaGreatDoor.AL
open Go Go.RowKit
set_option maxRecDepth 100000
structure LI (bk : D) (F : Nat → Prop) (W : World) (bm : Nat) (x : Array Nat) (a : Act) (w : World) : Prop where
  ex : ∃ (ι : Nat → Option IB) (rs : List Nat) (ibM : IB), Rel ⟨Tryz.prog, G0, 55, F, W, fun _ => False, marks rs, fun _ => none⟩ (· < 40) ι a w (gt dE) (gs (dSt bk bm x)) ∧ ι 16 = some ibM ∧ ibM.box = true ∧ ibM.blk = bm ∧ DOK W.heap.size rs ι (gs (dSt bk bm x)) w
  nd : x.toList.Nodup
  lt : ∀ i ∈ x.toList, i < 7
def EI (F : Nat → Prop) (W : World) (a : Act) (w : World) : Prop :=
  ∃ (ι : Nat → Option IB) (rs : List Nat), Rel ⟨Tryz.prog, G0, 55, F, W, fun _ => False, marks rs, fun _ => none⟩ (· < 41) ι a w s12.σ.get (gs s12.st) ∧ DOK W.heap.size rs ι (gs s12.st) w
theorem own_sub {ι : Nat → Option IB} {st st' : Nat → Option Blk} (h : ∀ n b, st' n = some b → st n = some b) {b : Nat} (ho : Own ι st' b) : Own ι st b := by
  obtain ⟨n, ib, h1, h2, h3, h4⟩ := ho
  refine ⟨n, ib, ?_, h2, h3, h4⟩
  cases e : st' n with
  | none => rw [e] at h1; cases h1
  | some q => rw [h n q e]; rfl
theorem own_res {n : Nat} {ι : Nat → Option IB} {st : Nat → Option Blk} {b : Nat} (ho : Own (resI n ι) st b) : Own ι st b := by
  obtain ⟨m, ib, h1, h2, h3, h4⟩ := ho
  unfold resI at h2
  split at h2
  · exact ⟨m, ib, h1, h2, h3, h4⟩
  · cases h2
theorem grow_box {ι ι' : Nat → Option IB} (h : Grows ι ι') {n : Nat} {ib : IB} (hn : ι n = some ib) (hb : ib.box = true) : ι' n = some ib := by
  obtain ⟨ib', e1, e2⟩ := h n ib hn
  rcases e2 with rfl | ⟨h, _⟩
  · exact e1
  · rw [hb] at h; cases h
theorem pigeon {l : List Nat} {n : Nat} (hn : l.Nodup) (hl : ∀ i ∈ l, i < n) : l.length ≤ n := by
  have := hn.length_le_of_subset (l₂ := List.range n) (fun i hi => List.mem_range.2 (hl i hi))
  simpa using this
theorem keys7_d : ∀ {i : Nat} (h : i < keys7.length), keys7[i].d = .int .i64 (i + 1) := by
  intro i h
  have h' : i < 7 := h
  match i, h' with
  | 0, _ => rfl
  | 1, _ => rfl
  | 2, _ => rfl
  | 3, _ => rfl
  | 4, _ => rfl
  | 5, _ => rfl
  | 6, _ => rfl
theorem fns7_d {bk : D} : ∀ {i : Nat} (h : i < (fns7 bk).length), (fns7 bk)[i] = .fn (.func (262 + i)) [bk] [] := by
  intro i h
  have h' : i < 7 := h
  match i, h' with
  | 0, _ => rfl
  | 1, _ => rfl
  | 2, _ => rfl
  | 3, _ => rfl
  | 4, _ => rfl
  | 5, _ => rfl
  | 6, _ => rfl
theorem dM_ok : MoOK Tryz.prog G0 (dM []) := mo_ok (fun p hp => by cases hp) clone_ok
theorem dev_ok (f : Nat) : EvOK Tryz.prog G0 (evS Ty G0 (dM []) f) := evS_ok ty_ok dM_ok mixed f
theorem s12_le {σ : Nat → D} (h : σ 8 = .bp 15 0) : ∀ t, Le (σ t) (s12.σ.get t) := by
  have h0 : HasN 55 (SM.full 5) := depthOf_has 55 (by omega)
  obtain ⟨_, h2, _⟩ := h0.setO (dst := some 8) (by rfl) (.bp 15 0)
  intro t
  have : s12.σ.get t = setO (SM.full 5).get (some 8) (.bp 15 0) t := congrFun h2 t
  rw [this]
  simp only [setO]
  by_cases e : t = 8
  · subst e; rw [if_pos rfl, h]; exact Le.refl _
  · rw [if_neg e, SM.full_get]; exact Le.any _
theorem s12_st {bk : D} {bm : Nat} {seen : Array Nat} : ∀ n b, gs s12.st n = some b → gs (dSt bk bm seen) n = some b := by
  intro n b h
  simp only [s12, gs] at h
  by_cases e2 : n = 15
  · subst e2; simp only [if_true] at h; exact h
  · rw [if_neg e2] at h; cases h
theorem opD_tmp {G : Nat → Option (List D)} {σ : Nat → D} {t : Nat} : opD G σ (.tmp t) = σ t := rfl
theorem df_round {bk : D} (hbk : bk.lo 0 = true) (hbk40 : bk.lo 40 = true) (hit : ∀ i, i < 7 → Pure Tryz.prog G0 (262 + i) [bk, .any] (.tup [])) {F : Nat → Prop} {W : World} {bm : Nat} {x : Array Nat} {a : Act} {w : World} (h : LI bk F W bm x a w) {Q : Exit → Act → World → Prop}
    (hQ : ∀ a' w', EI F W a' w' → Q (.exit 0) a' w') : dLB.wp Tryz.prog (Exit.then (fun a' w' => ∃ x', LI bk F W bm x' a' w' ∧ 7 - x'.size < 7 - x.size) Q) a w := by
  obtain ⟨ι, rs, ibM, hr, hM, hbox, hbm, hD⟩ := h.ex
  have hr1 := (hr.weaken dE_eq (fun _ h => h)).rebase
  have hd7 : ∀ t, (dO dR7 0).dst = some t → t < 55 := fun t ht => by rw [o7.2.1] at ht; cases ht; decide
  have hd8 : ∀ t, (dO dR8 0).dst = some t → t < 55 := fun t ht => by rw [o8.2.1] at ht; cases ht; decide
  have rsLt : ∀ r ∈ rs, r < w.heap.size := fun r hrs => isSome_lt (by rw [(hD.2 r hrs).2.1]; rfl)
  rw [dLB_eq]
  refine wp_seq ?_
  rw [dR7_eq]
  refine wp_region ?_
  rw [show List.range (cOps dR7).size = [0, 1] from by rw [dR7_sz]; rfl]
  refine wpOps_one (by rw [dR7_sz]; decide) o7.2.2 ?_
  refine rel_next (nM := 16) (nI := 39) (bm := bm) (o := dO dR7 0) (ks := keys7) (cs := fns7 bk) (seen := x) hr1 o7.1 (by kernel_rfl) rfl hM hbm rfl hd7 (fun a1 w1 hr2 => ?_) (fun a1 w1 i hi hni hr2 => ?_)
  · rw [o7.2.1] at hr2
    have hr2' : Rel ⟨Tryz.prog, G0, 55, F, w, Own ι (gs (dSt bk bm x)), marks rs, ι⟩ (· < (s7f bk bm x).nx) ι a1 w1 (s7f bk bm x).σ.get (gs (s7f bk bm x).st) := by
      rw [show (s7f bk bm x).σ.get = setO dσ.get (some 38) (.tup [.bool false]) from (dσ_get.1.setO (dst := some 38) (by rfl) _).2.1]
      exact hr2
    rw [show ([1] : List Nat) = (List.range (cOps dR7).size).drop 1 from by rw [dR7_sz]; rfl]
    refine (evSeq_ok ty_ok dM_ok (dev_ok 10) _ 1 (s7f bk bm x) (t7f bk bm x) rfl (by rw [dR7_sz]; decide) (dσ_get.1.setO (dst := some 38) (by rfl) _).1 (fun p hp => by cases hp) (t7f_ok bk bm x)).2.2 _ _ rfl rfl rfl (fun ι2 a2 w2 hr3 => ?_) ι a1 w1 hr2'
    show (Code.seq _ _).wp _ _ _ _
    refine wp_seq (wp_cond_false ?_ (wp_exit ?_))
    · have := opD_rep hr3 (.tmp 39)
      rw [show opD _ (t7f bk bm x).σ.get (.tmp 39) = .bool false from (t7f_v bk bm x).1] at this
      exact this.is_bool
    · obtain ⟨u1, u2, u3⟩ := hr.unbase hr3
      refine hQ _ _ ⟨ι2, rs, ?_, hD.1, fun r hrs => ?_⟩
      · rw [(t7f_v bk bm x).2.2.1, (t7f_v bk bm x).2.2.2] at u1
        exact (u1.drop s12_st).weaken (s12_le (t7f_v bk bm x).2.1) (fun _ h => h)
      · obtain ⟨d1, d2, d3⟩ := hD.2 r hrs
        obtain ⟨f1, f2⟩ := u3 r (rsLt r hrs) d3
        refine ⟨d1, f1.trans d2, fun ho => f2 ?_⟩
        rw [(t7f_v bk bm x).2.2.1]
        exact own_sub s12_st ho
  · rw [o7.2.1] at hr2
    have hi7 : i < 7 := hi
    have hr2' : Rel ⟨Tryz.prog, G0, 55, F, w, Own ι (gs (dSt bk bm x)), marks rs, ι⟩ (· < (s7t bk bm (x.push i)).nx) ι a1 w1 (s7t bk bm (x.push i)).σ.get (gs (s7t bk bm (x.push i)).st) := by
      rw [show (s7t bk bm (x.push i)).σ.get = setO dσ.get (some 38) (.tup [.bool true, .any, .any]) from (dσ_get.1.setO (dst := some 38) (by rfl) _).2.1]
      have := dSt_upd bk bm x (x.push i)
      show Rel _ (· < 40) ι a1 w1 _ (gs (dSt bk bm (x.push i)))
      rw [← this]
      exact hr2
    rw [show ([1] : List Nat) = (List.range (cOps dR7).size).drop 1 from by rw [dR7_sz]; rfl]
    have ht := evSeq_ok ty_ok dM_ok (dev_ok 10) _ 1 (s7t bk bm (x.push i)) (t7t bk bm (x.push i)) rfl (by rw [dR7_sz]; decide) (dσ_get.1.setO (dst := some 38) (by rfl) _).1 (fun p hp => by cases hp) (t7t_ok bk bm (x.push i))
    refine ht.2.2 _ _ rfl rfl rfl (fun ι2 a2 w2 hr3 => ?_) ι a1 w1 hr2'
    have hM2 := grow_box hr3.grow hM hbox
    show (Code.seq _ _).wp _ _ _ _
    refine wp_seq (wp_cond_true ?_ (wp_skip ?_))
    · have := opD_rep hr3 (.tmp 39)
      rw [show opD _ (t7t bk bm (x.push i)).σ.get (.tmp 39) = .bool true from (t7t_v bk bm (x.push i)).1] at this
      exact this.is_bool
    show (Code.block 1 _).wp _ _ _ _
    refine wp_block (wp_seq ?_)
    rw [dR8_eq]
    refine wp_region ?_
    have hrg : List.range (cOps dR8).size = 0 :: (List.range (cOps dR8).size).drop 1 := by rw [dR8_sz]; rfl
    rw [hrg]
    refine wpOps_one (by rw [dR8_sz]; decide) o8.2.2 ?_
    rw [(t7t_v bk bm (x.push i)).2.2.1, (t7t_v bk bm (x.push i)).2.2.2] at hr3
    refine rel_entry (nM := 16) (nI := 39) (bm := bm) (o := dO dR8 0) (ks := keys7) (cs := fns7 bk) (seen := x) (i := i) hr3 o8.1 (t7t_v bk bm (x.push i)).2.1 rfl hM2 hbm rfl hi hd8 (fun a3 hk hr4 => ?_)
    rw [o8.2.1, keys7_d hk, fns7_d hi] at hr4
    have hr4' : Rel ⟨Tryz.prog, G0, 55, F, w, Own ι (gs (dSt bk bm x)), marks rs, ι⟩ (· < (s8 bk bm (x.push i) (i + 1) (.fn (.func (262 + i)) [bk] [])).nx) ι2 a3 w2 (s8 bk bm (x.push i) (i + 1) (.fn (.func (262 + i)) [bk] [])).σ.get (gs (s8 bk bm (x.push i) (i + 1) (.fn (.func (262 + i)) [bk] [])).st) := by
      rw [show (s8 bk bm (x.push i) (i + 1) (.fn (.func (262 + i)) [bk] [])).σ.get = setO (t7t bk bm (x.push i)).σ.get (some 40) (.tup [.int .i64 (i + 1), .fn (.func (262 + i)) [bk] []]) from (ht.1.setO (dst := some 40) (by rfl) _).2.1]
      exact hr4
    have h8 := evSeq_ok ty_ok dM_ok (dev_ok 10) _ 1 (s8 bk bm (x.push i) (i + 1) (.fn (.func (262 + i)) [bk] [])) (t8 bk bm (x.push i) (i + 1) (.fn (.func (262 + i)) [bk] [])) rfl (by rw [dR8_sz]; decide) (ht.1.setO (dst := some 40) (by rfl) _).1 (fun p hp => by cases hp) (t8_ok _ _ _ _ _)
    refine h8.2.2 _ _ rfl rfl rfl (fun ι3 a4 w3 hr5 => ?_) ι2 a3 w2 hr4'
    show (Code.seq _ _).wp _ _ _ _
    refine wp_seq ?_
    rw [dR9_eq]
    refine wp_region ?_
    have h9 := evSeq_ok ty_ok dM_ok (dev_ok 10) _ 0 (t8 bk bm (x.push i) (i + 1) (.fn (.func (262 + i)) [bk] [])) (t9 bk bm (x.push i) (i + 1) (.fn (.func (262 + i)) [bk] [])) rfl (by rw [dR9_sz]; decide) h8.1 h8.2.1 (t9_ok _ _ _ _ _)
    refine h9.2.2 _ _ rfl rfl rfl (fun ι4 a5 w5 hr6 => ?_) ι3 a4 w3 hr5
    obtain ⟨v43, v8, v37, v16, v15, v39⟩ := t9_v bk bm (x.push i) (i + 1) (.fn (.func (262 + i)) [bk] [])
    obtain ⟨u1, u2, u3⟩ := hr.unbase hr6
    have hM4 := grow_box hr6.grow hM hbox
    show (Code.block 2 _).wp _ _ _ _
    have hg := opD_rep u1 (.tmp 43)
    rw [opD_tmp, v43] at hg
    obtain ⟨c1, c2, hv, s1, s2, r1, r2⟩ := hg.is_fn
    have hp := hit i hi7
    refine wp_block (wp_rangeFn hv hp.body (fun w6 hb6 => ⟨fun w7 => Below w6.heap.size w6 w7, fun _ h => h, ?_⟩) (fun w7 hb7 hd7 => ?_))
    · obtain ⟨v, rfl⟩ : ∃ v, c1 = #[v] := by
        refine ⟨c1.getD 0 undef, ?_⟩
        apply Array.ext
        · simpa using s1
        · intro j j1 j2
          have : j = 0 := by simp at j2; omega
          subst this
          simp [j1]
      obtain rfl : c2 = #[] := Array.eq_empty_of_size_eq_zero (by simpa using s2)
      obtain ⟨F5, hgl, hlo, hrr⟩ : ∃ F5 : Nat → Prop, (∀ g row, G0 g = some row → RepP w5 F5 (.pointer (some ⟨g, 0, none⟩)) (.vp row)) ∧ (∀ b, F5 b → b < w5.heap.size) ∧ Rep w5 F5 ι4 v bk :=
        ⟨_, u1.glob, fun b hb => by
          rcases hb with hb | hb
          · exact Nat.lt_of_lt_of_le (u1.low b hb).1 u1.hsize
          · exact (u1.own b hb).1, r1 0 (by simp)⟩
      have hmono : ∀ v d, RepP w5 F5 v d → RepP w6 F5 v d := fun v d hv => hv.mono (fun b hb hs => ⟨hb6.block b (isSome_lt hs), hb⟩)
      refine (hp.calls w6 F5 _ (by simp) (fun j hj => ?_) (fun g row hgr => hmono _ _ (hgl g row hgr)) (fun b hb => Nat.lt_of_lt_of_le (hlo b hb) hb6.size)).mono ?_
      · match j, hj with
        | 0, _ =>
          have h0 := hrr.lo 0 hbk
          have : resI 0 ι4 = fun _ => none := by funext m; simp [resI]
          rw [this] at h0
          exact hmono _ _ h0.ofNone
        | 1, _ => exact .any _
      · rintro e w7 ⟨v', rfl, hb, _⟩
        exact ⟨⟨v', rfl⟩, hb⟩
    · show ∃ x', LI bk F W bm x' _ _ ∧ _
      have hsub := dSt_gs (st := gs (t9 bk bm (x.push i) (i + 1) (.fn (.func (262 + i)) [bk] [])).st) v16 v15 v39
      have hdf : a5.defers = marks rs := u1.defers
      have e1 : ({ target := .collected w5.heap.size, args := #[] } : Deferred) :: a5.defers = marks (w5.heap.size :: rs) := by rw [hdf]; rfl
      have q1 := ((u1.below hb7).defer (marks (w5.heap.size :: rs))).drop hsub
      have q2 := (q1.weaken (dE_le _ v8 v37) (fun _ h => h)).purge 40 (fun p hp => by
        simp only [dE, List.mem_cons, List.not_mem_nil, or_false] at hp
        rcases hp with rfl | rfl <;> rfl) (dSt_lo hbk40 bm (x.push i)) (fun m hm => by cases hm)
      have hnd : (x.push i).toList.Nodup := by
        simp only [Array.toList_push]
        refine List.nodup_append.2 ⟨h.nd, by simp, fun p hpm q hq => ?_⟩
        simp only [List.mem_singleton] at hq
        exact fun (e : p = q) => hni (by rw [← hq, ← e]; exact hpm)
      have hlt7 : ∀ j ∈ (x.push i).toList, j < 7 := by
        intro j hj
        simp only [Array.toList_push, List.mem_append, List.mem_singleton] at hj
        rcases hj with hj | rfl
        · exact h.lt j hj
        · exact hi7
      refine ⟨x.push i, ⟨⟨resI 40 ι4, w5.heap.size :: rs, ibM, ?_, by simp [resI, hM4], hbox, hbm, ?_⟩, hnd, hlt7⟩, ?_⟩
      · rw [e1]; exact q2
      · have hsz5 : w.heap.size ≤ w5.heap.size := u2
        refine ⟨List.nodup_cons.2 ⟨fun hm => by have := rsLt _ hm; omega, hD.1⟩, fun r hrs => ?_⟩
        have hno : ∀ b, ¬ Own ι4 (gs (t9 bk bm (x.push i) (i + 1) (.fn (.func (262 + i)) [bk] [])).st) b → ¬ Own (resI 40 ι4) (gs (dSt bk bm (x.push i))) b := fun b hb ho => hb (own_sub hsub (own_res ho))
        rcases List.mem_cons.1 hrs with rfl | hrs
        · exact ⟨u1.hsize, hd7, hno _ (fun ho => Nat.lt_irrefl _ (u1.own _ ho).1)⟩
        · obtain ⟨d1, d2, d3⟩ := hD.2 r hrs
          obtain ⟨f1, f2⟩ := u3 r (rsLt r hrs) d3
          exact ⟨d1, (hb7.block r (by have := rsLt r hrs; omega)).trans (f1.trans d2), hno r f2⟩
      · have h1 := pigeon hnd hlt7
        simp at h1 ⊢
        omega
end Go.Proofs.YtpdhikjfdjjjlaaGreatDoor.AL
namespace Go.Proofs.YtpdhikjfdjjjlaaGreatDoor.AL
open Go Go.RowKit
set_option maxRecDepth 100000
theorem defects_of {A : List D} {bk : D} {s6 : ES} (hA : A.length = 2) (hrun : dRun [] A = some s6) (hnx : s6.nx = 39) (h36 : s6.σ.get 36 = .rf 16 false) (h8 : s6.σ.get 8 = .bp 15 0) (h16 : gs s6.st 16 = some (.mp keys7 (fns7 bk))) (h15 : gs s6.st 15 = some (.box [.nils]))
    (hbk : bk.lo 0 = true) (hbk40 : bk.lo 40 = true) (hit : ∀ i, i < 7 → Pure Tryz.prog G0 (262 + i) [bk, .any] (.tup [])) : Pure Tryz.prog G0 181 A (.tup [.nils, .int .i64 0]) := by
  refine ⟨⟨Tryz.f181, Tryz.func181, rfl, by rfl⟩, fun w F vs hsz hrep hglob hlow => ?_⟩
  refine (callsIn_wide (n := 0)).1 (callsIn_of_wp_marks Tryz.func181 (show Tryz.f181.body = some dC from by kernel_rfl) trivial ((wpIn_wide (n := 0)).2 ?_))
  rw [f181_res.2]
  obtain ⟨st1, st2⟩ := start_ok (N := 55) (A := A) (by omega) (by omega)
  have hO : ∀ b, Own (fun _ => none) (gs []) b → False := fun b ⟨n, ib, h1, _⟩ => by simp [gs] at h1
  have hr0 : Rel ⟨Tryz.prog, G0, 55, F, w, fun _ => False, marks [], fun _ => none⟩ (· < (dS0 A).nx) (fun _ => none) { tmps := vs ++ Array.replicate (55 - vs.size) undef, defers := [] } w (dS0 A).σ.get (gs (dS0 A).st) := by
    refine ⟨by simp; omega, rfl, fun t => ?_, fun n b h => by simp [dS0, gs] at h, fun n m h => by simp [dS0, gs] at h, fun n h => by simp at h, rfl, rfl, rfl, Nat.le_refl _, fun b _ _ => rfl, fun b hb => ⟨hlow b hb, id⟩, fun b hb => (hO b hb).elim, fun g row hg => ?_, fun n ib h => by cases h⟩
    · rcases st2 t with h | h
      · rw [show (dS0 A).σ.get t = .any from h]; exact .pure _ _ (.any _)
      · rw [show (dS0 A).σ.get t = A.getD t .any from h]
        by_cases ht : t < A.length
        · have e1 : (vs ++ Array.replicate (55 - vs.size) undef).getD t undef = vs.getD t undef := by
            simp [Array.getElem?_append, hsz, ht]
          have e2 : A.getD t .any = A[t] := by simp [ht]
          rw [e2]
          show Rep w _ _ ((vs ++ Array.replicate (55 - vs.size) undef).getD t undef) _
          rw [e1]
          exact .pure _ _ ((hrep t ht).mono (fun b hb _ => ⟨rfl, fun hF => hF.elim hb (fun h => hO b h)⟩))
        · have e2 : A.getD t .any = .any := by simp [show A.length ≤ t by omega]
          rw [e2]; exact .pure _ _ (.any _)
    · exact (hglob g row hg).mono (fun b hb _ => ⟨rfl, fun hF => hF.elim hb (fun h => hO b h)⟩)
  obtain ⟨s5, e5, e6⟩ : ∃ s5, evS Ty G0 (dM []) 200 55 dPre (dS0 A) = .nrm s5 ∧ evSeq Ty G0 (dM []) (evS Ty G0 (dM []) 200) 55 (cOps dR6).toList ((cOps dR6).toList.take 23) s5 = some s6 := by
    unfold dRun at hrun
    split at hrun
    · rename_i s5 h; exact ⟨s5, h, hrun⟩
    · cases hrun
  obtain ⟨s1, k1, e5⟩ := evS_seq_nrm (f := 199) e5
  obtain ⟨s2, k2, e5⟩ := evS_seq_nrm (f := 198) e5
  obtain ⟨s3, k3, k4⟩ := evS_seq_nrm (f := 197) e5
  have p1 := dev_ok 199 55 dR0 (dS0 A) st1 (fun p hp => by cases hp)
  rw [k1] at p1
  have p2 := dev_ok 198 55 dA1 s1 p1.1 p1.2.1
  rw [k2] at p2
  have p3 := dev_ok 197 55 dR4 s2 p2.1 p2.2.1
  rw [k3] at p3
  have p4 := dev_ok 197 55 dR5 s3 p3.1 p3.2.1
  rw [k4] at p4
  rw [dC_eq]
  refine wp_seq (wp_mono (p1.2.2.1 F w (fun _ => False) (marks []) (fun _ => none) _ _ _ hr0) ?_)
  rintro e a1 w1 ⟨ι1, rfl, hr1⟩
  show (Code.seq _ _).wp _ _ _ _
  refine wp_seq (wp_mono (p2.2.2.1 F w (fun _ => False) (marks []) (fun _ => none) _ _ _ hr1) ?_)
  rintro e a2 w2 ⟨ι2, rfl, hr2⟩
  show (Code.seq _ _).wp _ _ _ _
  refine wp_seq (wp_mono (p3.2.2.1 F w (fun _ => False) (marks []) (fun _ => none) _ _ _ hr2) ?_)
  rintro e a3 w3 ⟨ι3, rfl, hr3⟩
  show (Code.seq _ _).wp _ _ _ _
  refine wp_seq (wp_mono (p4.2.2.1 F w (fun _ => False) (marks []) (fun _ => none) _ _ _ hr3) ?_)
  rintro e a4 w4 ⟨ι4, rfl, hr4⟩
  show (Code.seq _ _).wp _ _ _ _
  refine wp_seq (wp_seq ?_)
  rw [dR6_eq]
  refine wp_region ?_
  show wpOps _ _ _ ((List.range (cOps dR6).size).drop 0) _ _
  have h6 := evSeqP_ok (ops := cOps dR6) ty_ok dM_ok (dev_ok 200) ((cOps dR6).toList.take 23) ((cOps dR6).toList.drop 23) 0 s5 s6 (by rw [List.take_append_drop]; rfl) (Nat.zero_le _) p4.1 p4.2.1 e6
  refine h6.2.2 _ _ rfl rfl rfl (fun ι5 a5 w5 hr5 => ?_) ι4 a4 w4 hr4
  have hl : (List.range (cOps dR6).size).drop (0 + ((cOps dR6).toList.take 23).length) = [23] := by kernel_rfl
  rw [hl]
  refine wpOps_one (by rw [dR6_sz]; decide) o6.2.2 ?_
  obtain ⟨⟨ki, ei⟩, hmt⟩ := Option.isSome_iff_exists.1 (show (mapT Ty 312).isSome = true from by kernel_rfl)
  obtain ⟨mk, me, _, _, hu, _⟩ := mapT_ok ty_ok hmt
  rw [hnx] at hr5
  refine rel_range (o := dO dR6 23) (nM := 16) (nI := 39) (ks := keys7) (cs := fns7 bk) hr5 o6.1 hu (by rw [opD_tmp]; exact h36) h16 (Nat.lt_irrefl 39) (fun t ht => by rw [o6.2.1] at ht; cases ht; exact (by decide : 37 < 55)) (fun a6 w6 ι6 ibM hM hr6 => ?_)
  rw [o6.2.1] at hr6
  have hr7 : Rel ⟨Tryz.prog, G0, 55, F, w, fun _ => False, marks [], fun _ => none⟩ (· < 40) ι6 a6 w6 (gt dE) (gs (dSt bk ibM.blk #[])) := by
    refine (hr6.drop (dSt_gs ?_ ?_ ?_)).weaken (dE_le _ ?_ ?_) (fun n hn => ?_)
    · simp only [updS]; rw [if_neg (by decide)]; exact h16
    · simp only [updS]; rw [if_neg (by decide)]; exact h15
    · simp only [updS, if_true]; rfl
    · simp only [setO]; rw [if_neg (by decide)]; exact h8
    · simp only [setO, if_true]
    · rcases hn with hn | hn
      · have : n < 39 := hn
        show n < 40; omega
      · show n < 40; omega
  have hbox : ibM.box = true := by
    obtain ⟨ib, _, _, b1, b2, _⟩ := hr7.blk 16 _ rfl
    rw [hM] at b1; cases b1; exact b2
  show (Code.block 0 _).wp _ _ _ _
  refine wp_block (wp_loopX (LI bk F w ibM.blk) (fun x => 7 - x.size) #[] ⟨⟨ι6, [], ibM, hr7, hM, hbox, rfl, by simp, fun r hr => by cases hr⟩, by simp, fun i hi => by simp at hi⟩ (fun x a w' h => df_round hbk hbk40 hit h (fun a' w' hE => ?_)))
  simp only [Exit.inBlock]
  show dX6.wp _ _ _ _
  obtain ⟨ι7, rs, hr8, hD⟩ := hE
  have p12 := dev_ok 1000 55 dX6 s12 ((depthOf_has 55 (by omega)).setO (dst := some 8) (by rfl) _).1 (fun p hp => by cases hp)
  rw [t12_ok] at p12
  refine wp_mono (p12.2.2.1 F w' (Own ι7 (gs s12.st)) (marks rs) ι7 _ _ _ hr8.rebase) ?_
  rintro e a9 w9 ⟨ι9, rfl, hr9⟩
  obtain ⟨u1, u2, u3⟩ := hr8.unbase hr9
  show LeavesInM Fence.wide 0 Tryz.prog Tryz.f181 a9.tmps _ a9.defers .returning w9
  rw [show a9.defers = marks rs from hr9.defers]
  refine leaves_marks (B := w.heap.size) rs w9 hD.1 (fun r hrs => ?_) (fun w10 hb => ?_)
  · obtain ⟨d1, d2, d3⟩ := hD.2 r hrs
    exact ⟨d1, (u3 r (isSome_lt (by rw [d2]; rfl)) d3).1.trans d2⟩
  · refine ⟨_, results_tmp2 f181_res.1 _ _ _, _, rfl, (⟨u1.os, u1.tape, u1.output, u1.hsize, fun b hb => u1.keep b hb id⟩ : Below w.heap.size w w9).trans hb, .tup _ _ rfl (fun i hi => ?_)⟩
    have v4 := hr9.env 4
    rw [t12_v.1] at v4
    have v5 := hr9.env 5
    rw [t12_v.2] at v5
    match i, hi with
    | 0, _ => show RepP _ _ (a9.tmps.getD 4 undef) .nils; rw [v4.is_nils]; exact .nils
    | 1, _ => show RepP _ _ (a9.tmps.getD 5 undef) (.int .i64 0); rw [v5.is_int]; exact .int _ _
end Go.Proofs.YtpdhikjfdjjjlaaGreatDoor.AL

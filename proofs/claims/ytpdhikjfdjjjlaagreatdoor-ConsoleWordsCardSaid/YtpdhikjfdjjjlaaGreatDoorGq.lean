/-
  The law's call, from its facts.
-/
import Derived.Test.YtpdhikjfdjjjlaaGreatDoorGg
import Derived.Test.YtpdhikjfdjjjlaaGreatDoorGm
import Derived.Test.YtpdhikjfdjjjlaaGreatDoorGh
namespace Go.Proofs.YtpdhikjfdjjjlaaGreatDoor.AL
open Go Go.RowKit
set_option maxRecDepth 100000
theorem lR0_eq : lR0 = .region 0 (cOps lR0) false := by kernel_rfl
theorem lR1_eq : lR1 = .region 1 (cOps lR1) false := by kernel_rfl
theorem lR3_eq : lR3 = .region 3 (cOps lR3) false := by kernel_rfl
theorem lR0_sz : (cOps lR0).size = 1 := by kernel_rfl
theorem lR1_sz : (cOps lR1).size = 7 := by kernel_rfl
theorem lR3_sz : (cOps lR3).size = 3 := by kernel_rfl
theorem q1 : (dO lR1 4).op = .call { callee := .value (.func 5), args := #[.tmp 31], argTypes := #[22] } ∧ (dO lR1 4).dst = some 32 := by and_intros <;> kernel_rfl
theorem q1g : (dO lR1 4).guard = some (2, false) := by kernel_rfl
theorem q3 : (dO lR3 1).op = .call { callee := .value (.func 6), args := #[.tmp 36], argTypes := #[22] } ∧ (dO lR3 1).dst = some 37 := by and_intros <;> kernel_rfl
theorem q3g : (dO lR3 1).guard = none := by kernel_rfl
theorem f3_res : Tryz.f3.results = #[.tmp 4] ∧ Tryz.f3.ntmps = 179 := by and_intros <;> kernel_rfl
noncomputable def aM : Mo := MF cloneS [(4, [], .bool true)]
noncomputable def avq (c : Code) (i n : Nat) (s : ES) : Option ES := evSeq Ty G0 aM (evS Ty G0 aM 10) 179 (cOps c).toList (((cOps c).toList.drop i).take n) s
section
variable (L : D) (b : Bool)
def u0 : ES := ⟨0, ((SM.full 7).set (.rng .u8 0 255) 1).set L 0, [], []⟩
noncomputable def u1 : ES := oget (avq lR0 0 1 (u0 L))
theorem u1_ok : avq lR0 0 1 (u0 L) = some (u1 L) := by kernel_rfl
noncomputable def u2 : ES := oget (avq lR1 0 4 (u1 L))
theorem u2_ok : avq lR1 0 4 (u1 L) = some (u2 L) := by kernel_rfl
theorem u2_v : (u2 L).σ.get 30 = .bool false ∧ (u2 L).σ.get 31 = L ∧ (u2 L).st = [] := by and_intros <;> kernel_rfl
noncomputable def u3 : ES := ⟨(u2 L).nx, (u2 L).σ.set (.bool b) 32, [], []⟩
noncomputable def u4 : ES := oget (avq lR1 5 2 (u3 L b))
theorem u4_okt : avq lR1 5 2 (u3 L true) = some (u4 L true) := by kernel_rfl
theorem u4_okf : avq lR1 5 2 (u3 L false) = some (u4 L false) := by kernel_rfl
theorem u4_vt : (u4 L true).σ.get 34 = .bool false := by kernel_rfl
theorem u4_vf : (u4 L false).σ.get 34 = .bool true := by kernel_rfl
noncomputable def u5 : ES := rget (evS Ty G0 aM 100 179 lR2 (u4 L false))
theorem u5_ok : evS Ty G0 aM 100 179 lR2 (u4 L false) = .ret (u5 L) := by kernel_rfl
theorem u5_v : (u5 L).σ.get 4 = .bool true := by kernel_rfl
noncomputable def u6 : ES := oget (avq lR3 0 1 (u4 L true))
theorem u6_ok : avq lR3 0 1 (u4 L true) = some (u6 L) := by kernel_rfl
theorem u6_v : (u6 L).σ.get 36 = L ∧ (u6 L).σ.get 1 = .rng .u8 0 255 := by and_intros <;> kernel_rfl
end
def u7 : ES := ⟨1, ((SM.full 7).set (.rng .u8 0 255) 1).set (.bp 0 0) 37, [(0, .deck [])], []⟩
noncomputable def u8 : ES := oget (avq lR3 2 1 u7)
theorem u8_ok : avq lR3 2 1 u7 = some u8 := by kernel_rfl
theorem u8_v : u8.σ.get 5 = .bp 0 0 ∧ u8.σ.get 1 = .rng .u8 0 255 ∧ u8.st = [(0, .deck [])] := by and_intros <;> kernel_rfl
end Go.Proofs.YtpdhikjfdjjjlaaGreatDoor.AL
namespace Go.Proofs.YtpdhikjfdjjjlaaGreatDoor.AL
open Go Go.RowKit
set_option maxRecDepth 100000
section
variable (haw : Pure Tryz.prog G0 4 [] (.bool true))
include haw
theorem aM_ok : MoOK Tryz.prog G0 aM := mo_ok (fun p hp => by
  simp only [List.mem_cons, List.not_mem_nil, or_false] at hp
  subst hp
  exact haw) clone_ok
theorem avq_ok {code : Code} {i n : Nat} {s s' : ES} (hN : HasN 179 s.σ) (hm : MemOK Tryz.prog G0 s.mm) (h : avq code i n s = some s') (hi : i ≤ (cOps code).size) :
    HasN 179 s'.σ ∧ MemOK Tryz.prog G0 s'.mm ∧ ∀ (c : Ctx) (Q : Exit → Act → World → Prop), c.P = Tryz.prog → c.G = G0 → c.N = 179 → (∀ ι a w, Rel c (· < s'.nx) ι a w s'.σ.get (gs s'.st) → wpOps Tryz.prog (cOps code) Q ((List.range (cOps code).size).drop (i + (((cOps code).toList.drop i).take n).length)) a w) → ∀ ι a w, Rel c (· < s.nx) ι a w s.σ.get (gs s.st) → wpOps Tryz.prog (cOps code) Q ((List.range (cOps code).size).drop i) a w :=
  evSeqP_ok (ops := cOps code) ty_ok (aM_ok haw) (evS_ok ty_ok (aM_ok haw) mixed 10) _ (((cOps code).toList.drop i).drop n) i s s' (List.take_append_drop _ _) hi hN hm h
end
/-- A call whose contract is said of values. -/
theorem wp_call_raw {P : Program} {o : Oper} {a : Act} {w : World} {K : Act → World → Prop} {Q : Exit → Act → World → Prop} {k : Nat} {x : Operand} {tys : Array TypeId} (ho : o.op = .call { callee := .value (.func k), args := #[x], argTypes := tys }) (hb : HasBody P k) {R : Value → World → Prop}
    (hc : Calls P k #[a.eval x] w (fun e w' => ∃ v, e = .returned v ∧ R v w')) (hK : ∀ v w', R v w' → K (a.put o.dst v) w') : o.wp P a w K Q := by
  have h := call_run (ev := a.eval) (c1 := #[]) (c2 := #[]) (w := w) ho (by simp [Act.eval]) hb
  unfold Oper.wp
  rw [h, Oper.upon_enter]
  have e : (#[] ++ (#[x] : Array Operand).map a.eval ++ #[] : Array Value) = #[a.eval x] := by simp
  rw [e]
  refine hc.mono ?_
  rintro e w' ⟨v, rfl, hv⟩
  exact hK v w' hv
theorem intRows_len (xs : List Int) : (intRows xs).length = xs.length := by simp [intRows]
end Go.Proofs.YtpdhikjfdjjjlaaGreatDoor.AL
namespace Go.Proofs.YtpdhikjfdjjjlaaGreatDoor.AL
open Go Go.RowKit
set_option maxRecDepth 100000
theorem opD_tm {G : Nat → Option (List D)} {σ : Nat → D} {t : Nat} : opD G σ (.tmp t) = σ t := rfl
theorem lM_ok : MoOK Tryz.prog G0 lM := mo_ok fcL_ok clone_ok
theorem u0_get (L : D) : HasN 179 (u0 L).σ ∧ (u0 L).σ.get = setO (setO (fun _ => .any) (some 1) (.rng .u8 0 255)) (some 0) L := by
  have h0 : HasN 179 (SM.full 7) := depthOf_has 179 (by omega)
  obtain ⟨h1, h2, _⟩ := h0.setO (dst := some 1) (by rfl) (.rng .u8 0 255)
  obtain ⟨h3, h4, _⟩ := h1.setO (dst := some 0) (by rfl) L
  refine ⟨h3, ?_⟩
  show (((SM.full 7).setO (some 1) (.rng .u8 0 255)).setO (some 0) L).get = _
  rw [h4, h2]
  congr 2
  funext t
  exact SM.full_get 7 t
theorem u7_get : HasN 179 u7.σ ∧ u7.σ.get = setO (setO (fun _ => .any) (some 1) (.rng .u8 0 255)) (some 37) (.bp 0 0) := by
  have h0 : HasN 179 (SM.full 7) := depthOf_has 179 (by omega)
  obtain ⟨h1, h2, _⟩ := h0.setO (dst := some 1) (by rfl) (.rng .u8 0 255)
  obtain ⟨h3, h4, _⟩ := h1.setO (dst := some 37) (by rfl) (.bp 0 0)
  refine ⟨h3, ?_⟩
  show (((SM.full 7).setO (some 1) (.rng .u8 0 255)).setO (some 37) (.bp 0 0)).get = _
  rw [h4, h2]
  congr 2
  funext t
  exact SM.full_get 7 t
theorem lS4_get : HasN 179 lS4.σ ∧ lS4.σ.get = setO (setO (fun _ => .any) (some 1) (.rng .u8 0 255)) (some 5) (.bp 0 0) := by
  have h0 : HasN 179 (SM.full 7) := depthOf_has 179 (by omega)
  obtain ⟨h1, h2, _⟩ := h0.setO (dst := some 1) (by rfl) (.rng .u8 0 255)
  obtain ⟨h3, h4, _⟩ := h1.setO (dst := some 5) (by rfl) (.bp 0 0)
  refine ⟨h3, ?_⟩
  show (((SM.full 7).setO (some 1) (.rng .u8 0 255)).setO (some 5) (.bp 0 0)).get = _
  rw [h4, h2]
  congr 2
  funext t
  exact SM.full_get 7 t
theorem lawσ_has : HasN 179 lawσ := by
  have h0 : HasN 179 (SM.full 7) := depthOf_has 179 (by omega)
  exact ((h0.setO (dst := some 1) (by rfl) (.rng .u8 0 255)).1.setO (dst := some 6) (by rfl) (.bp 332 0)).1
/-- What is done behind the beginning. -/
theorem rest_gen {F : List (Nat × List D × D)} (hF : ∀ p ∈ F, Pure Tryz.prog G0 p.1 p.2.1 p.2.2) {f : Nat} {Wd : List D} (h : (match evS Ty G0 (MF cloneS F) f 179 lX5 (lawS Wd) with | .ret s => D.eqb (s.σ.get 4) (.bool true) | _ => false) = true) {c : Ctx} (hP : c.P = Tryz.prog) (hG : c.G = G0) (hN : c.N = 179) {ι : Nat → Option IB} {a : Act} {w : World} (hr : Rel c (· < (lawS Wd).nx) ι a w (lawS Wd).σ.get (gs (lawS Wd).st)) {Q : Exit → Act → World → Prop}
    (hQ : ∀ dom' ι' a' w' σ' st', Rel c dom' ι' a' w' σ' st' → σ' 4 = .bool true → Q .ret a' w') : lX5.wp Tryz.prog Q a w := by
  have h2 := evS_ok (G := G0) ty_ok (mo_ok hF clone_ok) mixed f 179 lX5 (lawS Wd) lawσ_has (fun p hp => by cases hp)
  obtain ⟨P, G, N, B, w0, O, df, ι0⟩ := c
  cases hP; cases hG; cases hN
  generalize evS Ty G0 (MF cloneS F) f 179 lX5 (lawS Wd) = r at h h2
  cases r with
  | ret s =>
    refine wp_mono (h2.2.2.1 B w0 O df ι0 ι a w hr) ?_
    rintro e a' w' ⟨ι', rfl, hr'⟩
    exact hQ _ _ _ _ _ _ hr' (D.eqb_ok h)
  | nrm s => cases h
  | ext i s => cases h
  | bad => cases h
theorem rest_ok {F : List (Nat × List D × D)} (hF : ∀ p ∈ F, Pure Tryz.prog G0 p.1 p.2.1 p.2.2) {Wd : List D} (h : lRunF F Wd = true) {c : Ctx} (hP : c.P = Tryz.prog) (hG : c.G = G0) (hN : c.N = 179) {ι : Nat → Option IB} {a : Act} {w : World} (hr : Rel c (· < (lawS Wd).nx) ι a w (lawS Wd).σ.get (gs (lawS Wd).st)) {Q : Exit → Act → World → Prop}
    (hQ : ∀ dom' ι' a' w' σ' st', Rel c dom' ι' a' w' σ' st' → σ' 4 = .bool true → Q .ret a' w') : lX5.wp Tryz.prog Q a w :=
  by
  unfold lRunF at h
  generalize 1000000 = f at h
  exact rest_gen hF h hP hG hN hr hQ
theorem law_of (haw : Pure Tryz.prog G0 4 [] (.bool true)) (hbeg : (evL Ty G0 lM lK 1000000 179 lR4 lS4).map (fun O => O.all fun o => eqE o.e .normal && (leES o.s (lawS lawW1) || (leES o.s (lawS lawW2) || leES o.s (lawS lawW3)))) = some true)
    {F1 F2 F3 : List (Nat × List D × D)} (hF1 : ∀ p ∈ F1, Pure Tryz.prog G0 p.1 p.2.1 p.2.2) (hF2 : ∀ p ∈ F2, Pure Tryz.prog G0 p.1 p.2.1 p.2.2) (hF3 : ∀ p ∈ F3, Pure Tryz.prog G0 p.1 p.2.1 p.2.2) (h1 : lRunF F1 lawW1 = true) (h2 : lRunF F2 lawW2 = true) (h3 : lRunF F3 lawW3 = true) (W : World) (hG : ∀ g row, G0 g = some row → RepP W (fun _ => False) (.pointer (some ⟨g, 0, none⟩)) (.vp row)) (A : Option Addr) (cap : Nat) (xs : List Int) (hl : RepP W (fun _ => False) (.slice A xs.length cap) (.sl (intRows xs))) (d : Int) (d0 : 0 ≤ d) (d1 : d ≤ 255) :
    Calls Tryz.prog 3 #[.slice A xs.length cap, .int .u8 d] W (fun e W' => e = .returned (.bool true) ∧ Below W.heap.size W W') := by
  refine calls_of_wp Tryz.func3 (show Tryz.f3.body = some lC from by kernel_rfl) ?_
  rw [f3_res.2]
  obtain ⟨L, hL⟩ : ∃ L, L = D.sl (intRows xs) := ⟨_, rfl⟩
  have hO : ∀ b, Own (fun _ => none) (gs []) b → False := fun b ⟨n, ib, h1, _⟩ => by simp [gs] at h1
  have hF : ∀ b, ¬ Fb ⟨Tryz.prog, G0, 179, fun _ => False, W, fun _ => False, [], fun _ => none⟩ (fun _ => none) (gs []) b := fun b hb => hb.elim id (hO b)
  have hr0 : Rel ⟨Tryz.prog, G0, 179, fun _ => False, W, fun _ => False, [], fun _ => none⟩ (· < (u0 L).nx) (fun _ => none) { tmps := #[.slice A xs.length cap, .int .u8 d] ++ Array.replicate (179 - #[Value.slice A xs.length cap, .int .u8 d].size) undef, defers := [] } W (u0 L).σ.get (gs (u0 L).st) := by
    refine ⟨by simp, rfl, fun t => ?_, fun n b h => by simp [u0, gs] at h, fun n m h => by simp [u0, gs] at h, fun n h => by simp at h, rfl, rfl, rfl, Nat.le_refl _, fun b _ _ => rfl, fun b hb => hb.elim, fun b hb => (hO b hb).elim, fun g row hg => (hG g row hg).mono (fun b _ _ => ⟨rfl, hF b⟩), fun n ib h => by cases h⟩
    rw [(u0_get L).2]
    simp only [setO]
    by_cases e0 : t = 0
    · subst e0
      rw [if_pos rfl, hL]
      have : (#[Value.slice A xs.length cap, .int .u8 d] ++ Array.replicate (179 - #[Value.slice A xs.length cap, .int .u8 d].size) undef).getD 0 undef = .slice A xs.length cap := by simp
      rw [this]
      exact .pure _ _ (hl.mono (fun b _ _ => ⟨rfl, hF b⟩))
    · rw [if_neg e0]
      by_cases e1 : t = 1
      · subst e1
        rw [if_pos rfl]
        have : (#[Value.slice A xs.length cap, .int .u8 d] ++ Array.replicate (179 - #[Value.slice A xs.length cap, .int .u8 d].size) undef).getD 1 undef = .int .u8 d := by simp
        rw [this]
        exact .pure _ _ (.rng _ _ _ _ d0 d1)
      · rw [if_neg e1]; exact .pure _ _ (.any _)
  have fin : ∀ dom' ι' a' w' σ' st', Rel ⟨Tryz.prog, G0, 179, fun _ => False, W, fun _ => False, [], fun _ => none⟩ dom' ι' a' w' σ' st' → σ' 4 = .bool true → bodyPost Tryz.prog Tryz.f3 (fun e W' => e = .returned (.bool true) ∧ Below W.heap.size W W') .ret a' w' := by
    intro dom' ι' a' w' σ' st' hr h4
    have hv := hr.env 4
    rw [h4] at hv
    refine ⟨hr.defers, _, results_tmp f3_res.1 _ _ _, ?_, hr.os, hr.tape, hr.output, hr.hsize, fun b hb => hr.keep b hb id⟩
    rw [hv.is_bool]
  rw [lC_eq]
  refine wp_seq ?_
  rw [lR0_eq]
  refine wp_region ?_
  show wpOps _ _ _ ((List.range (cOps lR0).size).drop 0) _ _
  have k1 := avq_ok haw (u0_get L).1 (fun p hp => by cases hp) (u1_ok L) (Nat.zero_le _)
  refine k1.2.2 _ _ rfl rfl rfl (fun ι1 a1 w1 hr1 => ?_) _ _ _ hr0
  have l1 : (List.range (cOps lR0).size).drop (0 + (((cOps lR0).toList.drop 0).take 1).length) = [] := by kernel_rfl
  rw [l1]
  show (Code.seq _ _).wp _ _ _ _
  refine wp_seq (wp_seq ?_)
  rw [lR1_eq]
  refine wp_region ?_
  show wpOps _ _ _ ((List.range (cOps lR1).size).drop 0) _ _
  have k2 := avq_ok haw k1.1 k1.2.1 (u2_ok L) (Nat.zero_le _)
  refine k2.2.2 _ _ rfl rfl rfl (fun ι2 a2 w2 hr2 => ?_) _ _ _ hr1
  have l2 : (List.range (cOps lR1).size).drop (0 + (((cOps lR1).toList.drop 0).take 4).length) = 4 :: (List.range (cOps lR1).size).drop 5 := by kernel_rfl
  rw [l2, wpOps_cons]
  unfold wpOp
  have e4 : (cOps lR1)[4]? = some (dO lR1 4) := by
    have hs := lR1_sz
    unfold dO
    simp [hs]
  rw [e4]
  have hw : Region.wanted (dO lR1 4) (yielded (cOps lR1) a2.tmps) = true := by
    refine wanted_ok hr2 (ops := cOps lR1) (o := dO lR1 4) (b := true) ?_
    unfold wantedD
    rw [q1g]
    have : (((cOps lR1).toList[2]?).bind (·.dst)) = some 30 := by kernel_rfl
    simp only [this, (u2_v L).1]
    rfl
  simp only [hw, if_true]
  left
  have v31 := hr2.env 31
  rw [(u2_v L).2.1, hL] at v31
  obtain ⟨A', c', e31⟩ := v31.sl_shape
  have hf5 : HasBody Tryz.prog 5 := ⟨Tryz.f5, Tryz.func5, rfl, by rfl⟩
  refine wp_call_raw (x := .tmp 31) q1.1 hf5 (R := fun v w' => v = .bool (decide ((xs.length : Int) ≤ 400)) ∧ w2 = w') ?_ ?_
  · rw [show a2.eval (.tmp 31) = .slice A' xs.length c' from by show a2.tmps.getD 31 undef = _; rw [e31, intRows_len]]
    refine (few_any w2 A' xs.length c').mono ?_
    rintro e w' ⟨rfl, h⟩
    exact ⟨_, rfl, rfl, h⟩
  rintro v w2' ⟨rfl, rfl⟩
  obtain ⟨b, hb⟩ : ∃ b, b = decide ((xs.length : Int) ≤ 400) := ⟨_, rfl⟩
  rw [← hb, q1.2]
  have k3 : HasN 179 (u3 L b).σ := (k2.1.setO (dst := some 32) (by rfl) (.bool b)).1
  have hr3 : Rel ⟨Tryz.prog, G0, 179, fun _ => False, W, fun _ => False, [], fun _ => none⟩ (· < (u3 L b).nx) ι2 (a2.put (some 32) (.bool b)) w2 (u3 L b).σ.get (gs (u3 L b).st) := by
    rw [show (u3 L b).σ.get = setO (u2 L).σ.get (some 32) (.bool b) from (k2.1.setO (dst := some 32) (by rfl) (.bool b)).2.1]
    rw [(u2_v L).2.2] at hr2
    exact hr2.put _ _ (.pure _ _ (.bool b)) (some 32) (fun t ht => by cases ht; exact (by decide : 32 < 179))
  have l3 : (List.range (cOps lR1).size).drop (5 + (((cOps lR1).toList.drop 5).take 2).length) = [] := by kernel_rfl
  cases b with
  | false =>
    have k4 := avq_ok haw k3 (fun p hp => by cases hp) (u4_okf L) (by rw [lR1_sz]; decide)
    refine k4.2.2 _ _ rfl rfl rfl (fun ι4 a4 w4 hr4 => ?_) _ _ _ hr3
    rw [l3]
    show (Code.cond _ _ _).wp _ _ _ _
    have v34 := opD_rep hr4 (.tmp 34)
    rw [opD_tm, u4_vf] at v34
    refine wp_cond_true v34.is_bool ?_
    have k5 := evS_ok (G := G0) ty_ok (aM_ok haw) mixed 100 179 lR2 (u4 L false) k4.1 k4.2.1
    rw [u5_ok] at k5
    refine wp_mono (k5.2.2.1 _ _ _ _ _ ι4 a4 w4 hr4) ?_
    rintro e a5 w5 ⟨ι5, rfl, hr5⟩
    exact fin _ _ _ _ _ _ hr5 (u5_v L)
  | true =>
    have hlen : xs.length ≤ 400 := by have := of_decide_eq_true hb.symm; omega
    have k4 := avq_ok haw k3 (fun p hp => by cases hp) (u4_okt L) (by rw [lR1_sz]; decide)
    refine k4.2.2 _ _ rfl rfl rfl (fun ι4 a4 w4 hr4 => ?_) _ _ _ hr3
    rw [l3]
    show (Code.cond _ _ _).wp _ _ _ _
    have v34 := opD_rep hr4 (.tmp 34)
    rw [opD_tm, u4_vt] at v34
    refine wp_cond_false v34.is_bool (wp_skip ?_)
    show (Code.seq _ _).wp _ _ _ _
    refine wp_seq ?_
    rw [lR3_eq]
    refine wp_region ?_
    show wpOps _ _ _ ((List.range (cOps lR3).size).drop 0) _ _
    have k6 := avq_ok haw k4.1 k4.2.1 (u6_ok L) (Nat.zero_le _)
    refine k6.2.2 _ _ rfl rfl rfl (fun ι6 a6 w6 hr6 => ?_) _ _ _ hr4
    have l6 : (List.range (cOps lR3).size).drop (0 + (((cOps lR3).toList.drop 0).take 1).length) = 1 :: (List.range (cOps lR3).size).drop 2 := by kernel_rfl
    rw [l6]
    refine wpOps_one (by rw [lR3_sz]; decide) q3g ?_
    -- nothing but the list and the number matters from here on
    have hr7 := ((hr6.drop (st' := gs []) (fun n b h => by simp [gs] at h)).weaken (σ' := gt [(1, .rng .u8 0 255), (36, L)]) (fun t => by
      simp only [gt]
      by_cases e : t = 1
      · subst e; rw [if_pos rfl, (u6_v L).2]; exact Le.refl _
      · rw [if_neg e]
        by_cases e2 : t = 36
        · subst e2; rw [if_pos rfl, (u6_v L).1]; exact Le.refl _
        · rw [if_neg e2]; exact Le.any _) (fun _ h => h)).purge 0 (fun p hp => by
        simp only [List.mem_cons, List.not_mem_nil, or_false] at hp
        rcases hp with rfl | rfl
        · rfl
        · rw [hL]; rfl) (fun p hp => by cases hp) (fun m hm => by cases hm)
    have v36 := hr7.env 36
    rw [show gt [(1, D.rng .u8 0 255), (36, L)] 36 = L from rfl, hL] at v36
    obtain ⟨A'', c'', e36⟩ := v36.sl_shape
    have hf6 : HasBody Tryz.prog 6 := ⟨Tryz.f6, Tryz.func6, rfl, by rfl⟩
    refine wp_call_raw (o := (cOps lR3).getD 1 default) (x := .tmp 36) q3.1 hf6 (R := fun v w' => v = .pointer (some ⟨w6.heap.size, 0, none⟩) ∧ w' = w6.alloc (.cells #[.slice A'' xs.length c'', .int .i64 0, .int .u64 88172645463325252] 96 (0, 0))) ?_ ?_
    · rw [show a6.eval (.tmp 36) = .slice A'' xs.length c'' from by show a6.tmps.getD 36 undef = _; rw [e36, intRows_len]]
      refine (new_any w6 A'' xs.length c'').mono ?_
      rintro e w' ⟨rfl, h⟩
      exact ⟨_, rfl, rfl, h⟩
    rintro v w7 ⟨rfl, rfl⟩
    rw [show ((cOps lR3).getD 1 default).dst = some 37 from q3.2]
    have hv36 := v36.is_sl
    rw [e36, intRows_len] at hv36
    obtain ⟨n1, n2⟩ := hr7.none_of (nm := 0) (Nat.not_lt_zero 0)
    obtain ⟨r1, r2⟩ := hr7.one (w' := w6.alloc (.cells #[.slice A'' xs.length c'', .int .i64 0, .int .u64 88172645463325252] 96 (0, 0))) 0 ⟨true, w6.heap.size, 0, 0, 1, 0⟩ (.deck []) rfl rfl rfl (by simp) (fun b hb => .inl (Below.heap_alloc w6 _ b hb)) (fun _ => ⟨by simp, .inr (Nat.le_refl _)⟩)
      (fun ib hib => by rw [n1] at hib; cases hib) (fun f1 f2 =>
        ⟨⟨true, w6.heap.size, 0, 0, 1, 0⟩, .slice A'' xs.length c'', 96, xs, 0, 88172645463325252, by simp [updI], rfl, Nat.one_pos, heap_new _ _, f2 _ _ hv36, Nat.zero_le _, hlen, by decide, by decide, trivial⟩)
    have hr8 := r1.put (.pointer (some ⟨w6.heap.size, 0, none⟩)) (.bp 0 0) (.bp 0 0 ⟨true, w6.heap.size, 0, 0, 1, 0⟩ (by simp [updI]) rfl) (some 37) (fun t ht => by cases ht; exact (by decide : 37 < 179))
    have hr9 : Rel ⟨Tryz.prog, G0, 179, fun _ => False, W, fun _ => False, [], fun _ => none⟩ (· < u7.nx) (updI (resI 0 ι6) 0 ⟨true, w6.heap.size, 0, 0, 1, 0⟩) (a6.put (some 37) (.pointer (some ⟨w6.heap.size, 0, none⟩))) (w6.alloc (.cells #[.slice A'' xs.length c'', .int .i64 0, .int .u64 88172645463325252] 96 (0, 0))) u7.σ.get (gs u7.st) := by
      refine (hr8.drop (st' := gs u7.st) (fun n b h => ?_)).weaken (fun t => ?_) (fun n hn => ?_)
      · simp only [u7, gs] at h
        by_cases e : n = 0
        · subst e; rw [if_pos rfl] at h; rw [← h]; simp [updS]
        · rw [if_neg e] at h; cases h
      · rw [u7_get.2]
        simp only [setO, gt]
        by_cases e : t = 37
        · subst e; rw [if_pos rfl]; exact Le.refl _
        · rw [if_neg e, if_neg e]
          by_cases e1 : t = 1
          · subst e1; rw [if_pos rfl, if_pos rfl]; exact Le.refl _
          · rw [if_neg e1, if_neg e1]; exact Le.any _
      · rcases hn with hn | hn
        · exact absurd hn (Nat.not_lt_zero _)
        · subst hn; exact Nat.one_pos
    have k8 := avq_ok haw u7_get.1 (fun p hp => by cases hp) u8_ok (by rw [lR3_sz]; decide)
    refine k8.2.2 _ _ rfl rfl rfl (fun ι8 a8 w8 hr10 => ?_) _ _ _ hr9
    have l8 : (List.range (cOps lR3).size).drop (2 + (((cOps lR3).toList.drop 2).take 1).length) = [] := by kernel_rfl
    rw [l8]
    show (Code.seq _ _).wp _ _ _ _
    rw [u8_v.2.2] at hr10
    have hr11 := (hr10.weaken (σ' := gt [(1, .rng .u8 0 255), (5, .bp 0 0)]) (fun t => by
      simp only [gt]
      by_cases e : t = 1
      · subst e; rw [if_pos rfl, u8_v.2.1]; exact Le.refl _
      · rw [if_neg e]
        by_cases e2 : t = 5
        · subst e2; rw [if_pos rfl, u8_v.1]; exact Le.refl _
        · rw [if_neg e2]; exact Le.any _) (fun _ h => h)).purge 1 (fun p hp => by
        simp only [List.mem_cons, List.not_mem_nil, or_false] at hp
        rcases hp with rfl | rfl <;> rfl) (fun p hp => by
        simp only [List.mem_cons, List.not_mem_nil, or_false] at hp
        subst hp
        exact ⟨Nat.one_pos, rfl⟩) (fun m hm => by cases hm)
    have hr12 : Rel ⟨Tryz.prog, G0, 179, fun _ => False, W, fun _ => False, [], fun _ => none⟩ (· < lS4.nx) (resI 1 ι8) a8 w8 lS4.σ.get (gs lS4.st) := by
      refine hr11.weaken (fun t => ?_) (fun _ h => h)
      rw [lS4_get.2]
      simp only [setO, gt]
      by_cases e : t = 5
      · subst e; simp only [show (5 : Nat) = 1 ↔ False from by decide, if_true, if_false]; exact Le.refl _
      · by_cases e1 : t = 1
        · subst e1; simp only [show (1 : Nat) = 5 ↔ False from by decide, if_true, if_false]; exact Le.refl _
        · simp only [e, e1, if_false]; exact Le.refl _
    cases hev : evL Ty G0 lM lK 1000000 179 lR4 lS4 with
    | none => rw [hev] at hbeg; cases hbeg
    | some O =>
      rw [hev] at hbeg
      simp only [Option.map_some, Option.some.injEq, List.all_eq_true] at hbeg
      have k12 := (evL_ok (K := lK) (G := G0) ty_ok lM_ok mixed 1000000 179 lR4 lS4 O lS4_get.1 (fun p hp => by cases hp) hev).2.1
      refine wp_seq (wp_mono (k12 _ _ _ _ _ _ _ _ hr12) ?_)
      rintro e a13 w13 ⟨o, ho, rfl, ι13, hr13⟩
      have hc := hbeg o ho
      simp only [Bool.and_eq_true, Bool.or_eq_true] at hc
      obtain ⟨c1, c2⟩ := hc
      rw [eqE_ok c1]
      show lX5.wp _ _ _ _
      rcases c2 with c2 | c2 | c2
      · exact rest_ok hF1 h1 rfl rfl rfl (hr13.leES c2) (fun dom' ι' a' w' σ' st' hr' h4 => fin _ _ _ _ _ _ hr' h4)
      · exact rest_ok hF2 h2 rfl rfl rfl (hr13.leES c2) (fun dom' ι' a' w' σ' st' hr' h4 => fin _ _ _ _ _ _ hr' h4)
      · exact rest_ok hF3 h3 rfl rfl rfl (hr13.leES c2) (fun dom' ι' a' w' σ' st' hr' h4 => fin _ _ _ _ _ _ hr' h4)
end Go.Proofs.YtpdhikjfdjjjlaaGreatDoor.AL

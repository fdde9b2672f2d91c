/-
  The law's contract: it returns true and leaves its arguments as they were.
-/
import Derived.Test.YtpdhikjfdjjjlaaGreatDoorGs
import Derived.Test.YtpdhikjfdjjjlaaGreatDoorGi
import Derived.Test.YtpdhikjfdjjjlaaGreatDoorGn
import Derived.Test.YtpdhikjfdjjjlaaGreatDoorGo
import Derived.Test.YtpdhikjfdjjjlaaGreatDoorGp
import Derived.LaidSub
namespace Go.Proofs.YtpdhikjfdjjjlaaGreatDoor.consoleWords
open Go.ChangeShapes Go.WideShapes Go.ChangeAt Go.RowKit
set_option linter.unusedVariables false
set_option maxRecDepth 100000

theorem tabs_of {W : World} (h : laidMetH Tryz.prog Rows.consoleWordsRow.laid W) : TabC W ∧ Tab W := by
  obtain ⟨ps, hv, _⟩ := (laidMetH_iff.1 h).1
  have hv' : DataW.LaidVars Tryz.prog W (("permitoffice/lexeme.classes", Rows.laid_permitoffice_lexeme_classes) :: ("permitoffice/mask.positions", Rows.laid_permitoffice_mask_positions) :: (Rows.consoleWordsRow.laid.drop 2)) ps := hv
  obtain ⟨h1, q, hq⟩ := cls_vars hv'
  exact ⟨h1, pos_vars hq⟩
theorem consoleWords_row (W : World) (h : TabC W ∧ Tab W) (a : Option Addr) (cap : Nat) (xs : List Int) (hl : AL.RepP W (fun _ => False) (.slice a xs.length cap) (.sl (AL.intRows xs))) (d : Int) (hd : (Lit.int .u8 d).wf = true) :
    Calls Tryz.prog 3 #[.slice a xs.length cap, .int .u8 d] W (fun e W' => e = .returned (.bool true) ∧ Below W.heap.size W W') := by
  simp only [Lit.wf, Bool.and_eq_true, decide_eq_true_eq] at hd
  have e0 : IntKind.min .u8 = 0 := rfl
  have e1 : IntKind.max .u8 = 255 := rfl
  rw [e0, e1] at hd
  exact AL.law_of AL.awake_fact AL.begin_run (AL.all_app AL.fcM1_ok AL.fcL_ok) (AL.all_app AL.fcM2_ok AL.fcL_ok) (AL.all_app AL.fcM3_ok AL.fcL_ok) AL.run1 AL.run2 AL.run3 W (tabs_rep h.1 h.2) a cap xs hl d hd.1 hd.2

theorem contract (H : Type) (enc : TypeId × Value → H) (W : World) (base : Nat) (args : Array Value) (ds gs : List (DataW H)) (before : List MemPlace)
    (hval : ∀ (j : Nat) t v, Tryz.f3.params[j]? = some t → args[j]? = some v → Value.okWide Tryz.prog W .any base t v)
    (hW : DataW.Whole enc Tryz.prog Tryz.f3.params.toList Rows.consoleWordsSpec.vars false W args.toList ds gs before) (hL : laidMetH Tryz.prog Rows.consoleWordsRow.laid W) :
    Calls Tryz.prog 3 args W fun e W' => ∃ v, e = .returned v ∧ Rows.consoleWordsSpec.post enc Tryz.prog Tryz.f3 false true false false W args v W' := by
  have hW' := hW
  obtain ⟨p, q, hA0, hV, rfl, hfz, hnd⟩ := hW
  have hA : DataW.TrodAll enc Tryz.prog W 0 (fun _ => true) true Tryz.f3.params.toList args.toList ds p := hA0
  rw [Tryz.params3] at hA hval
  obtain ⟨v0, vs0, d0, ds0, p0, q0, hargs, rfl, rfl, h0, r0⟩ := trodAll_cons hA
  obtain ⟨v1, vs1, d1, ds1, p1, q1, rfl, rfl, rfl, h1, r1⟩ := trodAll_cons r0
  obtain ⟨rfl, rfl, rfl⟩ := trodAll_nil r1
  obtain rfl : args = #[v0, v1] := by cases args; simp_all
  obtain ⟨rfl, rfl⟩ := trodVars_none hV
  obtain ⟨a0, len0, cap0, rfl⟩ := okWide_slice Tryz.underlying22 (hval 0 22 v0 rfl rfl)
  have k0 := h0
  have lt0 : ∀ x ∈ p0, x.block < W.heap.size := by obtain ⟨m, hm⟩ := k0; exact DataW.trod_lt m _ _ _ hm
  obtain ⟨z0, w0, hl0⟩ := arg_intsR h0
  subst hl0
  obtain ⟨a1, rfl, rfl, rfl, w1⟩ := open_int Tryz.underlying5 (hval 1 5 v1 rfl rfl) h1
  clear hA0
  refine (consoleWords_row W (tabs_of hL) a0 cap0 z0 w0 a1 w1).mono fun e W' ⟨he, bel⟩ => ?_
  subst he
  exact ⟨_, rfl, _, _, _, [], _, [], hW', trodAll_mk1 (shut_bool Tryz.underlying4 _), (trodAll_cons_mk (Below.trod laidOut (by kernel_rfl) (of_decide_eq_true (by kernel_rfl)) k0 bel lt0) (trodAll_cons_mk (shut_int Tryz.underlying5 w1) trodAll_mk0)), rfl, bel.frame _, fun h => by cases h⟩
end Go.Proofs.YtpdhikjfdjjjlaaGreatDoor.consoleWords

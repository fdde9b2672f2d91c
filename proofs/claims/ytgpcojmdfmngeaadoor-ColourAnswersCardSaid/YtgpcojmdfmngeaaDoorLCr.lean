/-
  The law ColourAnswers: any input.
-/
import Derived.Test.YtgpcojmdfmngeaaDoorLCa
import Derived.Test.YtgpcojmdfmngeaaDoorLCb
namespace Go.Proofs.YtgpcojmdfmngeaaDoor
open Go.RowKit

theorem colourAnswers_row (w : World) (h : TabC w) (ht : Tab w) (A : Option Addr) (c : Nat) (xs : List Int) (hs : SI w (fun _ => True) A xs) (Aa : Option Addr) (ca : Nat) (la : List Int) (hsa : SI w (fun _ => True) Aa la)
    (R1 R2 : Option Addr) (d1 d2 : Nat) (rn : List Node) (rd : List Dev) (hr : NetIn w (fun _ => True) R1 R2 rn rd) (hr1 : rn.length ≤ maxLen) (hr2 : rd.length ≤ maxLen) (a : Int) (_wa : (Lit.int .i64 a).wf = true) (b : Int) (_wb : (Lit.int .i64 b).wf = true) :
    Calls Tryd.prog 5 #[.slice A xs.length c, .slice Aa la.length ca, .agg #[.slice R1 rn.length d1, .slice R2 rd.length d2], .int .i64 a, .int .i64 b] w (RetT w) := by
  by_cases hq : xs.length ≤ 400 ∧ la.length ≤ 100 ∧ lightB rn rd = true
  · exact colourAnswers_ok w h ht A c xs hs Aa ca la hsa R1 R2 d1 d2 rn rd hr hr1 hr2 a b hq.1 hq.2.1 hq.2.2
  · exact colourAnswers_bad w h ht A c xs hs Aa ca la hsa R1 R2 d1 d2 rn rd hr hr1 hr2 a b hq
end Go.Proofs.YtgpcojmdfmngeaaDoor

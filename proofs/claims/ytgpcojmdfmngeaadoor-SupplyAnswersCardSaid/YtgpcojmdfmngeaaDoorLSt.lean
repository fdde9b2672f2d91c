/-
  The law SupplyAnswers: any input.
-/
import Derived.Test.YtgpcojmdfmngeaaDoorLSs
import Derived.Test.YtgpcojmdfmngeaaDoorLSb
namespace Go.Proofs.YtgpcojmdfmngeaaDoor
open Go.RowKit

theorem supplyAnswers_row (w : World) (h : TabC w) (ht : Tab w) (A : Option Addr) (c : Nat) (xs : List Int) (hs : SI w (fun _ => True) A xs) (Aa : Option Addr) (ca : Nat) (la : List Int) (hsa : SI w (fun _ => True) Aa la)
    (R1 R2 : Option Addr) (d1 d2 : Nat) (rn : List Node) (rd : List Dev) (hr : NetIn w (fun _ => True) R1 R2 rn rd) (hr1 : rn.length ≤ maxLen) (hr2 : rd.length ≤ maxLen) (v : Int) (_wv : (Lit.int .i64 v).wf = true) :
    Calls Tryd.prog 8 #[.slice A xs.length c, .slice Aa la.length ca, .agg #[.slice R1 rn.length d1, .slice R2 rd.length d2], .int .i64 v] w (RetT w) := by
  by_cases hq : xs.length ≤ 400 ∧ la.length ≤ 100 ∧ lightB rn rd = true
  · exact supplyAnswers_ok w h ht A c xs hs Aa ca la hsa R1 R2 d1 d2 rn rd hr hr1 hr2 v hq.1 hq.2.1 hq.2.2
  · exact supplyAnswers_bad w h ht A c xs hs Aa ca la hsa R1 R2 d1 d2 rn rd hr hr1 hr2 v hq
end Go.Proofs.YtgpcojmdfmngeaaDoor

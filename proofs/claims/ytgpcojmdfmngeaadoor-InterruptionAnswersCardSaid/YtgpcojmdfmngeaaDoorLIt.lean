/-
  The law InterruptionAnswers: any input.
-/
import Derived.Test.YtgpcojmdfmngeaaDoorLIs
import Derived.Test.YtgpcojmdfmngeaaDoorLIb
namespace Go.Proofs.YtgpcojmdfmngeaaDoor
open Go.RowKit

theorem interAnswers_row (w : World) (h : TabC w) (ht : Tab w) (A : Option Addr) (c : Nat) (xs : List Int) (hs : SI w (fun _ => True) A xs) (Aa : Option Addr) (ca : Nat) (la : List Int) (hsa : SI w (fun _ => True) Aa la)
    (R1 R2 : Option Addr) (d1 d2 : Nat) (rn : List Node) (rd : List Dev) (hr : NetIn w (fun _ => True) R1 R2 rn rd) (hr1 : rn.length ≤ maxLen) (hr2 : rd.length ≤ maxLen)
    (Ac : Option Addr) (cc : Nat) (chs : List Chg) (hsc : SV w (fun _ => True) Ac (recV chgV chs)) (hwc : ∀ x ∈ chs, x.t ≤ 9223372036854775807) (_hcl : chs.length ≤ maxLen) (Ao : Option Addr) (co : Nat) (ous : List Out) (hso : SV w (fun _ => True) Ao (recV outV ous)) (_hol : ous.length ≤ maxLen)
    (til : Int) (_w1 : (Lit.int .i64 til).wf = true) (time : Int) (_w2 : (Lit.int .i64 time).wf = true) (lim : Int) (_w3 : (Lit.int .i64 lim).wf = true) :
    Calls Tryd.prog 7 #[.slice A xs.length c, .slice Aa la.length ca, .agg #[.slice R1 rn.length d1, .slice R2 rd.length d2], .slice Ac chs.length cc, .slice Ao ous.length co, .int .i64 til, .int .i64 time, .int .i64 lim] w (RetT w) := by
  by_cases hq : xs.length ≤ 400 ∧ la.length ≤ 100 ∧ lightB rn rd = true ∧ chs.length ≤ 60 ∧ ous.length ≤ 60
  · exact interAnswers_ok w h ht A c xs hs Aa ca la hsa R1 R2 d1 d2 rn rd hr hr1 hr2 Ac cc chs hsc hwc Ao co ous hso til time lim hq.1 hq.2.1 hq.2.2.1 hq.2.2.2.1 hq.2.2.2.2
  · exact interAnswers_bad w h ht A c xs hs Aa ca la hsa R1 R2 d1 d2 rn rd hr hr1 hr2 Ac cc chs hsc hwc Ao co ous hso til time lim hq
end Go.Proofs.YtgpcojmdfmngeaaDoor

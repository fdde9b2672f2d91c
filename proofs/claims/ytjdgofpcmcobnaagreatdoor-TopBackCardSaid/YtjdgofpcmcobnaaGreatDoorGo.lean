/-
  Contracts: nodes that are proved dead.
-/
import Derived.Test.YtjdgofpcmcobnaaGreatDoorGm
import Derived.Test.YtjdgofpcmcobnaaGreatDoorGn
import Derived.Test.YtjdgofpcmcobnaaGreatDoorGl
import Derived.Test.YtjdgofpcmcobnaaGreatDoorGf
set_option maxRecDepth 100000
set_option maxHeartbeats 2000000
set_option linter.unusedVariables false
set_option linter.unusedSimpArgs false
namespace Go.Proofs.YtjdgofpcmcobnaaGreatDoor.AL
section
open Go Go.RowKit
theorem Imp.argsLe{P:Program}{G:Nat→Option (List D)}{k:Nat}{A A':List D}{gl:List (Nat×Blk)}{nm:Nat}{R:D}{upd:List (Nat×Option Blk)}(h:Imp P G k A gl nm R upd)(hA:Les A' A):Imp P G k A' gl nm R upd :=
 ⟨h.body,fun c dom ι w st vs hP hG hr hg hn hs hv=>h.calls c dom ι w st vs hP hG hr hg hn (by rw[hs];exact hA.at.1) (fun i hi=>hA.at.2 i (by rw[hA.at.1];exact hi) hi _ _ _ _ (hv i (by rw[hA.at.1];exact hi)))⟩
def nmI:ByteArray:=⟨#[73,83,79,76,65,84,69]⟩
end
section
open Go Go.RowKit
theorem prov0_2:Pure Tryz.prog G0 72 [.agg [.int .i64 0,.nils,.nils],.int .i64 2] (.agg [.int .i64 0,.nils,.sl [[.int .i64 2]]]):=ev1 (F:=[]) (fun p hp=>by cases hp) 3000 (by kernel_rfl)
theorem prov0_3:Pure Tryz.prog G0 72 [.agg [.int .i64 0,.nils,.nils],.int .i64 3] (.agg [.int .i64 0,.nils,.sl [[.int .i64 3]]]):=ev1 (F:=[]) (fun p hp=>by cases hp) 3000 (by kernel_rfl)
theorem prov2_2:Pure Tryz.prog G0 72 [.agg [.int .i64 0,.nils,.sl [[.int .i64 2]]],.int .i64 2] (.agg [.int .i64 0,.nils,.sl [[.int .i64 2]]]):=ev1 (F:=[]) (fun p hp=>by cases hp) 3000 (by kernel_rfl)
theorem prov2_3:Pure Tryz.prog G0 72 [.agg [.int .i64 0,.nils,.sl [[.int .i64 2]]],.int .i64 3] (.agg [.int .i64 0,.nils,.sl [[.int .i64 2],[.int .i64 3]]]):=ev1 (F:=[]) (fun p hp=>by cases hp) 3000 (by kernel_rfl)
theorem prov3_3:Pure Tryz.prog G0 72 [.agg [.int .i64 0,.nils,.sl [[.int .i64 3]]],.int .i64 3] (.agg [.int .i64 0,.nils,.sl [[.int .i64 3]]]):=ev1 (F:=[]) (fun p hp=>by cases hp) 3000 (by kernel_rfl)
theorem prov23_2:Pure Tryz.prog G0 72 [.agg [.int .i64 0,.nils,.sl [[.int .i64 2],[.int .i64 3]]],.int .i64 2] (.agg [.int .i64 0,.nils,.sl [[.int .i64 2],[.int .i64 3]]]):=ev1 (F:=[]) (fun p hp=>by cases hp) 3000 (by kernel_rfl)
theorem prov23_3:Pure Tryz.prog G0 72 [.agg [.int .i64 0,.nils,.sl [[.int .i64 2],[.int .i64 3]]],.int .i64 3] (.agg [.int .i64 0,.nils,.sl [[.int .i64 2],[.int .i64 3]]]):=ev1 (F:=[]) (fun p hp=>by cases hp) 3000 (by kernel_rfl)
end
end Go.Proofs.YtjdgofpcmcobnaaGreatDoor.AL

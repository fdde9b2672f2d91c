/-
  A run on data: the checker.
-/
import Derived.Test.YtjdgofpcmcobnaaGreatDoorGfa
set_option maxRecDepth 100000
set_option maxHeartbeats 2000000
set_option linter.unusedVariables false
set_option linter.unusedSimpArgs false
namespace Go.Proofs.YtjdgofpcmcobnaaGreatDoor.AL
section
open Go Go.RowKit
set_option maxRecDepth 1000000
theorem run24:(evPure TyQ (MF cloneS []) (evS TyQ G0 (MF cloneS []) 100000) 24 [.agg [.sl [[.str ⟨#[65]⟩,.int .i64 (0),.int .i64 (0)],[.str ⟨#[66]⟩,.int .i64 (3),.int .i64 (0)]],.sl [[.str ⟨#[83]⟩,.int .i64 (5),.int .i64 (0),.int .i64 (-1),.int .i64 (0)],[.str ⟨#[81]⟩,.int .i64 (2),.int .i64 (0),.int .i64 (1),.int .i64 (0)],[.str ⟨#[69]⟩,.int .i64 (4),.int .i64 (1),.int .i64 (-1),.int .i64 (0)]]],.sl [[.int .i64 (2)],[.int .i64 (2)],[.int .i64 (1)]],.agg [.int .i64 (0),.nils,.nils],.agg [.str ⟨#[80]⟩,.sl [[.int .i64 (1),.int .i64 (1),.int .i64 (0),.int .i64 (0),.int .i64 (0)],[.int .i64 (5),.int .i64 (0),.int .i64 (1),.int .i64 (0),.int .i64 (0)],[.int .i64 (2),.int .i64 (2),.int .i64 (0),.int .i64 (0),.int .i64 (0)]]]] []).map (·.1)=some (.tup [.agg [.sl [[.int .i64 (0),.int .i64 (3)]],.sl [[.int .i64 (2)],[.int .i64 (1)],[.int .i64 (2)]],.int .i64 (0),.nils,.sl [[.int .i64 (1)]]],.int .i64 (0)]):=by kernel_rfl
end
end Go.Proofs.YtjdgofpcmcobnaaGreatDoor.AL

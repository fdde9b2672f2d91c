/-
  Contracts: nodes that are proved dead.
-/
import Derived.Test.YtjdgofpcmcobnaaGreatDoorGm
import Derived.Test.YtjdgofpcmcobnaaGreatDoorGn
import Derived.Test.YtjdgofpcmcobnaaGreatDoorGl
import Derived.Test.YtjdgofpcmcobnaaGreatDoorGf
set_option maxRecDepth 100000
set_option maxHeartbeats 2000000
set_option linter.unusedVariables false
set_option linter.unusedSimpArgs false
namespace Go.Proofs.YtjdgofpcmcobnaaGreatDoor.AL
open Go Go.RowKit
def nmI:ByteArray:=⟨#[73,83,79,76,65,84,69]⟩
theorem StOK.put {ds:List Dev} {s:List Int} (h:StOK ds s) (i:Nat) {p:Int} (hp:p=1∨p=2):StOK ds (s.set i p):=by
 refine ⟨by simp [h.1],fun x hx=>?_⟩
 rcases List.mem_or_eq_of_mem_set hx with h9 | rfl
 ·exact h.2 x h9
 ·exact hp
end Go.Proofs.YtjdgofpcmcobnaaGreatDoor.AL
namespace Go.Proofs.YtjdgofpcmcobnaaGreatDoor.AL
open Go Go.RowKit
theorem prov0_2:Pure Tryz.prog G0 72 [.agg [.int .i64 0,.nils,.nils],.int .i64 2] (.agg [.int .i64 0,.nils,.sl [[.int .i64 2]]]):=ev1 (F:=[]) (fun p hp=>by cases hp) 3000 (by kernel_rfl)
theorem prov0_3:Pure Tryz.prog G0 72 [.agg [.int .i64 0,.nils,.nils],.int .i64 3] (.agg [.int .i64 0,.nils,.sl [[.int .i64 3]]]):=ev1 (F:=[]) (fun p hp=>by cases hp) 3000 (by kernel_rfl)
theorem prov2_2:Pure Tryz.prog G0 72 [.agg [.int .i64 0,.nils,.sl [[.int .i64 2]]],.int .i64 2] (.agg [.int .i64 0,.nils,.sl [[.int .i64 2]]]):=ev1 (F:=[]) (fun p hp=>by cases hp) 3000 (by kernel_rfl)
theorem prov2_3:Pure Tryz.prog G0 72 [.agg [.int .i64 0,.nils,.sl [[.int .i64 2]]],.int .i64 3] (.agg [.int .i64 0,.nils,.sl [[.int .i64 2],[.int .i64 3]]]):=ev1 (F:=[]) (fun p hp=>by cases hp) 3000 (by kernel_rfl)
theorem prov3_3:Pure Tryz.prog G0 72 [.agg [.int .i64 0,.nils,.sl [[.int .i64 3]]],.int .i64 3] (.agg [.int .i64 0,.nils,.sl [[.int .i64 3]]]):=ev1 (F:=[]) (fun p hp=>by cases hp) 3000 (by kernel_rfl)
theorem prov23_2:Pure Tryz.prog G0 72 [.agg [.int .i64 0,.nils,.sl [[.int .i64 2],[.int .i64 3]]],.int .i64 2] (.agg [.int .i64 0,.nils,.sl [[.int .i64 2],[.int .i64 3]]]):=ev1 (F:=[]) (fun p hp=>by cases hp) 3000 (by kernel_rfl)
theorem prov23_3:Pure Tryz.prog G0 72 [.agg [.int .i64 0,.nils,.sl [[.int .i64 2],[.int .i64 3]]],.int .i64 3] (.agg [.int .i64 0,.nils,.sl [[.int .i64 2],[.int .i64 3]]]):=ev1 (F:=[]) (fun p hp=>by cases hp) 3000 (by kernel_rfl)
end Go.Proofs.YtjdgofpcmcobnaaGreatDoor.AL
namespace Go.Proofs.YtjdgofpcmcobnaaGreatDoor.AL
open Go Go.RowKit
theorem Imp.own1 {P:Program} {G:Nat→Option (List D)} {k:Nat} {A:List D} {x:Int} {nm:Nat} {R:D} {upd:List (Nat×Option Blk)} (h:Imp P G k (A++[.sl [[.int .i64 x]]]) [] nm R upd) (m:Nat):Imp P G k (A++[.os m 1 0 1]) [(m,.arr 1 [[.int .i64 x]])] nm R ((m,none)::upd):=by
  refine ⟨h.body,fun c dom ι w st vs hP hG hr hg hn hs hv=>?_⟩
  have hm:st m=some (.arr 1 [[.int .i64 x]]):=hg (m,_) (by simp)
  obtain ⟨hr2,hview⟩:=hr.freeze (gv:=fun n=>if n=m then st m else none) (L:=[m]) (fun n b hb=>by
    by_cases e:n=m
    · subst e; rwa [if_pos rfl] at hb
    · rw [if_neg e] at hb; cases hb) (fun n hn=>by
    by_cases e:n=m
    · simp [e]
    · rw [if_neg e] at hn; cases hn)
  have hsub:∀ n,(updL st ([m].map (fun n=>(n,none))) n).isSome=true→(st n).isSome=true:=fun n hn=>by
    rw [updL_none] at hn
    by_cases e:n∈[m]
    · rw [if_pos e] at hn; cases hn
    · rwa [if_neg e] at hn
  have hmono:∀ v d,Rep w (Fb c ι st) ι v d→Rep w (Fb c ι (updL st ([m].map (fun n=>(n,none))))) ι v d:=fun v d hvd=>hvd.mono (fun b hb _=>⟨rfl,fun hF=>hb (by
    rcases hF with hF | ⟨n,ib,q1,q2⟩
    · exact .inl hF
    · exact .inr ⟨n,ib,hsub n q1,q2⟩)⟩) (Grows.refl ι)
  refine (h.calls c dom ι w _ vs hP hG hr2 (fun p hp=>by cases hp) hn (by simpa using hs) (fun i hi=>?_)).mono ?_
  · have hil:i < (A++[D.os m 1 0 1]).length:=by simpa using hi
    have h9:=hv i hil
    by_cases e:i < A.length
    · rw [List.getElem_append_left e] at h9 ⊢
      exact hmono _ _ h9
    · have e2:i=A.length:=by simp at hi; omega
      subst e2
      simp only [List.getElem_append_right (Nat.le_refl _),Nat.sub_self,List.getElem_cons_zero] at h9 ⊢
      refine .pure _ _ (hview _ _ _ h9 ?_)
      simp [viewE,hm]
  · rintro e w' ⟨v,ι',h1,h2,h3,h4⟩
    exact ⟨v,ι',h1,h2,h3,fun v d hvd=>h4 v d (hmono v d hvd)⟩
end Go.Proofs.YtjdgofpcmcobnaaGreatDoor.AL

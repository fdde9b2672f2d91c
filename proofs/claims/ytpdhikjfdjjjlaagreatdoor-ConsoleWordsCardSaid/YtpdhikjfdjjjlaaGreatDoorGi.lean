/-
  accounts.Defects on the two offices of awake; awake answers true.
-/
import Derived.Test.YtpdhikjfdjjjlaaGreatDoorGh
namespace Go.Proofs.YtpdhikjfdjjjlaaGreatDoor.AL
open Go Go.RowKit
set_option maxRecDepth 1000000
theorem defects_by {A : List D} {bk : D} (hA : A.length = 2) (hrun : (dRun [] A).map (fun s => (s.nx, s.σ.get 36, s.σ.get 8, gs s.st 16, gs s.st 15)) = some (39, .rf 16 false, .bp 15 0, some (.mp keys7 (fns7 bk)), some (.box [.nils])))
    (hbk : bk.lo 0 = true) (hbk40 : bk.lo 40 = true) (hit : ∀ i, i < 7 → Pure Tryz.prog G0 (262 + i) [bk, .any] (.tup [])) : Pure Tryz.prog G0 181 A (.tup [.nils, .int .i64 0]) := by
  cases h : dRun [] A with
  | none => rw [h] at hrun; cases hrun
  | some s6 =>
    rw [h] at hrun
    simp only [Option.map_some, Option.some.injEq, Prod.mk.injEq] at hrun
    obtain ⟨h1, h2, h3, h4, h5⟩ := hrun
    exact defects_of hA h h1 h2 h3 h4 h5 hbk hbk40 hit
def offA1 : List D := [.agg [.sl [[.str ⟨#[65]⟩, .int .i64 (0), .int .i64 (0)]], .nils], .agg [.int .i64 (1), .int .i64 (0), .int .i64 (0), .sl [], .nils, .nils, .sl [[.int .i64 (101), .int .i64 (2), .int .i64 (0), .str ⟨#[65, 100, 97]⟩], [.int .i64 (102), .int .i64 (1), .int .i64 (0), .str ⟨#[]⟩], [.int .i64 (103), .int .i64 (1), .int .i64 (0), .str ⟨#[]⟩], [.int .i64 (104), .int .i64 (1), .int .i64 (0), .str ⟨#[]⟩], [.int .i64 (105), .int .i64 (1), .int .i64 (0), .str ⟨#[]⟩], [.int .i64 (106), .int .i64 (1), .int .i64 (0), .str ⟨#[]⟩], [.int .i64 (107), .int .i64 (1), .int .i64 (0), .str ⟨#[]⟩], [.int .i64 (108), .int .i64 (1), .int .i64 (0), .str ⟨#[]⟩], [.int .i64 (109), .int .i64 (1), .int .i64 (0), .str ⟨#[]⟩], [.int .i64 (110), .int .i64 (1), .int .i64 (0), .str ⟨#[]⟩], [.int .i64 (111), .int .i64 (1), .int .i64 (0), .str ⟨#[]⟩], [.int .i64 (112), .int .i64 (1), .int .i64 (0), .str ⟨#[]⟩]], .sl [[.int .i64 (151), .int .i64 (1), .int .i64 (0), .str ⟨#[]⟩], [.int .i64 (152), .int .i64 (1), .int .i64 (0), .str ⟨#[]⟩], [.int .i64 (153), .int .i64 (1), .int .i64 (0), .str ⟨#[]⟩], [.int .i64 (154), .int .i64 (1), .int .i64 (0), .str ⟨#[]⟩]], .sl [[.int .i64 (1), .nils, .nils], [.int .i64 (2), .nils, .nils], [.int .i64 (3), .nils, .nils], [.int .i64 (4), .nils, .nils]], .nils, .nils, .nils]]
def offA2 : List D := [.agg [.sl [[.str ⟨#[65]⟩, .int .i64 (0), .int .i64 (0)]], .nils], .agg [.int .i64 (2), .int .i64 (0), .int .i64 (0), .sl [], .nils, .nils, .sl [[.int .i64 (201), .int .i64 (1), .int .i64 (0), .str ⟨#[]⟩], [.int .i64 (202), .int .i64 (1), .int .i64 (0), .str ⟨#[]⟩], [.int .i64 (203), .int .i64 (1), .int .i64 (0), .str ⟨#[]⟩], [.int .i64 (204), .int .i64 (1), .int .i64 (0), .str ⟨#[]⟩], [.int .i64 (205), .int .i64 (1), .int .i64 (0), .str ⟨#[]⟩], [.int .i64 (206), .int .i64 (1), .int .i64 (0), .str ⟨#[]⟩], [.int .i64 (207), .int .i64 (1), .int .i64 (0), .str ⟨#[]⟩], [.int .i64 (208), .int .i64 (1), .int .i64 (0), .str ⟨#[]⟩], [.int .i64 (209), .int .i64 (1), .int .i64 (0), .str ⟨#[]⟩], [.int .i64 (210), .int .i64 (1), .int .i64 (0), .str ⟨#[]⟩], [.int .i64 (211), .int .i64 (1), .int .i64 (0), .str ⟨#[]⟩], [.int .i64 (212), .int .i64 (1), .int .i64 (0), .str ⟨#[]⟩]], .sl [[.int .i64 (251), .int .i64 (1), .int .i64 (0), .str ⟨#[]⟩], [.int .i64 (252), .int .i64 (1), .int .i64 (0), .str ⟨#[]⟩], [.int .i64 (253), .int .i64 (1), .int .i64 (0), .str ⟨#[]⟩], [.int .i64 (254), .int .i64 (1), .int .i64 (0), .str ⟨#[]⟩]], .sl [[.int .i64 (1), .nils, .nils], [.int .i64 (2), .nils, .nils], [.int .i64 (3), .nils, .nils], [.int .i64 (4), .nils, .nils]], .nils, .nils, .nils]]
def offB1 : D := match offA1 with | [.agg x, .agg y] => .agg (x ++ y) | _ => .any
theorem hit1 : ∀ i, i < 7 → Pure Tryz.prog G0 (262 + i) [offB1, .any] (.tup []) := by
  intro i h
  match i, h with
  | 0, _ => exact ev0 10000 (by kernel_rfl)
  | 1, _ => exact ev0 10000 (by kernel_rfl)
  | 2, _ => exact ev0 10000 (by kernel_rfl)
  | 3, _ => exact ev0 10000 (by kernel_rfl)
  | 4, _ => exact ev0 10000 (by kernel_rfl)
  | 5, _ => exact ev0 10000 (by kernel_rfl)
  | 6, _ => exact ev0 10000 (by kernel_rfl)
theorem defects1 : Pure Tryz.prog G0 181 offA1 (.tup [.nils, .int .i64 0]) :=
  defects_by (bk := offB1) (by kernel_rfl) (by kernel_rfl) (by kernel_rfl) (by kernel_rfl) hit1
def offB2 : D := match offA2 with | [.agg x, .agg y] => .agg (x ++ y) | _ => .any
theorem hit2 : ∀ i, i < 7 → Pure Tryz.prog G0 (262 + i) [offB2, .any] (.tup []) := by
  intro i h
  match i, h with
  | 0, _ => exact ev0 10000 (by kernel_rfl)
  | 1, _ => exact ev0 10000 (by kernel_rfl)
  | 2, _ => exact ev0 10000 (by kernel_rfl)
  | 3, _ => exact ev0 10000 (by kernel_rfl)
  | 4, _ => exact ev0 10000 (by kernel_rfl)
  | 5, _ => exact ev0 10000 (by kernel_rfl)
  | 6, _ => exact ev0 10000 (by kernel_rfl)
theorem defects2 : Pure Tryz.prog G0 181 offA2 (.tup [.nils, .int .i64 0]) :=
  defects_by (bk := offB2) (by kernel_rfl) (by kernel_rfl) (by kernel_rfl) (by kernel_rfl) hit2
end Go.Proofs.YtpdhikjfdjjjlaaGreatDoor.AL
namespace Go.Proofs.YtpdhikjfdjjjlaaGreatDoor.AL
open Go Go.RowKit
set_option maxRecDepth 1000000
def fcA : List (Nat × List D × D) := [(181, offA1, .tup [.nils, .int .i64 0]), (181, offA2, .tup [.nils, .int .i64 0])]
theorem fcA_ok : ∀ p ∈ fcA, Pure Tryz.prog G0 p.1 p.2.1 p.2.2 := by
  intro p hp
  simp only [fcA, List.mem_cons, List.not_mem_nil, or_false] at hp
  rcases hp with rfl | rfl
  · exact defects1
  · exact defects2
theorem awake_fact : Pure Tryz.prog G0 4 [] (.bool true) := ev1 fcA_ok 100000 (by kernel_rfl)
end Go.Proofs.YtpdhikjfdjjjlaaGreatDoor.AL

/-
  Contracts: the deck of numbers, Count, Index, Join, Clone; the functions are the program's.
-/
import Derived.Test.YtpdhikjfdjjjlaaGreatDoorProg
import Derived.WalkKit
import Derived.WalkSpells
import Derived.StillTailTactics
import Derived.WalkLawsBesides
import Derived.Deep.QuietTactic
import Derived.BigQuiet
import Derived.Deep.OwnRows
import Derived.Lib.Hide
import Derived.Test.YtpdhikjfdjjjlaaGreatDoorGe
import Derived.Lib.Walk
import Derived.Lib.Strings
import Derived.Lib.Bytealg
import Derived.BigCall
import Derived.BigGuard
import Derived.Shelf.Strings.OnBuilder
import Derived.Test.YtpdhikjfdjjjlaaGreatDoorGf
namespace Go.Proofs.YtpdhikjfdjjjlaaGreatDoor.AL
open Go Go.RowKit
set_option maxHeartbeats 400000
theorem wrapu (x : Int) : 0 ≤ IntKind.u64.wrap x ∧ IntKind.u64.wrap x < 18446744073709551616 := by
  have h := Int.emod_nonneg x (show (18446744073709551616 : Int) ≠ 0 by decide)
  have h2 := Int.emod_lt_of_pos x (show (0 : Int) < 18446744073709551616 by decide)
  have e : IntKind.u64.wrap x = x % 18446744073709551616 := by simp [IntKind.wrap, IntKind.bits, IntKind.signed]
  rw [e]; exact ⟨h, h2⟩
theorem next_val (y n : Int) (h0 : 0 ≤ y) (h1 : 1 ≤ n) (h2 : n ≤ 1000) : wrap64 ((y / 8589934592).tmod n) = deckV y n := by
  have h3 : 0 ≤ y / 8589934592 := Int.ediv_nonneg h0 (by decide)
  rw [Int.tmod_eq_emod_of_nonneg h3]
  have h4 := Int.emod_nonneg (y / 8589934592) (show n ≠ 0 by omega)
  have h5 := Int.emod_lt_of_pos (y / 8589934592) (show 0 < n by omega)
  exact IntWalk.wrap64_in _ ⟨by omega, by omega⟩
/-- What a deck gives, and what it turns to. -/
def RetNx (w : World) (bd : Nat) (A : Option Addr) (m c ty : Nat) (xs : List Int) (i : Nat) (s n : Int) (e : Ending) (w' : World) : Prop :=
  e = .returned (.int .i64 (deckV (deckS xs i s) n)) ∧ w.grownBy w' (some bd) ∧ w'.heap.size = w.heap.size ∧ w'.heap[bd]? = some (.cells #[.slice A m c, .int .i64 (deckI xs i : Nat), .int .u64 (deckS xs i s)] ty (0, 0))
theorem nx_end {w : World} {bd : Nat} {A : Option Addr} {m c ty : Nat} {i j : Nat} {s x : Int} (k : Nat)
    (hb : w.heap[bd]? = some (.cells #[.slice A m c, .int .i64 i, .int .u64 s] ty (0, 0))) :
    w.grownBy (((w.drewN k).setCell ⟨bd, 1, none⟩ (.int .i64 j)).setCell ⟨bd, 2, none⟩ (.int .u64 x)) (some bd) ∧
    (((w.drewN k).setCell ⟨bd, 1, none⟩ (.int .i64 j)).setCell ⟨bd, 2, none⟩ (.int .u64 x)).heap.size = w.heap.size ∧
    (((w.drewN k).setCell ⟨bd, 1, none⟩ (.int .i64 j)).setCell ⟨bd, 2, none⟩ (.int .u64 x)).heap[bd]? = some (.cells #[.slice A m c, .int .i64 j, .int .u64 x] ty (0, 0)) := by
  have hg : ∀ b, b ≠ bd → (((w.drewN k).setCell ⟨bd, 1, none⟩ (.int .i64 j)).setCell ⟨bd, 2, none⟩ (.int .u64 x)).heap[b]? = w.heap[b]? := fun b hne => by
    rw [Below.heap_setCell _ _ _ _ hne, Below.heap_setCell _ _ _ _ hne]; rfl
  have hz : (((w.drewN k).setCell ⟨bd, 1, none⟩ (.int .i64 j)).setCell ⟨bd, 2, none⟩ (.int .u64 x)).heap.size = w.heap.size := by simp [World.setCell, World.drewN]
  refine ⟨⟨rfl, rfl, rfl, by rw [hz]; exact Nat.le_refl _, fun b _ hne => hg b (by intro e; exact hne (by rw [e]))⟩, hz, ?_⟩
  simp [World.setCell, Array.getElem?_modify, hb]
theorem nx_end1 {w : World} {bd : Nat} {A : Option Addr} {m c ty : Nat} {i : Nat} {s x : Int} (k : Nat)
    (hb : w.heap[bd]? = some (.cells #[.slice A m c, .int .i64 i, .int .u64 s] ty (0, 0))) :
    w.grownBy ((w.drewN k).setCell ⟨bd, 2, none⟩ (.int .u64 x)) (some bd) ∧ ((w.drewN k).setCell ⟨bd, 2, none⟩ (.int .u64 x)).heap.size = w.heap.size ∧
    ((w.drewN k).setCell ⟨bd, 2, none⟩ (.int .u64 x)).heap[bd]? = some (.cells #[.slice A m c, .int .i64 i, .int .u64 x] ty (0, 0)) := by
  have hg : ∀ b, b ≠ bd → ((w.drewN k).setCell ⟨bd, 2, none⟩ (.int .u64 x)).heap[b]? = w.heap[b]? := fun b hne => by
    rw [Below.heap_setCell _ _ _ _ hne]; rfl
  have hz : ((w.drewN k).setCell ⟨bd, 2, none⟩ (.int .u64 x)).heap.size = w.heap.size := by simp [World.setCell, World.drewN]
  refine ⟨⟨rfl, rfl, rfl, by rw [hz]; exact Nat.le_refl _, fun b _ hne => hg b (by intro e; exact hne (by rw [e]))⟩, hz, ?_⟩
  simp [World.setCell, Array.getElem?_modify, hb]
theorem nx_any (w : World) (bd ty : Nat) (A : Option Addr) (c : Nat) (xs : List Int) (i : Nat) (s n : Int) (hb : w.heap[bd]? = some (.cells #[.slice A xs.length c, .int .i64 i, .int .u64 s] ty (0, 0)))
    (hs : i < xs.length → ∃ b off, A = some ⟨b, off, none⟩ ∧ b ≠ bd ∧ w.cell? ⟨b, off + i, none⟩ = some (.int .i64 (xs.getD i 0))) (hl : xs.length ≤ 400) (_hi : i ≤ xs.length) (h1 : 1 ≤ n) (h2 : n ≤ 1000) :
    Calls Tryz.prog 32 #[.pointer (some ⟨bd, 0, none⟩), .int .i64 n] w (RetNx w bd A xs.length c ty xs i s n) := by
  have c0 : w.cell? ⟨bd, 0, none⟩ = some (.slice A xs.length c) := by rw [cell_of_row w bd 0 _ _ _ hb]; rfl
  have c1 : w.cell? ⟨bd, 1, none⟩ = some (.int .i64 i) := by rw [cell_of_row w bd 1 _ _ _ hb]; rfl
  have c2 : w.cell? ⟨bd, 2, none⟩ = some (.int .u64 s) := by rw [cell_of_row w bd 2 _ _ _ hb]; rfl
  have f1 : w.frozen? ⟨bd, 1, none⟩ = false := by simp [World.frozen?, hb]
  have f2 : w.frozen? ⟨bd, 2, none⟩ = false := by simp [World.frozen?, hb]
  have Hb := Lib.hid hb
  clear hb
  have hn1 : ¬ n < 1 := by omega
  by_cases hlt : i < xs.length
  · obtain ⟨b, off, rfl, hne, hc⟩ := hs hlt
    generalize hxi : xs.getD i 0 = xi at hc
    go_enter Tryz.func32, Tryz.ntmps32
    go_wp2_with (fail)
    go_quiet (fail)
    go_wp2_with (fail)
    go_quiet (fail)
    go_wp2_with (fail)
    all_goals go_ret
    have e1 : deckS xs i s = IntKind.u64.wrap (IntKind.u64.wrap (IntKind.u64.wrap (s * 6364136223846793005) + IntKind.u64.wrap xi) + 1442695040888963407) := by unfold deckS; rw [if_pos hlt, hxi]
    have e2 : deckI xs i = i + 1 := by unfold deckI; rw [if_pos hlt]
    obtain ⟨g1, g2, g3⟩ := nx_end (j := i + 1) (x := IntKind.u64.wrap (IntKind.u64.wrap (IntKind.u64.wrap (s * 6364136223846793005) + IntKind.u64.wrap xi) + 1442695040888963407)) _ Hb.out
    refine ⟨?_, g1, g2, by rw [e1, e2]; exact g3⟩
    rw [e1, ← next_val _ n (wrapu _).1 h1 h2]
    rfl
  · go_enter Tryz.func32, Tryz.ntmps32
    go_wp2_with (fail)
    go_quiet (fail)
    go_wp2_with (fail)
    all_goals go_ret
    have e1 : deckS xs i s = IntKind.u64.wrap (IntKind.u64.wrap (IntKind.u64.wrap (s * 6364136223846793005)) + 1442695040888963407) := by unfold deckS; rw [if_neg hlt, Int.add_zero]
    have e2 : deckI xs i = i := by unfold deckI; rw [if_neg hlt]
    obtain ⟨g1, g2, g3⟩ := nx_end1 (x := IntKind.u64.wrap (IntKind.u64.wrap (IntKind.u64.wrap (s * 6364136223846793005)) + 1442695040888963407)) _ Hb.out
    refine ⟨?_, g1, g2, by rw [e1, e2]; exact g3⟩
    rw [e1, ← next_val _ n (wrapu _).1 h1 h2]
    rfl
/-- The next number of a deck, as it is said of names. -/
theorem nx_imp (G : Nat → Option (List D)) (n : Nat) (a l h : Int) (sc : List (Int × Int × Int)) (nm : Nat) (h1 : 1 ≤ a) (h2 : a ≤ 1000) : ImpR Tryz.prog G 32 [.bp n 0, .int .i64 a] [(n, .deck ((a, l, h) :: sc))] nm (nm + 1) (rngD l h) [(n, some (.deck sc))] := by
  refine ⟨⟨Tryz.f32, Tryz.func32, rfl, by rfl⟩, fun c dom ι w st vs hP hG hr hst hnm hsz hrep => ?_⟩
  have hs := hst _ (List.mem_singleton.2 rfl)
  simp only at hs
  obtain ⟨ib, v0, ty, xs, i, s, k1, k2, k3, k4, k5, k6, k7, k8, k9, k10⟩ := hr.blk n _ hs
  obtain ⟨o1, o2, o3⟩ := k10
  have r0 := hrep 0 (by simp)
  have r1 := hrep 1 (by simp)
  simp only [List.getElem_cons_zero, List.getElem_cons_succ] at r0 r1
  have e0 : vs.getD 0 undef = .pointer (some ⟨ib.blk, 0, none⟩) := by
    generalize vs.getD 0 undef = v at r0
    cases r0 with
    | pure _ _ h => cases h
    | bp n off ib' hn hb =>
      obtain rfl : ib' = ib := Option.some.inj (hn.symm.trans k1)
      rfl
  have e1 : vs.getD 1 undef = .int .i64 a := r1.is_int
  have ev : vs = #[.pointer (some ⟨ib.blk, 0, none⟩), .int .i64 a] := by
    apply Array.ext
    · simpa using hsz
    · intro j j1 j2
      have hlt : j < 2 := by simpa using j2
      have : vs[j] = vs.getD j undef := by simp [j1]
      rw [this]
      match j, hlt with
      | 0, _ => simpa using e0
      | 1, _ => simpa using e1
  have hslot : ∃ A cp, v0 = .slice A xs.length cp ∧ (i < xs.length → ∃ b off, A = some ⟨b, off, none⟩ ∧ b ≠ ib.blk ∧ w.cell? ⟨b, off + i, none⟩ = some (.int .i64 (xs.getD i 0))) := by
    generalize hd : D.sl (intRows xs) = d at k5
    have hlen : (intRows xs).length = xs.length := by simp [intRows]
    cases k5 <;> first | (cases hd; done) | skip
    · rename_i a' cap h0
      injection hd with hd
      have hz : xs.length = 0 := by rw [← hlen, hd]; rfl
      exact ⟨a', cap, by rw [hz], fun h => by omega⟩
    · rename_i b off es cap rows vs' hc hF hes hm hz hrr
      injection hd with hd
      subst hd
      refine ⟨_, cap, by rw [hlen], fun hi => ⟨b, off, rfl, fun hbe => hF (.inr ⟨n, ib, by rw [hs]; rfl, k1, k3, hbe⟩), ?_⟩⟩
      have hi' : i < (intRows xs).length := by omega
      have hrow : (intRows xs)[i] = [.int .i64 xs[i]] := by simp [intRows]
      have hes1 : es = 1 := by
        have := hes _ (List.getElem_mem hi')
        rw [hrow] at this
        simpa using this.symm
      subst hes1
      have hc0 := hm i 0 hi' Nat.one_pos
      have hv := hrr i hi' 0 (by rw [hrow]; exact Nat.one_pos)
      simp only [hrow, List.getElem_cons_zero] at hv
      have : vs' i 0 = .int .i64 xs[i] := by
        generalize vs' i 0 = v at hv
        cases hv; rfl
      rw [this] at hc0
      simpa [hi] using hc0
  obtain ⟨A, cp, rfl, hcell⟩ := hslot
  rw [ev]
  refine (nx_any w ib.blk ty A cp xs i s a k4 hcell k7 k6 h1 h2).mono ?_
  rintro e w' ⟨rfl, g, gz, gb⟩
  have hso : (st n).isSome = true := by rw [hs]; rfl
  have hlt := (hr.own ib.blk ⟨n, ib, hso, k1, k3, rfl⟩).1
  obtain ⟨q1, q2⟩ := hr.one (w' := w') n ib (.deck sc) g.os g.tape g.output g.size
      (fun b hb' => by
        by_cases e : b = ib.blk
        · exact .inr ⟨ib, k1, hso, k3, e⟩
        · exact .inl (g.block b hb' (fun hh => e (Option.some.inj hh))))
      (fun _ => ⟨Nat.lt_of_lt_of_le hlt g.size, .inl ⟨ib, k1, hso, k3, rfl⟩⟩)
      (fun ib2 h2 => .inl (Option.some.inj (k1.symm.trans h2)))
      (fun f1 f2 => ⟨ib, _, ty, xs, deckI xs i, deckS xs i s, by simp [updI], k2, k3, gb, f2 _ _ k5, by unfold deckI; split <;> omega, k7, (wrapu _).1, (wrapu _).2, o3⟩)
  refine ⟨_, updI ι n ib, rfl, q1.weaken (fun _ => Le.refl _) (fun m hm => .inl (hm.elim id (fun e => e ▸ hr.dom n (by rw [k1]; rfl)))), ?_, q2⟩
  unfold rngD
  by_cases hlh : l = h
  · rw [if_pos hlh]
    have : deckV (deckS xs i s) a = l := by omega
    rw [this]
    exact .pure _ _ (.int _ _)
  · rw [if_neg hlh]
    exact .pure _ _ (.rng _ _ _ _ o1 o2)
end Go.Proofs.YtpdhikjfdjjjlaaGreatDoor.AL
namespace Go.Proofs.YtpdhikjfdjjjlaaGreatDoor.AL
open Go Go.RowKit
set_option maxHeartbeats 1000000
set_option maxRecDepth 100000
theorem count_any (s : ByteArray) (c : UInt8) (w : World) : Calls Tryz.prog 140 #[.string s, .string ⟨#[c]⟩] w fun e w' => e = .returned (.int .i64 (Lib.countByte s.data.toList c)) ∧ w' = w := by
  go_enter Tryz.func140, Tryz.ntmps140
  go_wp2
  rw [run_callFunc_extern Tryz.func217 (by kernel_rfl) (by kernel_rfl) (by kernel_rfl) (e := Extern.BytealgCount.count) (by kernel_rfl), Lib.run_countString]
  simp only [Result.andThen]
  rw [Oper.upon_value]
  go_wp2
  go_ret
  exact ⟨rfl, rfl⟩
theorem index_lite (s : ByteArray) (c : UInt8) (w : World) : Calls Tryz.prog 218 #[.string s, .string ⟨#[c]⟩] w fun e w' => e = .returned (.int .i64 (Lib.indexByte s.data.toList c)) ∧ w' = w := by
  go_enter Tryz.func218, Tryz.ntmps218
  go_wp2
  · have h : ([c] == s.toList) = true := by assumption
    go_ret
    refine ⟨?_, rfl⟩
    have e : s.data.toList = [c] := by rw [← Lib.toList_data]; exact (beq_iff_eq.1 h).symm
    rw [e]
    simp [Lib.indexByte]
  rw [run_callFunc_extern Tryz.func398 (by kernel_rfl) (by kernel_rfl) (by kernel_rfl) (e := Extern.BytealgIndexByte.indexByte) (by kernel_rfl), Lib.run_indexByteString]
  simp only [Result.andThen]
  rw [Oper.upon_value]
  go_wp2
  go_ret
  exact ⟨by simp; rfl, rfl⟩
theorem index_any (s : ByteArray) (c : UInt8) (w : World) : Calls Tryz.prog 141 #[.string s, .string ⟨#[c]⟩] w fun e w' => e = .returned (.int .i64 (Lib.indexByte s.data.toList c)) ∧ w' = w := by
  go_enter Tryz.func141, Tryz.ntmps141
  go_wp2_with (go_at_call 218; refine (index_lite _ _ _).mono ?_; rintro e w' ⟨rfl, rfl⟩)
  go_ret
  exact ⟨rfl, rfl⟩
/-- A contract that leaves the world as it is, as it is said of data. -/
theorem pure_of_same {P : Program} {G : Nat → Option (List D)} {k : Nat} {A : List D} {R : D} (hb : HasBody P k) (h : ∀ (w : World) (F : Nat → Prop) (vs : Array Value), vs.size = A.length → (∀ i (hi : i < A.length), RepP w F (vs.getD i undef) A[i]) → Calls P k vs w fun e w' => ∃ v, e = .returned v ∧ w' = w ∧ RepP w F v R) : Pure P G k A R :=
  ⟨hb, fun w F vs hs hr _ _ => (h w F vs hs hr).mono (by rintro e w' ⟨v, rfl, rfl, hv⟩; exact ⟨v, rfl, Below.refl _ _, hv⟩)⟩
theorem str2 {w : World} {F : Nat → Prop} {vs : Array Value} {s t : ByteArray} (hs : vs.size = [D.str s, D.str t].length) (hr : ∀ i (hi : i < [D.str s, D.str t].length), RepP w F (vs.getD i undef) [D.str s, D.str t][i]) : vs = #[.string s, .string t] := by
  have r0 := hr 0 (by simp)
  have r1 := hr 1 (by simp)
  simp only [List.getElem_cons_zero, List.getElem_cons_succ] at r0 r1
  apply Array.ext
  · simpa using hs
  · intro j j1 j2
    have hlt : j < 2 := by simpa using j2
    have : vs[j] = vs.getD j undef := by simp [j1]
    rw [this]
    match j, hlt with
    | 0, _ => generalize vs.getD 0 undef = v at r0; cases r0; rfl
    | 1, _ => generalize vs.getD 1 undef = v at r1; cases r1; rfl
theorem count_pure (G : Nat → Option (List D)) (s sep : ByteArray) (c : UInt8) (hc : sep.data.toList = [c]) : Pure Tryz.prog G 140 [.str s, .str sep] (.int .i64 (Lib.countByte s.data.toList c)) := by
  have e : sep = ⟨#[c]⟩ := by
    obtain ⟨⟨l⟩⟩ := sep
    simp at hc
    rw [hc]
  subst e
  refine pure_of_same ⟨Tryz.f140, Tryz.func140, rfl, by rfl⟩ (fun w F vs hs hr => ?_)
  rw [str2 hs hr]
  exact (count_any s c w).mono (by rintro e w' ⟨rfl, rfl⟩; exact ⟨_, rfl, rfl, .int _ _⟩)
theorem index_pure (G : Nat → Option (List D)) (s sep : ByteArray) (c : UInt8) (hc : sep.data.toList = [c]) : Pure Tryz.prog G 141 [.str s, .str sep] (.int .i64 (Lib.indexByte s.data.toList c)) := by
  have e : sep = ⟨#[c]⟩ := by
    obtain ⟨⟨l⟩⟩ := sep
    simp at hc
    rw [hc]
  subst e
  refine pure_of_same ⟨Tryz.f141, Tryz.func141, rfl, by rfl⟩ (fun w F vs hs hr => ?_)
  rw [str2 hs hr]
  exact (index_any s c w).mono (by rintro e w' ⟨rfl, rfl⟩; exact ⟨_, rfl, rfl, .int _ _⟩)
end Go.Proofs.YtpdhikjfdjjjlaaGreatDoor.AL
namespace Go.Proofs.YtpdhikjfdjjjlaaGreatDoor.AL
open Go Go.RowKit Go.Shelf
set_option maxRecDepth 100000
/-- The numbers of strings.Join and what it calls. -/
def joinRen : Ren := ⟨fun n => match n with | 156 => 176 | 165 => 252 | 166 => 253 | 169 => 254 | 240 => 356 | 241 => 357 | 276 => 438 | 277 => 439 | _ => 0, fun n => match n with | 0 => 0 | 3 => 3 | 4 => 4 | 5 => 5 | 9 => 9 | 20 => 20 | 31 => 44 | 37 => 59 | 70 => 294 | 72 => 296 | 75 => 299 | 76 => 300 | 80 => 109 | 127 => 394 | 164 => 466 | _ => 0, fun _ => 0⟩
theorem joinLays : Lays.n156 Tryz.prog joinRen where
  mixed := by kernel_rfl
  f156 := by kernel_rfl
  f165 := by kernel_rfl
  f166 := by kernel_rfl
  f169 := by kernel_rfl
  f240 := by kernel_rfl
  f241 := by kernel_rfl
  f276 := by kernel_rfl
  f277 := by kernel_rfl
  t0 := Tryz.underlying0
  a0 := Tryz.isAgg0
  z0 := Tryz.sizeOf0
  v0 := Tryz.zeroValue0
  t3 := Tryz.underlying3
  a3 := Tryz.isAgg3
  z3 := Tryz.sizeOf3
  v3 := Tryz.zeroValue3
  t4 := Tryz.underlying4
  a4 := Tryz.isAgg4
  z4 := Tryz.sizeOf4
  v4 := Tryz.zeroValue4
  t9 := Tryz.underlying9
  a9 := Tryz.isAgg9
  z9 := Tryz.sizeOf9
  v9 := Tryz.zeroValue9
  t20 := Tryz.underlying20
  a20 := Tryz.isAgg20
  z20 := Tryz.sizeOf20
  v20 := Tryz.zeroValue20
  t31 := Tryz.underlying44
  a31 := Tryz.isAgg44
  z31 := Tryz.sizeOf44
  v31 := Tryz.zeroValue44
  t37 := Tryz.underlying59
  a37 := Tryz.isAgg59
  z37 := Tryz.sizeOf59
  v37 := Tryz.zeroValue59
  t70 := Tryz.underlying294
  a70 := Tryz.isAgg294
  z70 := Tryz.sizeOf294
  v70 := Tryz.zeroValue294
  t72 := Tryz.underlying296
  a72 := Tryz.isAgg296
  z72 := Tryz.sizeOf296
  v72 := Tryz.zeroValue296
  t75 := Tryz.underlying299
  a75 := Tryz.isAgg299
  z75 := Tryz.sizeOf299
  v75 := Tryz.zeroValue299
  t76 := Tryz.underlying300
  a76 := Tryz.isAgg300
  z76 := Tryz.sizeOf300
  v76 := Tryz.zeroValue300
  t127 := Tryz.underlying394
  a127 := Tryz.isAgg394
  z127 := Tryz.sizeOf394
  v127 := Tryz.zeroValue394
  t164 := Tryz.underlying466
  a164 := Tryz.isAgg466
  z164 := Tryz.sizeOf466
  v164 := Tryz.zeroValue466
theorem joinExtra : Builder.Extra Tryz.prog joinRen where
  sizeBuilder := by kernel_rfl
  liesBuilder := by kernel_rfl
  t5 := Tryz.underlying5
  a5 := Tryz.isAgg5
  z5 := Tryz.sizeOf5
  v5 := Tryz.zeroValue5
  infoByte := by kernel_rfl
  cellsByte := by kernel_rfl
  sizeByte := by kernel_rfl
  neB5 := by decide
theorem join_pure (G : Nat → Option (List D)) (rows : List (List D)) (xs : List ByteArray) (sep : ByteArray) (hr0 : rows = xs.map (fun x => [.str x])) (hne : rows ≠ []) (hN : xs.length ≤ 1000) (hlen : (Lib.join (xs.map (·.data.toList)) sep.data.toList).length ≤ 100000) :
    Pure Tryz.prog G 176 [.sl rows, .str sep] (.str ⟨(Lib.join (xs.map (·.data.toList)) sep.data.toList).toArray⟩) := by
  refine ⟨⟨Tryz.f176, Tryz.func176, rfl, by rfl⟩, fun w F vs hs hr _ _ => ?_⟩
  have r0 := hr 0 (by simp)
  have r1 := hr 1 (by simp)
  simp only [List.getElem_cons_zero, List.getElem_cons_succ] at r0 r1
  have e1 : vs.getD 1 undef = .string sep := by generalize vs.getD 1 undef = v at r1; cases r1; rfl
  have hxl : rows.length = xs.length := by rw [hr0]; simp
  obtain ⟨b, off, cap, e0, hcap, hcell, hbk⟩ : ∃ b off cap, vs.getD 0 undef = .slice (some ⟨b, off, none⟩) xs.length cap ∧ xs.length ≤ cap ∧ (∀ (j : Nat) x, xs[j]? = some x → w.cell? ⟨b, off + j, none⟩ = some (.string x)) ∧ b < w.heap.size := by
    generalize vs.getD 0 undef = v at r0
    generalize hd : D.sl rows = d at r0
    cases r0 <;> first | (cases hd; done) | skip
    · injection hd with hd; exact absurd hd hne
    · rename_i b off es cap rows' vs' hc hF hes hm hz hrr
      injection hd with hd
      subst hd
      have hes1 : es = 1 := by
        have h0 : 0 < rows.length := by
          cases rows with
          | nil => exact absurd rfl hne
          | cons _ _ => simp
        have := hes _ (List.getElem_mem h0)
        subst hr0
        simpa using this.symm
      subst hes1
      refine ⟨b, off, cap, by rw [hxl], by omega, fun j x hj => ?_, isSome_lt hz⟩
      obtain ⟨hj1, hj2⟩ := List.getElem?_eq_some_iff.1 hj
      have hj' : j < rows.length := by omega
      have hrow : rows[j] = [.str x] := by subst hr0; simp [hj2]
      have hc0 := hm j 0 hj' Nat.one_pos
      have hv := hrr j hj' 0 (by rw [hrow]; exact Nat.one_pos)
      simp only [hrow, List.getElem_cons_zero] at hv
      have : vs' j 0 = .string x := by
        generalize vs' j 0 = v at hv
        cases hv; rfl
      rw [this] at hc0
      simpa using hc0
  have ev : vs = #[.slice (some ⟨b, off, none⟩) xs.length cap, .string sep] := by
    apply Array.ext
    · simpa using hs
    · intro j j1 j2
      have hlt : j < 2 := by simpa using j2
      have : vs[j] = vs.getD j undef := by simp [j1]
      rw [this]
      match j, hlt with
      | 0, _ => simpa using e0
      | 1, _ => simpa using e1
  rw [ev]
  refine (Any.strings_Join joinLays joinExtra b off cap xs sep w hcell hbk (by omega) hcap (by omega)).mono ?_
  rintro e w' ⟨rfl, hb⟩
  exact ⟨_, rfl, hb, .str _⟩
end Go.Proofs.YtpdhikjfdjjjlaaGreatDoor.AL
namespace Go.Proofs.YtpdhikjfdjjjlaaGreatDoor.AL
open Go Go.RowKit
set_option maxRecDepth 100000
def AllF : List (Nat × Func) → Prop
  | [] => True
  | (k, f) :: l => (Tryz.prog.funcs[k]? = some f ∧ (f.name == "runtime.NumGoroutine") = false ∧ Nat.ble f.ntmps 8000 = true) ∧ AllF l
def AllT : CT Func → Prop
  | .lf => True
  | .nd _ v l r => AllF v ∧ AllT l ∧ AllT r
theorem lk_ok : ∀ {l : List (Nat × Func)} {n : Nat} {f : Func}, AllF l → lk n l = some f → Tryz.prog.funcs[n]? = some f ∧ (f.name == "runtime.NumGoroutine") = false ∧ Nat.ble f.ntmps 8000 = true
  | [], _, _, _, h => by cases h
  | (k, g) :: l, n, f, ha, h => by
    simp only [lk] at h
    cases hb : Nat.beq n k with
    | true =>
      rw [hb] at h
      have := Nat.eq_of_beq_eq_true hb
      subst this
      cases h
      exact ha.1
    | false =>
      rw [hb] at h
      exact lk_ok ha.2 h
theorem find_ok : ∀ {t : CT Func} {n : Nat}, AllT t → AllF (t.find n)
  | .lf, _, _ => trivial
  | .nd k v l r, n, h => by
    simp only [CT.find]
    cases Nat.beq n k with
    | true => exact h.1
    | false =>
      cases Nat.blt n k with
      | true => exact find_ok h.2.1
      | false => exact find_ok h.2.2
noncomputable def AllY : CT TyI → Bool
  | .lf => true
  | .nd _ v l r => v.all (fun p => tyB Tryz.prog p.1 p.2) && (AllY l && AllY r)
theorem lkY_ok : ∀ {l : List (Nat × TyI)} {n : Nat} {f : TyI}, (l.all fun p => tyB Tryz.prog p.1 p.2) = true → lk n l = some f → tyB Tryz.prog n f = true
  | [], _, _, _, h => by cases h
  | (k, g) :: l, n, f, ha, h => by
    simp only [List.all_cons, Bool.and_eq_true] at ha
    simp only [lk] at h
    cases hb : Nat.beq n k with
    | true =>
      rw [hb] at h
      have := Nat.eq_of_beq_eq_true hb
      subst this
      cases h
      exact ha.1
    | false =>
      rw [hb] at h
      exact lkY_ok ha.2 h
theorem findY_ok : ∀ {t : CT TyI} {n : Nat}, AllY t = true → ((t.find n).all fun p => tyB Tryz.prog p.1 p.2) = true
  | .lf, _, _ => rfl
  | .nd k v l r, n, h => by
    simp only [AllY, Bool.and_eq_true] at h
    simp only [CT.find]
    cases Nat.beq n k with
    | true => exact h.1
    | false =>
      cases Nat.blt n k with
      | true => exact findY_ok h.2.1
      | false => exact findY_ok h.2.2
theorem ty_ok : TyOK Tryz.prog Ty := fun t i h => lkY_ok (findY_ok (t := tyT) (by kernel_rfl)) h
theorem okC0 : AllF fnC0 := ⟨⟨Tryz.func3, by rfl, by rfl⟩, ⟨Tryz.func4, by rfl, by rfl⟩, ⟨Tryz.func5, by rfl, by rfl⟩, ⟨Tryz.func6, by rfl, by rfl⟩, ⟨Tryz.func7, by rfl, by rfl⟩, ⟨Tryz.func8, by rfl, by rfl⟩, ⟨Tryz.func9, by rfl, by rfl⟩, ⟨Tryz.func10, by rfl, by rfl⟩, ⟨Tryz.func11, by rfl, by rfl⟩, ⟨Tryz.func12, by rfl, by rfl⟩, ⟨Tryz.func13, by rfl, by rfl⟩, ⟨Tryz.func14, by rfl, by rfl⟩, ⟨Tryz.func15, by rfl, by rfl⟩, trivial⟩
theorem okC1 : AllF fnC1 := ⟨⟨Tryz.func16, by rfl, by rfl⟩, ⟨Tryz.func17, by rfl, by rfl⟩, ⟨Tryz.func18, by rfl, by rfl⟩, ⟨Tryz.func19, by rfl, by rfl⟩, ⟨Tryz.func20, by rfl, by rfl⟩, ⟨Tryz.func21, by rfl, by rfl⟩, ⟨Tryz.func22, by rfl, by rfl⟩, ⟨Tryz.func23, by rfl, by rfl⟩, ⟨Tryz.func24, by rfl, by rfl⟩, ⟨Tryz.func25, by rfl, by rfl⟩, ⟨Tryz.func26, by rfl, by rfl⟩, ⟨Tryz.func27, by rfl, by rfl⟩, ⟨Tryz.func28, by rfl, by rfl⟩, ⟨Tryz.func29, by rfl, by rfl⟩, ⟨Tryz.func30, by rfl, by rfl⟩, ⟨Tryz.func31, by rfl, by rfl⟩, trivial⟩
theorem okC2 : AllF fnC2 := ⟨⟨Tryz.func32, by rfl, by rfl⟩, ⟨Tryz.func33, by rfl, by rfl⟩, ⟨Tryz.func34, by rfl, by rfl⟩, ⟨Tryz.func35, by rfl, by rfl⟩, ⟨Tryz.func36, by rfl, by rfl⟩, ⟨Tryz.func37, by rfl, by rfl⟩, ⟨Tryz.func38, by rfl, by rfl⟩, ⟨Tryz.func39, by rfl, by rfl⟩, ⟨Tryz.func41, by rfl, by rfl⟩, ⟨Tryz.func43, by rfl, by rfl⟩, ⟨Tryz.func44, by rfl, by rfl⟩, ⟨Tryz.func45, by rfl, by rfl⟩, ⟨Tryz.func47, by rfl, by rfl⟩, trivial⟩
theorem okC3 : AllF fnC3 := ⟨⟨Tryz.func48, by rfl, by rfl⟩, ⟨Tryz.func49, by rfl, by rfl⟩, ⟨Tryz.func52, by rfl, by rfl⟩, ⟨Tryz.func53, by rfl, by rfl⟩, ⟨Tryz.func54, by rfl, by rfl⟩, ⟨Tryz.func59, by rfl, by rfl⟩, trivial⟩
theorem okC4 : AllF fnC4 := ⟨⟨Tryz.func65, by rfl, by rfl⟩, ⟨Tryz.func66, by rfl, by rfl⟩, ⟨Tryz.func78, by rfl, by rfl⟩, ⟨Tryz.func79, by rfl, by rfl⟩, trivial⟩
theorem okC5 : AllF fnC5 := ⟨⟨Tryz.func83, by rfl, by rfl⟩, ⟨Tryz.func84, by rfl, by rfl⟩, ⟨Tryz.func85, by rfl, by rfl⟩, ⟨Tryz.func86, by rfl, by rfl⟩, ⟨Tryz.func87, by rfl, by rfl⟩, ⟨Tryz.func88, by rfl, by rfl⟩, ⟨Tryz.func90, by rfl, by rfl⟩, ⟨Tryz.func91, by rfl, by rfl⟩, ⟨Tryz.func92, by rfl, by rfl⟩, ⟨Tryz.func93, by rfl, by rfl⟩, trivial⟩
theorem okC6 : AllF fnC6 := ⟨⟨Tryz.func99, by rfl, by rfl⟩, ⟨Tryz.func100, by rfl, by rfl⟩, ⟨Tryz.func104, by rfl, by rfl⟩, ⟨Tryz.func105, by rfl, by rfl⟩, ⟨Tryz.func106, by rfl, by rfl⟩, ⟨Tryz.func107, by rfl, by rfl⟩, ⟨Tryz.func108, by rfl, by rfl⟩, ⟨Tryz.func109, by rfl, by rfl⟩, ⟨Tryz.func110, by rfl, by rfl⟩, ⟨Tryz.func111, by rfl, by rfl⟩, trivial⟩
theorem okC7 : AllF fnC7 := ⟨⟨Tryz.func112, by rfl, by rfl⟩, ⟨Tryz.func113, by rfl, by rfl⟩, ⟨Tryz.func114, by rfl, by rfl⟩, ⟨Tryz.func115, by rfl, by rfl⟩, ⟨Tryz.func117, by rfl, by rfl⟩, ⟨Tryz.func118, by rfl, by rfl⟩, ⟨Tryz.func119, by rfl, by rfl⟩, ⟨Tryz.func120, by rfl, by rfl⟩, ⟨Tryz.func121, by rfl, by rfl⟩, ⟨Tryz.func122, by rfl, by rfl⟩, ⟨Tryz.func123, by rfl, by rfl⟩, ⟨Tryz.func124, by rfl, by rfl⟩, ⟨Tryz.func125, by rfl, by rfl⟩, ⟨Tryz.func126, by rfl, by rfl⟩, ⟨Tryz.func127, by rfl, by rfl⟩, trivial⟩
theorem okC8 : AllF fnC8 := ⟨⟨Tryz.func128, by rfl, by rfl⟩, ⟨Tryz.func129, by rfl, by rfl⟩, ⟨Tryz.func130, by rfl, by rfl⟩, ⟨Tryz.func131, by rfl, by rfl⟩, ⟨Tryz.func132, by rfl, by rfl⟩, ⟨Tryz.func133, by rfl, by rfl⟩, ⟨Tryz.func135, by rfl, by rfl⟩, ⟨Tryz.func136, by rfl, by rfl⟩, ⟨Tryz.func137, by rfl, by rfl⟩, ⟨Tryz.func138, by rfl, by rfl⟩, ⟨Tryz.func142, by rfl, by rfl⟩, ⟨Tryz.func143, by rfl, by rfl⟩, trivial⟩
theorem okC9 : AllF fnC9 := ⟨⟨Tryz.func144, by rfl, by rfl⟩, ⟨Tryz.func145, by rfl, by rfl⟩, ⟨Tryz.func146, by rfl, by rfl⟩, ⟨Tryz.func147, by rfl, by rfl⟩, ⟨Tryz.func148, by rfl, by rfl⟩, ⟨Tryz.func149, by rfl, by rfl⟩, ⟨Tryz.func150, by rfl, by rfl⟩, ⟨Tryz.func151, by rfl, by rfl⟩, ⟨Tryz.func153, by rfl, by rfl⟩, ⟨Tryz.func155, by rfl, by rfl⟩, ⟨Tryz.func156, by rfl, by rfl⟩, ⟨Tryz.func157, by rfl, by rfl⟩, ⟨Tryz.func158, by rfl, by rfl⟩, ⟨Tryz.func159, by rfl, by rfl⟩, trivial⟩
theorem okC10 : AllF fnC10 := ⟨⟨Tryz.func170, by rfl, by rfl⟩, ⟨Tryz.func175, by rfl, by rfl⟩, trivial⟩
theorem okC11 : AllF fnC11 := ⟨⟨Tryz.func177, by rfl, by rfl⟩, ⟨Tryz.func178, by rfl, by rfl⟩, ⟨Tryz.func179, by rfl, by rfl⟩, ⟨Tryz.func180, by rfl, by rfl⟩, ⟨Tryz.func182, by rfl, by rfl⟩, ⟨Tryz.func183, by rfl, by rfl⟩, ⟨Tryz.func184, by rfl, by rfl⟩, ⟨Tryz.func185, by rfl, by rfl⟩, ⟨Tryz.func187, by rfl, by rfl⟩, ⟨Tryz.func188, by rfl, by rfl⟩, ⟨Tryz.func189, by rfl, by rfl⟩, ⟨Tryz.func190, by rfl, by rfl⟩, ⟨Tryz.func191, by rfl, by rfl⟩, trivial⟩
theorem okC12 : AllF fnC12 := ⟨⟨Tryz.func192, by rfl, by rfl⟩, ⟨Tryz.func193, by rfl, by rfl⟩, ⟨Tryz.func194, by rfl, by rfl⟩, ⟨Tryz.func195, by rfl, by rfl⟩, ⟨Tryz.func196, by rfl, by rfl⟩, ⟨Tryz.func197, by rfl, by rfl⟩, ⟨Tryz.func198, by rfl, by rfl⟩, ⟨Tryz.func199, by rfl, by rfl⟩, ⟨Tryz.func200, by rfl, by rfl⟩, ⟨Tryz.func201, by rfl, by rfl⟩, ⟨Tryz.func202, by rfl, by rfl⟩, ⟨Tryz.func203, by rfl, by rfl⟩, ⟨Tryz.func205, by rfl, by rfl⟩, ⟨Tryz.func207, by rfl, by rfl⟩, trivial⟩
theorem okC13 : AllF fnC13 := ⟨⟨Tryz.func208, by rfl, by rfl⟩, ⟨Tryz.func209, by rfl, by rfl⟩, ⟨Tryz.func210, by rfl, by rfl⟩, ⟨Tryz.func219, by rfl, by rfl⟩, ⟨Tryz.func220, by rfl, by rfl⟩, ⟨Tryz.func221, by rfl, by rfl⟩, ⟨Tryz.func222, by rfl, by rfl⟩, ⟨Tryz.func223, by rfl, by rfl⟩, trivial⟩
theorem okC14 : AllF fnC14 := ⟨⟨Tryz.func224, by rfl, by rfl⟩, ⟨Tryz.func225, by rfl, by rfl⟩, ⟨Tryz.func227, by rfl, by rfl⟩, ⟨Tryz.func228, by rfl, by rfl⟩, ⟨Tryz.func230, by rfl, by rfl⟩, ⟨Tryz.func231, by rfl, by rfl⟩, ⟨Tryz.func232, by rfl, by rfl⟩, ⟨Tryz.func234, by rfl, by rfl⟩, ⟨Tryz.func239, by rfl, by rfl⟩, trivial⟩
theorem okC15 : AllF fnC15 := ⟨⟨Tryz.func244, by rfl, by rfl⟩, ⟨Tryz.func251, by rfl, by rfl⟩, ⟨Tryz.func255, by rfl, by rfl⟩, trivial⟩
theorem okC16 : AllF fnC16 := ⟨⟨Tryz.func258, by rfl, by rfl⟩, ⟨Tryz.func259, by rfl, by rfl⟩, ⟨Tryz.func262, by rfl, by rfl⟩, ⟨Tryz.func263, by rfl, by rfl⟩, ⟨Tryz.func264, by rfl, by rfl⟩, ⟨Tryz.func265, by rfl, by rfl⟩, ⟨Tryz.func266, by rfl, by rfl⟩, ⟨Tryz.func267, by rfl, by rfl⟩, ⟨Tryz.func268, by rfl, by rfl⟩, ⟨Tryz.func269, by rfl, by rfl⟩, ⟨Tryz.func270, by rfl, by rfl⟩, ⟨Tryz.func271, by rfl, by rfl⟩, trivial⟩
theorem okC17 : AllF fnC17 := ⟨⟨Tryz.func272, by rfl, by rfl⟩, ⟨Tryz.func273, by rfl, by rfl⟩, ⟨Tryz.func274, by rfl, by rfl⟩, ⟨Tryz.func275, by rfl, by rfl⟩, ⟨Tryz.func277, by rfl, by rfl⟩, ⟨Tryz.func278, by rfl, by rfl⟩, ⟨Tryz.func279, by rfl, by rfl⟩, ⟨Tryz.func281, by rfl, by rfl⟩, ⟨Tryz.func282, by rfl, by rfl⟩, ⟨Tryz.func283, by rfl, by rfl⟩, ⟨Tryz.func284, by rfl, by rfl⟩, trivial⟩
theorem okC18 : AllF fnC18 := ⟨⟨Tryz.func288, by rfl, by rfl⟩, ⟨Tryz.func290, by rfl, by rfl⟩, ⟨Tryz.func292, by rfl, by rfl⟩, ⟨Tryz.func296, by rfl, by rfl⟩, ⟨Tryz.func297, by rfl, by rfl⟩, trivial⟩
theorem okC19 : AllF fnC19 := ⟨⟨Tryz.func305, by rfl, by rfl⟩, ⟨Tryz.func311, by rfl, by rfl⟩, ⟨Tryz.func315, by rfl, by rfl⟩, ⟨Tryz.func316, by rfl, by rfl⟩, trivial⟩
theorem okC20 : AllF fnC20 := ⟨⟨Tryz.func324, by rfl, by rfl⟩, ⟨Tryz.func325, by rfl, by rfl⟩, ⟨Tryz.func326, by rfl, by rfl⟩, ⟨Tryz.func333, by rfl, by rfl⟩, trivial⟩
theorem okC21 : AllF fnC21 := ⟨⟨Tryz.func343, by rfl, by rfl⟩, trivial⟩
theorem okC22 : AllF fnC22 := ⟨⟨Tryz.func355, by rfl, by rfl⟩, ⟨Tryz.func359, by rfl, by rfl⟩, ⟨Tryz.func360, by rfl, by rfl⟩, ⟨Tryz.func367, by rfl, by rfl⟩, trivial⟩
theorem okC23 : AllF fnC23 := ⟨⟨Tryz.func368, by rfl, by rfl⟩, ⟨Tryz.func371, by rfl, by rfl⟩, ⟨Tryz.func373, by rfl, by rfl⟩, ⟨Tryz.func375, by rfl, by rfl⟩, ⟨Tryz.func376, by rfl, by rfl⟩, ⟨Tryz.func382, by rfl, by rfl⟩, ⟨Tryz.func383, by rfl, by rfl⟩, trivial⟩
theorem okC24 : AllF fnC24 := ⟨⟨Tryz.func384, by rfl, by rfl⟩, ⟨Tryz.func385, by rfl, by rfl⟩, ⟨Tryz.func386, by rfl, by rfl⟩, ⟨Tryz.func387, by rfl, by rfl⟩, ⟨Tryz.func388, by rfl, by rfl⟩, ⟨Tryz.func389, by rfl, by rfl⟩, ⟨Tryz.func390, by rfl, by rfl⟩, ⟨Tryz.func391, by rfl, by rfl⟩, ⟨Tryz.func395, by rfl, by rfl⟩, ⟨Tryz.func396, by rfl, by rfl⟩, ⟨Tryz.func397, by rfl, by rfl⟩, trivial⟩
theorem okC25 : AllF fnC25 := ⟨⟨Tryz.func408, by rfl, by rfl⟩, ⟨Tryz.func409, by rfl, by rfl⟩, trivial⟩
theorem okC27 : AllF fnC27 := ⟨⟨Tryz.func434, by rfl, by rfl⟩, ⟨Tryz.func444, by rfl, by rfl⟩, ⟨Tryz.func446, by rfl, by rfl⟩, trivial⟩
theorem okC28 : AllF fnC28 := ⟨⟨Tryz.func458, by rfl, by rfl⟩, trivial⟩
theorem okC29 : AllF fnC29 := ⟨⟨Tryz.func466, by rfl, by rfl⟩, ⟨Tryz.func467, by rfl, by rfl⟩, ⟨Tryz.func468, by rfl, by rfl⟩, ⟨Tryz.func479, by rfl, by rfl⟩, trivial⟩
theorem okC31 : AllF fnC31 := ⟨⟨Tryz.func511, by rfl, by rfl⟩, trivial⟩
theorem okC32 : AllF fnC32 := ⟨⟨Tryz.func512, by rfl, by rfl⟩, ⟨Tryz.func524, by rfl, by rfl⟩, ⟨Tryz.func525, by rfl, by rfl⟩, ⟨Tryz.func526, by rfl, by rfl⟩, trivial⟩
theorem okC33 : AllF fnC33 := ⟨⟨Tryz.func530, by rfl, by rfl⟩, trivial⟩
theorem okC35 : AllF fnC35 := ⟨⟨Tryz.func560, by rfl, by rfl⟩, trivial⟩
theorem fnT_ok : AllT fnT := ⟨okC16, ⟨okC8, ⟨okC4, ⟨okC2, ⟨okC1, ⟨okC0, trivial, trivial⟩, trivial⟩, ⟨okC3, trivial, trivial⟩⟩, ⟨okC6, ⟨okC5, trivial, trivial⟩, ⟨okC7, trivial, trivial⟩⟩⟩, ⟨okC12, ⟨okC10, ⟨okC9, trivial, trivial⟩, ⟨okC11, trivial, trivial⟩⟩, ⟨okC14, ⟨okC13, trivial, trivial⟩, ⟨okC15, trivial, trivial⟩⟩⟩⟩, ⟨okC25, ⟨okC21, ⟨okC19, ⟨okC18, ⟨okC17, trivial, trivial⟩, trivial⟩, ⟨okC20, trivial, trivial⟩⟩, ⟨okC23, ⟨okC22, trivial, trivial⟩, ⟨okC24, trivial, trivial⟩⟩⟩, ⟨okC31, ⟨okC28, ⟨okC27, trivial, trivial⟩, ⟨okC29, trivial, trivial⟩⟩, ⟨okC33, ⟨okC32, trivial, trivial⟩, ⟨okC35, trivial, trivial⟩⟩⟩⟩⟩
theorem eq_ok : EqOK Tryz.prog (fun t => cond (Nat.beq t 91) (flatT Tryz.prog 100 91) none) := by
  intro t ks h
  cases hb : Nat.beq t 91 with
  | false => simp only [hb, cond_false] at h; cases h
  | true =>
    have := Nat.eq_of_beq_eq_true hb
    subst this
    exact ⟨h, by kernel_rfl, by kernel_rfl⟩
theorem strs_ok : ∀ {rows : List (List D)} {xs : List ByteArray}, strs rows = some xs → rows = xs.map (fun x => [.str x])
  | [], xs, h => by cases h; rfl
  | r :: rows, xs, h => by
    unfold strs at h
    split at h
    · rename_i e; cases e
    · rename_i b l e
      injection e with e1 e2
      subst e1; subst e2
      split at h
      · rename_i r hr
        cases h
        rw [strs_ok hr]; rfl
      · cases h
    · cases h
theorem extS_ok {k : Nat} {A : List D} {R : D} (hk : k = 140 ∨ k = 141) (h : extS k A = some R) : Pure Tryz.prog G0 k A R := by
  unfold extS at h
  split at h
  · rename_i s t
    split at h
    · rename_i c hc
      rcases hk with rfl | rfl
      · cases h; exact count_pure _ _ _ _ hc
      · cases h; exact index_pure _ _ _ _ hc
    · cases h
  · cases h
theorem extG_ok {k : Nat} {A : List D} {R : D} (hk : k = 140 ∨ k = 141) (h : extG k A = some R) : Pure Tryz.prog G0 k A R := by
  unfold extG at h
  split at h
  · rename_i p q t
    split at h
    · rename_i c hc
      cases ha : digL.all fun d => decide (extI k c (p.data.toList ++ d :: q.data.toList) = extI k c (p.data.toList ++ 49 :: q.data.toList)) with
      | false => rw [ha] at h; cases h
      | true =>
        rw [ha] at h
        simp only [cond_true, Option.some.injEq] at h
        rw [List.all_eq_true] at ha
        refine pure_cases (cases_strg p q) (by rcases hk with rfl | rfl; exact ⟨Tryz.f140, Tryz.func140, rfl, by rfl⟩; exact ⟨Tryz.f141, Tryz.func141, rfl, by rfl⟩) (fun a' ha' => ?_)
        obtain ⟨d, hd, rfl⟩ := List.mem_map.1 ha'
        have hd' := ha d hd
        rw [decide_eq_true_eq] at hd'
        refine ⟨R, ?_, ?_⟩
        · refine extS_ok hk ?_
          simp only [extS, hc]
          rw [← h, ← hd']
          rcases hk with rfl | rfl <;> rfl
        · rw [← h]; simp [leD]
    · cases h
  · exact extS_ok hk h
theorem extJ_ok {A : List D} {R : D} (h : extJ A = some R) : Pure Tryz.prog G0 176 A R := by
  unfold extJ at h
  split at h
  · rename_i rows sep
    split at h
    · rename_i xs hx
      cases hc : (!rows.isEmpty && Nat.ble xs.length 1000 && Nat.ble (Lib.join (xs.map (·.data.toList)) sep.data.toList).length 100000) with
      | false => rw [hc] at h; cases h
      | true =>
        rw [hc] at h
        cases h
        simp only [Bool.and_eq_true, Nat.ble_eq] at hc
        obtain ⟨⟨c1, c2⟩, c3⟩ := hc
        exact join_pure G0 rows xs sep (strs_ok hx) (by intro e; subst e; simp at c1) c2 c3
    · cases h
  · cases h
theorem facts_ok : ∀ {F : List (Nat × List D × D)} {k : Nat} {A : List D} {R : D}, (∀ p ∈ F, Pure Tryz.prog G0 p.1 p.2.1 p.2.2) → facts F k A = some R → Pure Tryz.prog G0 k A R
  | [], _, _, _, _, h => by cases h
  | (k', A', R') :: l, k, A, R, hF, h => by
    simp only [facts] at h
    cases hb : Nat.beq k k' with
    | false => rw [hb] at h; exact facts_ok (fun p hp => hF p (List.mem_cons_of_mem _ hp)) h
    | true =>
      rw [hb] at h
      simp only [cond_true] at h
      have := Nat.eq_of_beq_eq_true hb
      subst this
      cases hl : leDs A A' with
      | false => rw [hl] at h; exact facts_ok (fun p hp => hF p (List.mem_cons_of_mem _ hp)) h
      | true =>
        rw [hl] at h
        cases h
        obtain ⟨l1, l2⟩ := leDs_ok hl
        have hp := hF (k, A', R') (by simp)
        exact ⟨hp.body, fun w F vs hs hr hG hF => hp.calls w F vs (by simp only; omega) (fun i hi => (l2 i (by simp only at hi; omega) hi).p _ _ _ (hr i (by simp only at hi; omega))) hG hF⟩
/-- The functions of the seat, with what is known of them. -/
theorem mo_ok {C : NS} {F : List (Nat × List D × D)} (hF : ∀ p ∈ F, Pure Tryz.prog G0 p.1 p.2.1 p.2.2) (hC : ∀ k, C.has k = true → Pure Tryz.prog G0 k [.sl []] (.sl [])) : MoOK Tryz.prog G0 (MF C F) := by
  refine ⟨fun k f h => ?_, eq_ok, fun k A R _ h => ?_, fun k h n a l u sc nm h1 h2 => ?_⟩
  · have h : fns k = some f := h
    unfold fns at h
    split at h
    · rename_i g hg
      obtain ⟨g1, g2, g3⟩ := lk_ok (find_ok fnT_ok) hg
      unfold fnOf at h
      split at h
      · rename_i c hc
        cases h
        exact ⟨g, g1, hc, rfl, rfl, g2, by rw [Nat.ble_eq] at g3; exact g3⟩
      · cases h
    · cases h
  · have h : ext0 C F k A = some R := h
    unfold ext0 at h
    cases h1 : (Nat.beq k 140 || Nat.beq k 141) with
    | true =>
      rw [h1] at h
      exact extG_ok (by simp only [Bool.or_eq_true, Nat.beq_eq] at h1; exact h1) h
    | false =>
      rw [h1] at h
      simp only [cond_false] at h
      cases h2 : Nat.beq k 176 with
      | true =>
        rw [h2] at h
        have := Nat.eq_of_beq_eq_true h2
        subst this
        exact extJ_ok h
      | false =>
        rw [h2] at h
        simp only [cond_false] at h
        cases h3 : C.has k with
        | true =>
          rw [h3] at h
          simp only [cond_true] at h
          unfold extC at h
          split at h
          · cases h; exact hC k h3
          · cases h
        | false =>
          rw [h3] at h
          exact facts_ok hF h
  · have h : Nat.beq k 32 = true := h
    have := Nat.eq_of_beq_eq_true h
    subst this
    exact nx_imp G0 n a l u sc nm h1 h2
theorem mixed : Tryz.prog.follows .mixedOrders = true := by kernel_rfl
def AllN (p : Nat → Prop) : NS → Prop
  | .lf => True
  | .nd k l r => p k ∧ AllN p l ∧ AllN p r
theorem NS.ok {p : Nat → Prop} : ∀ {t : NS} {n : Nat}, AllN p t → t.has n = true → p n
  | .lf, _, _, h => by cases h
  | .nd k l r, n, ha, h => by
    simp only [NS.has] at h
    cases hb : Nat.beq n k with
    | true =>
      have := Nat.eq_of_beq_eq_true hb
      subst this
      exact ha.1
    | false =>
      rw [hb] at h
      simp only [cond_false] at h
      cases hl : Nat.blt n k with
      | true => rw [hl] at h; exact NS.ok ha.2.1 h
      | false => rw [hl] at h; exact NS.ok ha.2.2 h
theorem ev0 {k : Nat} {A : List D} {R : D} (f : Nat) (h : (evPure Ty (MF .lf []) (evS Ty G0 (MF .lf []) f) k A []).map (·.1) = some R) : Pure Tryz.prog G0 k A R :=
  run_pure ty_ok (mo_ok (fun p hp => by cases hp) (fun k h => by cases h)) mixed (fun p hp => by cases hp) h
end Go.Proofs.YtpdhikjfdjjjlaaGreatDoor.AL
namespace Go.Proofs.YtpdhikjfdjjjlaaGreatDoor.AL
open Go Go.RowKit
set_option maxRecDepth 100000
theorem cl118 : Pure Tryz.prog G0 118 [.sl []] (.sl []) := pure_nil ⟨Tryz.f118, Tryz.func118, rfl, by rfl⟩ (ev0 100 (by kernel_rfl)) (ev0 100 (by kernel_rfl))
theorem cl119 : Pure Tryz.prog G0 119 [.sl []] (.sl []) := pure_nil ⟨Tryz.f119, Tryz.func119, rfl, by rfl⟩ (ev0 100 (by kernel_rfl)) (ev0 100 (by kernel_rfl))
theorem cl120 : Pure Tryz.prog G0 120 [.sl []] (.sl []) := pure_nil ⟨Tryz.f120, Tryz.func120, rfl, by rfl⟩ (ev0 100 (by kernel_rfl)) (ev0 100 (by kernel_rfl))
theorem cl148 : Pure Tryz.prog G0 148 [.sl []] (.sl []) := pure_nil ⟨Tryz.f148, Tryz.func148, rfl, by rfl⟩ (ev0 100 (by kernel_rfl)) (ev0 100 (by kernel_rfl))
theorem cl150 : Pure Tryz.prog G0 150 [.sl []] (.sl []) := pure_nil ⟨Tryz.f150, Tryz.func150, rfl, by rfl⟩ (ev0 100 (by kernel_rfl)) (ev0 100 (by kernel_rfl))
theorem cl182 : Pure Tryz.prog G0 182 [.sl []] (.sl []) := pure_nil ⟨Tryz.f182, Tryz.func182, rfl, by rfl⟩ (ev0 100 (by kernel_rfl)) (ev0 100 (by kernel_rfl))
theorem cl183 : Pure Tryz.prog G0 183 [.sl []] (.sl []) := pure_nil ⟨Tryz.f183, Tryz.func183, rfl, by rfl⟩ (ev0 100 (by kernel_rfl)) (ev0 100 (by kernel_rfl))
theorem cl188 : Pure Tryz.prog G0 188 [.sl []] (.sl []) := pure_nil ⟨Tryz.f188, Tryz.func188, rfl, by rfl⟩ (ev0 100 (by kernel_rfl)) (ev0 100 (by kernel_rfl))
theorem cl189 : Pure Tryz.prog G0 189 [.sl []] (.sl []) := pure_nil ⟨Tryz.f189, Tryz.func189, rfl, by rfl⟩ (ev0 100 (by kernel_rfl)) (ev0 100 (by kernel_rfl))
theorem cl190 : Pure Tryz.prog G0 190 [.sl []] (.sl []) := pure_nil ⟨Tryz.f190, Tryz.func190, rfl, by rfl⟩ (ev0 100 (by kernel_rfl)) (ev0 100 (by kernel_rfl))
theorem cl191 : Pure Tryz.prog G0 191 [.sl []] (.sl []) := pure_nil ⟨Tryz.f191, Tryz.func191, rfl, by rfl⟩ (ev0 100 (by kernel_rfl)) (ev0 100 (by kernel_rfl))
theorem cl192 : Pure Tryz.prog G0 192 [.sl []] (.sl []) := pure_nil ⟨Tryz.f192, Tryz.func192, rfl, by rfl⟩ (ev0 100 (by kernel_rfl)) (ev0 100 (by kernel_rfl))
theorem cl193 : Pure Tryz.prog G0 193 [.sl []] (.sl []) := pure_nil ⟨Tryz.f193, Tryz.func193, rfl, by rfl⟩ (ev0 100 (by kernel_rfl)) (ev0 100 (by kernel_rfl))
theorem cl274 : Pure Tryz.prog G0 274 [.sl []] (.sl []) := pure_nil ⟨Tryz.f274, Tryz.func274, rfl, by rfl⟩ (ev0 100 (by kernel_rfl)) (ev0 100 (by kernel_rfl))
theorem cl383 : Pure Tryz.prog G0 383 [.sl []] (.sl []) := pure_nil ⟨Tryz.f383, Tryz.func383, rfl, by rfl⟩ (ev0 100 (by kernel_rfl)) (ev0 100 (by kernel_rfl))
theorem cl384 : Pure Tryz.prog G0 384 [.sl []] (.sl []) := pure_nil ⟨Tryz.f384, Tryz.func384, rfl, by rfl⟩ (ev0 100 (by kernel_rfl)) (ev0 100 (by kernel_rfl))
theorem clone_ok : ∀ k, cloneS.has k = true → Pure Tryz.prog G0 k [.sl []] (.sl []) := fun _k h => NS.ok (t := cloneS) (p := fun k => Pure Tryz.prog G0 k [.sl []] (.sl [])) ⟨cl189, ⟨cl150, ⟨cl120, ⟨cl119, ⟨cl118, trivial, trivial⟩, trivial⟩, ⟨cl148, trivial, trivial⟩⟩, ⟨cl183, ⟨cl182, trivial, trivial⟩, ⟨cl188, trivial, trivial⟩⟩⟩, ⟨cl193, ⟨cl191, ⟨cl190, trivial, trivial⟩, ⟨cl192, trivial, trivial⟩⟩, ⟨cl383, ⟨cl274, trivial, trivial⟩, ⟨cl384, trivial, trivial⟩⟩⟩⟩ h
theorem ev1 {F : List (Nat × List D × D)} {k : Nat} {A : List D} {R : D} (hF : ∀ p ∈ F, Pure Tryz.prog G0 p.1 p.2.1 p.2.2) (f : Nat) (h : (evPure Ty (MF cloneS F) (evS Ty G0 (MF cloneS F) f) k A []).map (·.1) = some R) : Pure Tryz.prog G0 k A R :=
  run_pure ty_ok (mo_ok hF clone_ok) mixed (fun p hp => by cases hp) h
theorem joins_fact : Pure Tryz.prog G0 158 [.rng .i64 1 3] (.bool true) := by
  refine pure_cases (cases_rng _ _ _) ⟨Tryz.f158, Tryz.func158, rfl, by rfl⟩ (fun a' ha' => ⟨.bool true, ?_, rfl⟩)
  simp only [rngL, show (3 + 1 - 1 : Int).toNat = 3 from rfl, List.range, List.range.loop, List.map_cons, List.map_nil, List.mem_cons, List.not_mem_nil, or_false] at ha'
  rcases ha' with rfl | rfl | rfl
  · exact ev0 100 (by kernel_rfl)
  · exact ev0 100 (by kernel_rfl)
  · exact ev0 100 (by kernel_rfl)
theorem position_fact : Pure Tryz.prog G0 210 [.rng .i64 1 2] (.bool true) := by
  refine pure_cases (cases_rng _ _ _) ⟨Tryz.f210, Tryz.func210, rfl, by rfl⟩ (fun a' ha' => ⟨.bool true, ?_, rfl⟩)
  simp only [rngL, show (2 + 1 - 1 : Int).toNat = 2 from rfl, List.range, List.range.loop, List.map_cons, List.map_nil, List.mem_cons, List.not_mem_nil, or_false] at ha'
  rcases ha' with rfl | rfl
  · exact ev0 100 (by kernel_rfl)
  · exact ev0 100 (by kernel_rfl)
theorem number1_fact : Pure Tryz.prog G0 144 [.strg ⟨#[]⟩ ⟨#[]⟩, .int .i64 16777216] (.tup [.rng .i64 1 9, .bool true]) := by
  refine pure_cases (cases_strg _ _) ⟨Tryz.f144, Tryz.func144, rfl, by rfl⟩ (fun a' ha' => ?_)
  simp only [strgL, digL, List.map_cons, List.map_nil, List.mem_cons, List.not_mem_nil, or_false] at ha'
  rcases ha' with rfl | rfl | rfl | rfl | rfl | rfl | rfl | rfl | rfl
  · exact ⟨.tup [.int .i64 1, .bool true], ev0 1000 (by kernel_rfl), by rfl⟩
  · exact ⟨.tup [.int .i64 2, .bool true], ev0 1000 (by kernel_rfl), by rfl⟩
  · exact ⟨.tup [.int .i64 3, .bool true], ev0 1000 (by kernel_rfl), by rfl⟩
  · exact ⟨.tup [.int .i64 4, .bool true], ev0 1000 (by kernel_rfl), by rfl⟩
  · exact ⟨.tup [.int .i64 5, .bool true], ev0 1000 (by kernel_rfl), by rfl⟩
  · exact ⟨.tup [.int .i64 6, .bool true], ev0 1000 (by kernel_rfl), by rfl⟩
  · exact ⟨.tup [.int .i64 7, .bool true], ev0 1000 (by kernel_rfl), by rfl⟩
  · exact ⟨.tup [.int .i64 8, .bool true], ev0 1000 (by kernel_rfl), by rfl⟩
  · exact ⟨.tup [.int .i64 9, .bool true], ev0 1000 (by kernel_rfl), by rfl⟩
theorem number2_fact : Pure Tryz.prog G0 144 [.strg ⟨#[49, 48]⟩ ⟨#[]⟩, .int .i64 16777216] (.tup [.rng .i64 101 109, .bool true]) := by
  refine pure_cases (cases_strg _ _) ⟨Tryz.f144, Tryz.func144, rfl, by rfl⟩ (fun a' ha' => ?_)
  simp only [strgL, digL, List.map_cons, List.map_nil, List.mem_cons, List.not_mem_nil, or_false] at ha'
  rcases ha' with rfl | rfl | rfl | rfl | rfl | rfl | rfl | rfl | rfl
  · exact ⟨.tup [.int .i64 101, .bool true], ev0 1000 (by kernel_rfl), by rfl⟩
  · exact ⟨.tup [.int .i64 102, .bool true], ev0 1000 (by kernel_rfl), by rfl⟩
  · exact ⟨.tup [.int .i64 103, .bool true], ev0 1000 (by kernel_rfl), by rfl⟩
  · exact ⟨.tup [.int .i64 104, .bool true], ev0 1000 (by kernel_rfl), by rfl⟩
  · exact ⟨.tup [.int .i64 105, .bool true], ev0 1000 (by kernel_rfl), by rfl⟩
  · exact ⟨.tup [.int .i64 106, .bool true], ev0 1000 (by kernel_rfl), by rfl⟩
  · exact ⟨.tup [.int .i64 107, .bool true], ev0 1000 (by kernel_rfl), by rfl⟩
  · exact ⟨.tup [.int .i64 108, .bool true], ev0 1000 (by kernel_rfl), by rfl⟩
  · exact ⟨.tup [.int .i64 109, .bool true], ev0 1000 (by kernel_rfl), by rfl⟩
end Go.Proofs.YtpdhikjfdjjjlaaGreatDoor.AL
namespace Go.Proofs.YtpdhikjfdjjjlaaGreatDoor.AL
open Go Go.RowKit
set_option maxHeartbeats 400000
theorem few_any (w : World) (A : Option Addr) (n c : Nat) : Calls Tryz.prog 5 #[.slice A n c] w fun e w' => e = .returned (.bool (decide ((n : Int) ≤ 400))) ∧ w = w' := by
  go_enter Tryz.func5, Tryz.ntmps5
  go_wp2
  go_ret
  exact ⟨rfl, rfl⟩
theorem new_any (w : World) (A : Option Addr) (n c : Nat) :
    Calls Tryz.prog 6 #[.slice A n c] w fun e w' => e = .returned (.pointer (some ⟨w.heap.size, 0, none⟩)) ∧ w' = w.alloc (.cells #[.slice A n c, .int .i64 0, .int .u64 88172645463325252] 96 (0, 0)) := by
  go_enter Tryz.func6, Tryz.ntmps6
  go_wp2
  go_ret
  exact ⟨rfl, rfl⟩
end Go.Proofs.YtpdhikjfdjjjlaaGreatDoor.AL

/-
  Walks of the reference's masked, Unknown, Count and All.
-/
import Derived.Test.YtgpcojmdfmngeaaDoorPMsk
import Derived.Test.YtgpcojmdfmngeaaDoorL06a
namespace Go.Proofs.YtgpcojmdfmngeaaDoor
open Go.RowKit
set_option maxHeartbeats 400000
set_option maxRecDepth 100000

theorem refMasked_any (w : World) (S : Nat → Prop) (A : Option Addr) (c : Nat) (xs : List Int) (hs : SI w S A xs) (hl : xs.length ≤ 65536) :
    Calls Tryd.prog 122 #[.slice A xs.length c] w fun e w' => e = .returned (.bool (xs.all isMask)) ∧ w = w' := by
  go_enter Tryd.func122, Tryd.ntmps122
  go_wp2_with (fail)
  go_loopg [3] xs.length (fun g i wr => wr = w ∧ ∃ k : Nat, k + g = xs.length ∧ i = .int .i64 k ∧ xs.all isMask = (xs.drop k).all isMask)
  case atStart => exact ⟨rfl, 0, by omega, rfl, rfl⟩
  case round =>
    obtain ⟨rfl, k, hk, rfl, hi⟩ := hrel
    have Hi := Lib.hid hi
    have Hk := Lib.hid hk
    clear hi hk
    by_cases hlt : k < xs.length
    · obtain ⟨b, off, rfl, _, _, hc⟩ := hs.at_ hlt
      have hd := all_drop isMask xs k hlt
      have hm : isMask xs[k] = (decide (1 ≤ xs[k]) && decide (xs[k] ≤ 3)) := rfl
      generalize xs[k] = x at *
      by_cases h1 : decide (x < 1) = true
      · have Hd := Lib.hid (show (xs.drop k).all isMask = false by rw [hd, hm, decide_eq_false (by simp at h1; omega)]; rfl)
        clear hd hm
        go_wp2_with (fail)
        go_ret
        exact ⟨by rw [Hi.out, Hd.out]; rfl, rfl⟩
      · have h1 : decide (x < 1) = false := by simpa using h1
        by_cases h3 : decide (3 < x) = true
        · have Hd := Lib.hid (show (xs.drop k).all isMask = false by rw [hd, hm, decide_eq_false (p := x ≤ 3) (by simp at h3; omega)]; simp)
          clear hd hm
          go_wp2_with (fail)
          go_ret
          exact ⟨by rw [Hi.out, Hd.out]; rfl, rfl⟩
        · have h3 : decide (3 < x) = false := by simpa using h3
          have Hd := Lib.hid (show (xs.drop k).all isMask = (xs.drop (k + 1)).all isMask by rw [hd, hm, decide_eq_true (p := x ≤ 3) (by simp at h3; omega), decide_eq_true (p := 1 ≤ x) (by simp at h1; omega)]; rfl)
          clear hd hm
          go_wp2_with (fail)
          go_roundg (gk - 1)
          case measure => have := Hk.out; omega
          case rel => exact ⟨rfl, k + 1, by have := Hk.out; omega, by go_num, by rw [Hi.out, Hd.out]⟩
    · go_wp2_with (fail)
      go_ret
      refine ⟨?_, rfl⟩
      rw [Hi.out, List.drop_of_length_le (by omega)]
      rfl

theorem refUnknown_any (w : World) (S : Nat → Prop) (A : Option Addr) (c : Nat) (xs : List Int) (hs : SI w S A xs) (hl : xs.length ≤ 65536) :
    Calls Tryd.prog 50 #[.slice A xs.length c] w (RetOI w (unk xs 0)) := by
  go_enter Tryd.func50, Tryd.ntmps50
  go_wp2_with (fail)
  go_loopg [3, 4] xs.length (fun g v i wr => ∃ (k : Nat) (A' : Option Addr) (c' : Nat) (ys : List Int), k + g = xs.length ∧ i = .int .i64 k ∧ v = .slice A' ys.length c' ∧ OI wr (fun g => w.heap.size ≤ g) A' c' ys ∧ Below w.heap.size w wr ∧ ys ++ unk (xs.drop k) k = unk xs 0 ∧ ys.length ≤ k)
  case atStart => exact ⟨0, none, 0, [], by simp, rfl, rfl, OI.nil _ _, Below.refl _ _, rfl, Nat.le_refl _⟩
  case round =>
    obtain ⟨k, A', c', ys, hk, rfl, rfl, hown, hbel, hi, hyl⟩ := hrel
    have Hi := Lib.hid hi
    have Hk := Lib.hid hk
    clear hi hk
    have hs' := hs.keep (Kept.of_below hbel)
    by_cases hlt : k < xs.length
    · obtain ⟨b, off, rfl, _, _, hc⟩ := hs'.at_ hlt
      have Hd := Lib.hid (unk_drop xs k hlt)
      go_wp2_with (at_builtin; go_must (refine wpList_push (B := w.heap.size) rfl (.tmp 16) (.tmp 18) rfl rfl rfl rfl (hown.keep (Kept.alloc _ _ _)) (new_cell _ _ _) (by omega) (by simp; have := hbel.size; omega) ?_); intro A1 c1 w1 ho1 hb1 _ _)
      · go_roundg (gk - 1)
        case measure => have := Hk.out; omega
        case rel =>
          have := Hk.out
          refine ⟨k + 1, _, _, _, by omega, by go_num, ?_, ho1, (hbel.alloc hbel.size _).trans hb1, ?_, ?_⟩
          · simp
          · rw [← Hi.out, Hd.out, if_pos (by simp_all)]; simp
          · simp; omega
      · go_roundg (gk - 1)
        case measure => have := Hk.out; omega
        case rel =>
          have := Hk.out
          refine ⟨k + 1, _, _, _, by omega, by go_num, rfl, hown, hbel, ?_, by omega⟩
          rw [← Hi.out, Hd.out, if_neg (by simp_all)]
    · go_wp2_with (fail)
      go_ret
      have e := Hi.out
      rw [List.drop_of_length_le (by omega)] at e
      have e : unk xs 0 = ys := by rw [← e]; simp [unk]
      rw [e]
      exact ⟨A', c', rfl, hown, hbel⟩

theorem refCount_ok (w : World) (S : Nat → Prop) (A : Option Addr) (c : Nat) (xs : List Int) (hs : SI w S A xs) (hl : xs.length ≤ 65536) (hv : xs.all isMask = true) (h8 : (unk xs 0).length ≤ 8) :
    Calls Tryd.prog 42 #[.slice A xs.length c] w (RetPair w (2 ^ (unk xs 0).length, 0)) := by
  have HM := refMasked_any w S A c xs hs hl
  rw [hv] at HM
  have HM := Lib.hid HM
  have HU := Lib.hid (refUnknown_any w S A c xs hs hl)
  generalize unk xs 0 = us at *
  have hgt : decide ((8 : Int) < us.length) = false := decide_eq_false (by omega)
  go_enter Tryd.func42, Tryd.ntmps42
  go_wp2_with (fail)
  refine HM.out.mono ?_
  rintro e w1 ⟨rfl, rfl⟩
  go_wp2_with (fail)
  refine HU.out.mono ?_
  rintro e w1 ⟨A1, c1, rfl, ho1, hb1⟩
  have h9 := Lib.hid (wrap_pow us.length (by omega))
  go_wp2_with (fail)
  go_ret2
  refine ⟨?_, hb1⟩
  show Ending.returned (.tuple #[.int .i64 (wrap64 (2 ^ us.length)), .int .i64 0]) = _
  rw [h9.out]

/-- A slice of slices of ints that the call owns; its rows lie in other blocks. -/
def ORw (w : World) (S : Nat → Prop) (A : Option Addr) (c : Nat) (xss : List (List Int)) : Prop :=
  ∃ vs, OV w S 22 1 A xss.length c vs ∧ ∀ (i : Nat) (xs : List Int), xss[i]? = some xs → ∃ (A' : Option Addr) (c' : Nat), vs[i]? = some (.slice A' xs.length c') ∧ xs.length ≤ c' ∧ SI w (fun g => S g ∧ some g ≠ blockOf A) A' xs
theorem ORw.nil (w : World) (S : Nat → Prop) : ORw w S none 0 [] := ⟨[], OV.nil w S _ _, fun i xs h => by simp at h⟩
theorem ORw.keep {w w' : World} {S : Nat → Prop} {A : Option Addr} {c : Nat} {xss : List (List Int)} (h : ORw w S A c xss) (k : Kept S w w') : ORw w' S A c xss := by
  obtain ⟨vs, ho, hr⟩ := h
  refine ⟨vs, ho.keep k, fun i xs hx => ?_⟩
  obtain ⟨A', c', e1, e2, e3⟩ := hr i xs hx
  exact ⟨A', c', e1, e2, e3.keep (k.mono (fun b hb => hb.1))⟩
theorem ORw.sr {w : World} {S : Nat → Prop} {A : Option Addr} {c : Nat} {xss : List (List Int)} (h : ORw w S A c xss) : SR w S A xss := by
  obtain ⟨vs, ho, hr⟩ := h
  refine ⟨vs, by have := ho.2.2.1; omega, ho.sv, fun i xs hx => ?_⟩
  obtain ⟨A', c', e1, e2, e3⟩ := hr i xs hx
  exact ⟨A', c', e1, e2, e3.mono (fun b _ hb => hb.1)⟩
theorem rowInfo : (Tryd.prog.info? 22).map (fun i => (i.zero, i.size, i.bytes)) = some (some (.slice none 0 0), 1, 24) := by kernel_rfl

/-- append of one row. -/
theorem wpList_pushR {w : World} {ops : Array Oper} {rest : List Oper} {o : Oper} {a : Act} {Q : Exit → Act → World → Prop} (hgd : o.guard = none) (s x : Operand)
    (ho : o.op = .call { callee := .builtin .append, args := #[s, x], argTypes := #[55, 55] })
    {B : Nat} {A A1 : Option Addr} {n b c c1 c2 : Nat} {ys : List Int} {xss : List (List Int)} (hs : a.eval s = .slice A n c) (hx : a.eval x = .slice (some ⟨b, 0, none⟩) 1 c2) (hn : n = xss.length)
    (hown : ORw w (fun g => B ≤ g) A c xss) (hc : w.cell? ⟨b, 0, none⟩ = some (.slice A1 ys.length c1)) (hcap : ys.length ≤ c1) (hrow : SI w (fun g => B ≤ g ∧ some g ≠ blockOf A) A1 ys) (hb : xss.length + 1 ≤ 65536) (hB : B ≤ w.heap.size)
    (h : ∀ A' c' w', ORw w' (fun g => B ≤ g) A' c' (xss ++ [ys]) → Below B w w' → wpList Tryd.prog ops Q rest (a.put o.dst (.slice A' (xss.length + 1) c')) w') : wpList Tryd.prog ops Q (o :: rest) a w := by
  subst hn
  obtain ⟨vs, hov, hr⟩ := hown
  obtain ⟨i0, hi, hz0, hz1, hz2⟩ := info_parts rowInfo
  have hnews : SV w (fun _ => True) (some ⟨b, 0, none⟩) [Value.slice A1 ys.length c1] := fun _ => ⟨b, 0, rfl, trivial, World.block_lt_of_cell? w _ hc, fun j u hj => by
    cases j with
    | zero => simp at hj; subst hj; exact hc
    | succ j => simp at hj⟩
  obtain ⟨A', c', w', hrun, h2, h3, h4⟩ := run_append_OV (P := Tryd.prog) w (fun g => B ≤ g) 55 o.type 22 i0 _ 1 24 Tryd.underlying55 hi hz0 hz1 hz2 rfl (by decide) A xss.length c vs hov (fun _ => True) (some ⟨b, 0, none⟩) 1 c2 [Value.slice A1 ys.length c1] rfl hnews
    (by intro u hu; simp at hu; subst hu; rfl) (by simp only [maxLen]; omega) (by omega)
  refine wpList_plain hgd fun K hK => ?_
  unfold Oper.wp execOp
  simp only [ho, resolve, invoke, builtin, Sem.run_bind, Sem.run_pure, Result.andThen_ok, List.map_toArray, List.map_cons, List.map_nil, hs, hx, hrun]
  refine hK _ _ (h A' c' w' ⟨vs ++ [Value.slice A1 ys.length c1], ?_, ?_⟩ ((Below.refl B w).grown h3 hB fun g hg => (OV.block hov g hg).1))
  · have := h2.mono (T := fun g => B ≤ g) (fun g _ hg => by rcases hg with hg | hg <;> omega)
    simpa using this
  · have hlen : vs.length = xss.length := by have := hov.2.2.1; omega
    have key : ∀ (A2 : Option Addr) (zs : List Int), SI w (fun g => B ≤ g ∧ some g ≠ blockOf A) A2 zs → SI w' (fun g => B ≤ g ∧ some g ≠ blockOf A') A2 zs := by
      intro A2 zs hz
      have hz' : SI w (fun g => B ≤ g ∧ some g ≠ blockOf A ∧ some g ≠ blockOf A') A2 zs := hz.mono (fun g hl hg => ⟨hg.1, hg.2, by
        rcases h4 with e | e
        · rw [e]; exact hg.2
        · rw [e]; intro e'; injection e' with e'; omega⟩)
      exact (hz'.keep (Kept.grown h3 (fun g hg _ => hg.2.1))).mono (fun g _ hg => ⟨hg.1, hg.2.2⟩)
    intro i zs hi
    rw [List.getElem?_append] at hi ⊢
    by_cases hil : i < xss.length
    · rw [if_pos hil] at hi
      rw [if_pos (by omega)]
      obtain ⟨A2, c2', e1, e2, e3⟩ := hr i zs hi
      exact ⟨A2, c2', e1, e2, key A2 zs e3⟩
    · rw [if_neg hil] at hi
      rw [if_neg (by omega), hlen]
      have hi0 : i - xss.length = 0 := by
        have := (List.getElem?_eq_some_iff.1 hi).1
        simp at this
        omega
      rw [hi0] at hi ⊢
      simp at hi
      subst hi
      exact ⟨A1, c1, rfl, hcap, key A1 ys hrow⟩

def hasB (m p : Int) : Bool := bits BinOp.and IntKind.i64 m p != 0
def extA (m : Int) (r : List Int) (p : Int) : List (List Int) := if hasB m p then [r ++ [p]] else []
def stepA (out : List (List Int)) (m : Int) : List (List Int) := out.flatMap (fun r => extA m r 1 ++ extA m r 2)
/-- what the rows of one state have given ahead of the position p -/
def partA (m : Int) (r : List Int) (p : Int) : List (List Int) := if p = 1 then [] else if p = 2 then extA m r 1 else extA m r 1 ++ extA m r 2
theorem partA_step (m : Int) (r : List Int) {p : Int} (h : p = 1 ∨ p = 2) (nx : List (List Int)) : nx ++ partA m r (p + 1) = nx ++ partA m r p ++ extA m r p := by
  rcases h with rfl | rfl <;> simp [partA]
def refA (xs : List Int) : List (List Int) := xs.foldl stepA [[]]
theorem refA_snoc (xs : List Int) (x : Int) : refA (xs ++ [x]) = stepA (refA xs) x := by unfold refA; rw [List.foldl_append]; rfl
theorem extA_len (m : Int) (r : List Int) (p : Int) : (extA m r p).length ≤ 1 := by unfold extA; split <;> simp
theorem partA_len (m : Int) (r : List Int) (p : Int) : (partA m r p).length ≤ 2 := by
  have h1 := extA_len m r 1
  have h2 := extA_len m r 2
  unfold partA
  split
  · simp
  · split
    · omega
    · rw [List.length_append]; omega
theorem stepA_len (m : Int) : ∀ out : List (List Int), (stepA out m).length ≤ 2 * out.length
  | [] => by simp [stepA]
  | r :: out => by
    have := stepA_len m out
    have h1 := extA_len m r 1
    have h2 := extA_len m r 2
    have e : stepA (r :: out) m = (extA m r 1 ++ extA m r 2) ++ stepA out m := by simp [stepA]
    rw [e, List.length_append, List.length_append, List.length_cons]
    omega
theorem stepA_one {m : Int} (h : m = 1 ∨ m = 2) : ∀ out : List (List Int), (stepA out m).length = out.length
  | [] => by simp [stepA]
  | r :: out => by
    have := stepA_one h out
    have e : stepA (r :: out) m = (extA m r 1 ++ extA m r 2) ++ stepA out m := by simp [stepA]
    have h1 : (extA m r 1 ++ extA m r 2).length = 1 := by
      rcases h with rfl | rfl
      · rw [extA, extA, show hasB 1 1 = true by decide, show hasB 1 2 = false by decide]; simp
      · rw [extA, extA, show hasB 2 1 = false by decide, show hasB 2 2 = true by decide]; simp
    rw [e, List.length_append, h1, List.length_cons]
    omega
theorem foldA_len : ∀ (xs : List Int), (∀ x ∈ xs, 1 ≤ x ∧ x ≤ 3) → ∀ out : List (List Int), (xs.foldl stepA out).length ≤ out.length * 2 ^ num3 xs
  | [], _, out => by simp [num3]
  | x :: xs, h, out => by
    have ih := foldA_len xs (fun y hy => h y (List.mem_cons_of_mem _ hy)) (stepA out x)
    rw [List.foldl_cons]
    refine Nat.le_trans ih ?_
    by_cases h3 : x = 3
    · have := stepA_len x out
      have e : num3 (x :: xs) = num3 xs + 1 := by simp [num3, h3]; omega
      rw [e, Nat.pow_succ]
      calc (stepA out x).length * 2 ^ num3 xs ≤ (2 * out.length) * 2 ^ num3 xs := Nat.mul_le_mul_right _ this
        _ = out.length * (2 ^ num3 xs * 2) := by rw [Nat.mul_comm 2, Nat.mul_assoc, Nat.mul_comm 2]
    · have hx := h x (List.mem_cons_self ..)
      have := stepA_one (m := x) (by omega) out
      have e : num3 (x :: xs) = num3 xs := by simp [num3, h3]
      rw [e, this]
      exact Nat.le_refl _
theorem foldA_row (n : Nat) : ∀ (xs : List Int) (out : List (List Int)), (∀ r ∈ out, r.length = n) → ∀ r ∈ xs.foldl stepA out, r.length = n + xs.length
  | [], _, h, r, hr => by simpa using h r hr
  | x :: xs, out, h, r, hr => by
    have := foldA_row (n + 1) xs (stepA out x) (by
      intro r' hr'
      obtain ⟨r0, h0, h1⟩ := List.mem_flatMap.1 hr'
      have hl := h r0 h0
      rcases List.mem_append.1 h1 with h1 | h1
      · unfold extA at h1
        split at h1
        · simp at h1; subst h1; simp [hl]
        · simp at h1
      · unfold extA at h1
        split at h1
        · simp at h1; subst h1; simp [hl]
        · simp at h1) r hr
    rw [this, List.length_cons]; omega
theorem num3_take : ∀ (xs : List Int) (k : Nat), num3 (xs.take k) ≤ num3 xs
  | [], k => by simp
  | x :: xs, 0 => by simp [num3]
  | x :: xs, k + 1 => by
    have := num3_take xs k
    rw [List.take_succ_cons]
    unfold num3
    split <;> omega

set_option maxHeartbeats 4000000 in
theorem refAll_ok (w : World) (S : Nat → Prop) (A : Option Addr) (c : Nat) (xs : List Int) (hs : SI w S A xs) (hl : xs.length ≤ 65536) (hm : ∀ x ∈ xs, 1 ≤ x ∧ x ≤ 3) (h8 : num3 xs ≤ 8) :
    Calls Tryd.prog 44 #[.slice A xs.length c] w fun e w' => ∃ A' c', e = .returned (.tuple #[.slice A' (refA xs).length c', .int .i64 0]) ∧ SR w' (fun g => w.heap.size ≤ g) A' (refA xs) ∧ Below w.heap.size w w' := by
  have HC := Lib.hid (refCount_ok w S A c xs hs hl (masks_all hm) (by rw [unk_len]; exact h8))
  have Hlen := Lib.hid (fun (k : Nat) => show (refA (xs.take k)).length ≤ 256 from by
    have h1 := foldA_len (xs.take k) (fun x hx => hm x (List.mem_of_mem_take hx)) [[]]
    have h2 := num3_take xs k
    have h3 : 2 ^ num3 (xs.take k) ≤ 2 ^ 8 := Nat.pow_le_pow_right (by decide) (by omega)
    unfold refA
    simp only [List.length_singleton, Nat.one_mul] at h1
    omega)
  have Hrow := Lib.hid (fun (k : Nat) (r : List Int) (hr : r ∈ refA (xs.take k)) => show r.length ≤ 65536 from by
    have := foldA_row 0 (xs.take k) [[]] (by simp) r hr
    rw [this, List.length_take]; omega)
  have Hm := Lib.hid hm
  clear hm
  go_enter Tryd.func44, Tryd.ntmps44
  go_wp2_with (fail)
  refine HC.out.mono ?_
  rintro e w1 ⟨rfl, hb1⟩
  have hs1 := hs.keep (Kept.of_below hb1)
  go_wp2_with (fail)
  have hbA := (Below.refl w1.heap.size w1).alloc (Nat.le_refl _) (.cells #[.slice none 0 0] 22)
  have hbB := hb1.trans (hbA.mono hb1.size)
  have sR0 : SR (w1.alloc (.cells #[.slice none 0 0] 22)) (fun g => w1.heap.size ≤ g) (some ⟨w1.heap.size, 0, none⟩) (refA (xs.take 0)) := by
    refine ⟨[.slice none 0 0], rfl, fun _ => ⟨w1.heap.size, 0, rfl, Nat.le_refl _, by simp, fun j u hj => ?_⟩, fun i ys hy => ?_⟩
    · cases j with
      | zero => simp at hj; subst hj; exact new_cell w1 _ _
      | succ j => simp at hj
    · simp [refA] at hy
      obtain ⟨rfl, rfl⟩ : i = 0 ∧ ys = [] := by
        cases i with
        | zero => simp at hy; exact ⟨rfl, hy⟩
        | succ i => simp at hy
      exact ⟨none, 0, rfl, Nat.le_refl _, SI.nil⟩
  go_loopg [6, 7] xs.length (fun g v i wr => ∃ (k : Nat) (A' : Option Addr) (c' : Nat), k + g = xs.length ∧ i = .int .i64 k ∧ v = .slice A' (refA (xs.take k)).length c' ∧ SR wr (fun g => w1.heap.size ≤ g) A' (refA (xs.take k)) ∧ Below w1.heap.size w1 wr)
  case atStart => exact ⟨0, some ⟨w1.heap.size, 0, none⟩, 1, by omega, rfl, rfl, sR0, hbA⟩
  case round =>
    clear sR0 hbA hbB
    obtain ⟨k, A', c', hk, rfl, rfl, sR, hB⟩ := hrel
    obtain ⟨wo, rfl⟩ : ∃ x, x = wr := ⟨_, rfl⟩
    obtain ⟨gko, rfl⟩ : ∃ x, x = gk := ⟨_, rfl⟩
    have Hk := Lib.hid hk
    clear hk
    by_cases hlt : k < xs.length
    · have Hsn := Lib.hid (show refA (xs.take (k + 1)) = stepA (refA (xs.take k)) xs[k] by rw [List.take_succ_eq_append_getElem hlt, refA_snoc])
      have hol := Hlen.out k
      have Hor := Lib.hid (Hrow.out k)
      have hsk := (hs1.keep (Kept.of_below hB))
      have hmk := Hm.out xs[k] (List.getElem_mem hlt)
      have sR : SR wo (fun g => w1.heap.size ≤ g ∧ g < wo.heap.size) A' (refA (xs.take k)) := sR.mono (fun g hl hg => ⟨hg, hl⟩)
      generalize refA (xs.take k) = out at *
      obtain ⟨m, hxm⟩ : ∃ m, m = xs[k] := ⟨_, rfl⟩
      have Hxm := Lib.hid hxm
      rw [← hxm] at Hsn hmk
      clear hxm
      have hzo := hB.size
      go_wp2_with (fail)
      go_loopg [8, 9] out.length (fun g v i wr => ∃ (j : Nat) (An : Option Addr) (cn : Nat), j + g = out.length ∧ i = .int .i64 j ∧ v = .slice An (stepA (out.take j) m).length cn ∧ ORw wr (fun g => wo.heap.size ≤ g) An cn (stepA (out.take j) m) ∧ Below wo.heap.size wo wr)
      case atStart => exact ⟨0, none, 0, by omega, rfl, rfl, ORw.nil _ _, Below.refl _ _⟩
      case round =>
        obtain ⟨j, An, cn, hj, rfl, rfl, oN, hBm⟩ := hrel
        obtain ⟨wm, rfl⟩ : ∃ x, x = wr := ⟨_, rfl⟩
        obtain ⟨gkm, rfl⟩ : ∃ x, x = gk := ⟨_, rfl⟩
        have Hj := Lib.hid hj
        clear hj
        by_cases hjt : j < out.length
        · have Hst := Lib.hid (show stepA (out.take (j + 1)) m = stepA (out.take j) m ++ (extA m out[j] 1 ++ extA m out[j] 2) by rw [List.take_succ_eq_append_getElem hjt, stepA, List.flatMap_append]; simp [stepA])
          have hnl : (stepA (out.take j) m).length ≤ 2 * j := by
            have := stepA_len m (out.take j)
            rw [List.length_take] at this
            omega
          have hrl := Hor.out out[j] (List.getElem_mem hjt)
          generalize stepA (out.take j) m = nx at *
          have sRm : SR wm (fun g => w1.heap.size ≤ g ∧ g < wo.heap.size) A' out := sR.keep (Kept.of_below hBm)
          have hsm := hsk.keep (Kept.of_below hBm)
          have hzm := hBm.size
          go_wp2_with (fail)
          go_loopg [8, 10] 2 (fun g v i wr => ∃ (p : Int) (An : Option Addr) (cn : Nat), (p = 1 ∨ p = 2 ∨ p = 3) ∧ p + g = 3 ∧ i = .int .i64 p ∧ v = .slice An (nx ++ partA m out[j] p).length cn ∧ ORw wr (fun g => wo.heap.size ≤ g) An cn (nx ++ partA m out[j] p) ∧ Below wo.heap.size wo wr ∧ wm.heap.size ≤ wr.heap.size)
          case atStart => exact ⟨1, An, cn, .inl rfl, by omega, rfl, by simp [partA], by simpa [partA] using oN, hBm, Nat.le_refl _⟩
          case round =>
            clear oN
            obtain ⟨p, An, cn, hp, hpg, rfl, rfl, oN, hBi, hzi⟩ := hrel
            obtain ⟨wi, rfl⟩ : ∃ x, x = wr := ⟨_, rfl⟩
            have Hpg := Lib.hid hpg
            clear hpg
            by_cases hp3 : p = 3
            · subst hp3
              have Hst := Lib.hid (show stepA (out.take (j + 1)) m = nx ++ partA m out[j] 3 by rw [Hst.out]; rfl)
              generalize nx ++ partA m out[j] 3 = nz at *
              go_wp2_with (fail)
              go_roundg (gkm - 1)
              case measure => have := Hj.out; omega
              case rel => exact ⟨j + 1, An, cn, by have := Hj.out; omega, by go_num, by rw [Hst.out], by rw [Hst.out]; exact oN, hBi⟩
            · have hp12 : p = 1 ∨ p = 2 := by omega
              have hnx : (nx ++ partA m out[j] p).length ≤ 600 := by
                have := partA_len m out[j] p
                rw [List.length_append]; omega
              have HnS := Lib.hid (partA_step m out[j] hp12)
              obtain ⟨b, off, Ar, cr, rfl, hc, hcr, sRow⟩ := (sR.keep (Kept.of_below hBi)).at_ hjt
              obtain ⟨bx, ox, rfl, _, _, hcx⟩ := (hsk.keep (Kept.of_below hBi)).at_ hlt
              rw [← Hxm.out] at hcx
              generalize out[j] = r at *
              generalize hnp : nx ++ partA m r p = np at *
              have Hnp := Lib.hid hnp
              clear hnp
              have hple : decide (p ≤ 2) = true := decide_eq_true (by omega)
              have hpw : IntKind.i64.wrap (p + 1) = p + 1 := IntWalk.i64_in _ (by omega)
              have hzi' := hBi.size
              by_cases hb : (bits BinOp.and IntKind.i64 m p != 0) = true
              · have Hnn := Lib.hid (show nx ++ partA m r (p + 1) = np ++ [r ++ [p]] by rw [HnS.out, ← Hnp.out, extA, hasB, hb]; simp)
                have hAn : ∀ g, blockOf An = some g → g < wi.heap.size := fun g hg => by
                  obtain ⟨vs, ho, _⟩ := oN
                  exact (OV.block ho g hg).2
                go_wp2_with (at_builtin; first
                  | (refine wpList_pushAll (B := wi.heap.size) (xs := []) (ys := r) (T := fun g => w1.heap.size ≤ g ∧ g < wo.heap.size) rfl (.const (.slice none 0 0)) (.tmp 47) rfl rfl rfl rfl rfl (OI.nil _ _) sRow (by simp; omega) (Nat.le_refl _) ?_; intro Ad cd w5 ho5 hb5 _ _; rw [List.nil_append] at ho5 ⊢)
                  | (refine wpList_push (B := wi.heap.size) rfl (.tmp 48) (.tmp 50) rfl rfl rfl rfl (ho5.keep (Kept.alloc _ _ _)) (new_cell _ _ _) (by omega) (by simp; have := hb5.size; omega) ?_; intro Ae ce w6 ho6 hb6 _ _; have hb56 := ((hb5.alloc hb5.size (.cells #[.int .i64 p] 3)).trans hb6); have hbC := (Below.refl w6.heap.size w6).alloc (Nat.le_refl _) (.cells #[.slice Ae (r.length + 1) ce] 22); have hb57 := hb56.trans (hbC.mono hb56.size))
                  | (refine wpList_pushR (B := wo.heap.size) (xss := np) (ys := r ++ [p]) (A1 := Ae) (c1 := ce) rfl (.tmp 43) (.tmp 52) rfl rfl rfl rfl (oN.keep (Kept.of_below hb57)) (by rw [List.length_append]; exact new_cell _ _ _) ho6.cap.1 (((OI.si ho6).mono (T := fun g => wo.heap.size ≤ g ∧ some g ≠ blockOf An) (fun g _ hg => ⟨by have hg : wi.heap.size ≤ g := hg; omega, fun e => by have := hAn g e.symm; have hg : wi.heap.size ≤ g := hg; omega⟩)).keep (Kept.of_below hbC)) (by omega) (by have := hb56.size; simp; omega) ?_; intro Af cf w7 ho7 hb7))
                go_roundg (gk - 1)
                case measure => have := Hpg.out; omega
                case rel => exact ⟨p + 1, Af, cf, by omega, by have := Hpg.out; omega, by go_num, by rw [Hnn.out]; simp, by rw [Hnn.out]; exact ho7, (hBi.trans (hb57.mono (by omega))).trans hb7, by have := hb57.size; have := hb7.size; omega⟩
              · have hb : (bits BinOp.and IntKind.i64 m p != 0) = false := by simpa using hb
                have Hnn := Lib.hid (show nx ++ partA m r (p + 1) = np by rw [HnS.out, ← Hnp.out, extA, hasB, hb]; simp)
                go_wp2_with (fail)
                go_roundg (gk - 1)
                case measure => have := Hpg.out; omega
                case rel => exact ⟨p + 1, An, cn, by omega, by have := Hpg.out; omega, by go_num, by rw [Hnn.out], by rw [Hnn.out]; exact oN, hBi, hzi⟩
        · rw [List.take_of_length_le (by omega), ← Hsn.out] at oN ⊢
          go_wp2_with (fail)
          go_roundg (gko - 1)
          case measure => have := Hk.out; omega
          case rel => exact ⟨k + 1, An, cn, by have := Hk.out; omega, by go_num, rfl, oN.sr.mono (fun g _ hg => by have hg : wo.heap.size ≤ g := hg; show w1.heap.size ≤ g; omega), hB.trans (hBm.mono hB.size)⟩
    · rw [List.take_of_length_le (by omega)] at sR ⊢
      go_wp2_with (fail)
      go_ret2
      exact ⟨A', c', rfl, sR.mono (fun g _ hg => by have hg : w1.heap.size ≤ g := hg; have := hb1.size; show w.heap.size ≤ g; omega), hb1.trans (hB.mono hb1.size)⟩
end Go.Proofs.YtgpcojmdfmngeaaDoor

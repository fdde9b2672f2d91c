/-
  Walks of the reference's Meet, Join, Finer, Agrees, Lowest, Highest, Count, All, Check, and the program's functions at any lists.
-/
import Derived.Test.YtgpcojmdfmngeaaDoorLow
import Derived.Test.YtgpcojmdfmngeaaDoorRa06
import Derived.Test.YtgpcojmdfmngeaaDoorR06s
import Derived.Test.YtgpcojmdfmngeaaDoorShd
import Derived.Test.YtgpcojmdfmngeaaDoorPWst
import Derived.Test.YtgpcojmdfmngeaaDoorGa
namespace Go.Proofs.YtgpcojmdfmngeaaDoor
open Go.RowKit
set_option maxHeartbeats 400000
set_option maxRecDepth 100000

theorem bfl {b c : Bool} (h : b = true → c = true) (hc : c = false) : b = false := by
  cases b
  · rfl
  · rw [h rfl] at hc; cases hc
theorem bits_and {x y : Int} (hx : 1 ≤ x ∧ x ≤ 3) (hy : 1 ≤ y ∧ y ≤ 3) : bits BinOp.and IntKind.i64 x y = andM x y := by
  have h1 : x = 1 ∨ x = 2 ∨ x = 3 := by omega
  have h2 : y = 1 ∨ y = 2 ∨ y = 3 := by omega
  rcases h1 with rfl | rfl | rfl <;> rcases h2 with rfl | rfl | rfl <;> decide
theorem bits_or {x y : Int} (hx : 1 ≤ x ∧ x ≤ 3) (hy : 1 ≤ y ∧ y ≤ 3) : bits BinOp.or IntKind.i64 x y = orM x y := by
  have h1 : x = 1 ∨ x = 2 ∨ x = 3 := by omega
  have h2 : y = 1 ∨ y = 2 ∨ y = 3 := by omega
  rcases h1 with rfl | rfl | rfl <;> rcases h2 with rfl | rfl | rfl <;> decide
def meetV (xs ys : List Int) : List Int × Bool := if (okPair xs ys && !(List.zipWith andM xs ys).any (fun x => 0 == x)) = true then (List.zipWith andM xs ys, true) else ([], false)
def joinV (xs ys : List Int) : List Int := if okPair xs ys = true then List.zipWith orM xs ys else []
def finV (xs ys : List Int) : Bool := okPair xs ys && finer xs ys
def RetIB (w : World) (r : List Int × Bool) (e : Ending) (w' : World) : Prop :=
  ∃ A c, e = .returned (.tuple #[.slice A r.1.length c, .bool r.2]) ∧ OI w' (fun g => w.heap.size ≤ g) A c r.1 ∧ Below w.heap.size w w'

theorem meetV_any (w : World) (h : Tab w) (S T : Nat → Prop) (A B : Option Addr) (c d : Nat) (xs ys : List Int) (hs : SI w S A xs) (ht : SI w T B ys) (hl : xs.length ≤ 65536) (hl2 : ys.length ≤ 65536) :
    Calls Tryd.prog 55 #[.slice A xs.length c, .slice B ys.length d] w (RetIB w (meetV xs ys)) := by
  unfold meetV
  cases hok : okPair xs ys with
  | false =>
    rw [if_neg (by simp)]
    exact (meet_bad w h S T A B c d xs ys hs ht hl hl2 hok).mono fun e w' ⟨e1, e2⟩ => by subst e1 e2; exact ⟨none, 0, rfl, OI.nil _ _, Below.refl _ _⟩
  | true =>
    cases hz : (List.zipWith andM xs ys).any (fun x => 0 == x) with
    | false =>
      rw [if_pos (by decide)]
      have hl3 : (List.zipWith andM xs ys).length = xs.length := by have := (okPair_parts hok).1; simp; omega
      refine (meet_yes w h S T A B c d xs ys hs ht hl hok hz).mono fun e w' ⟨A', c', e1, e2, e3⟩ => ?_
      subst e1
      exact ⟨A', c', by simp only; rw [hl3], e2, e3⟩
    | true =>
      rw [if_neg (by decide)]
      exact (meet_none w h S T A B c d xs ys hs ht hl hok hz).mono fun e w' ⟨e1, e2⟩ => by subst e1; exact ⟨none, 0, rfl, OI.nil _ _, e2⟩
theorem joinV_any (w : World) (h : Tab w) (S T : Nat → Prop) (A B : Option Addr) (c d : Nat) (xs ys : List Int) (hs : SI w S A xs) (ht : SI w T B ys) (hl : xs.length ≤ 65536) (hl2 : ys.length ≤ 65536) :
    Calls Tryd.prog 57 #[.slice A xs.length c, .slice B ys.length d] w (RetOI w (joinV xs ys)) := by
  unfold joinV
  cases hok : okPair xs ys with
  | false =>
    rw [if_neg (by decide)]
    have Hp := Lib.hid (pairs_bad (.func (.func 133) #[] #[]) w h S T A B c d xs ys hs ht hl hl2 hok)
    clear hok
    go_enter Tryd.func57, Tryd.ntmps57
    go_wp2_with (go_at_call 130; (with_reducible refine (Hp.out).mono ?_); rintro e w1 ⟨rfl, rfl⟩)
    go_ret
    exact ⟨none, 0, rfl, OI.nil _ _, Below.refl _ _⟩
  | true =>
    rw [if_pos rfl]
    have hl3 : (List.zipWith orM xs ys).length = xs.length := by have := (okPair_parts hok).1; simp; omega
    refine (join_yes w h S T A B c d xs ys hs ht hl hok).mono fun e w' ⟨A', c', e1, e2, e3⟩ => ?_
    subst e1
    exact ⟨A', c', by rw [hl3], e2, e3⟩
theorem finV_any (w : World) (h : Tab w) (S T : Nat → Prop) (A B : Option Addr) (c d : Nat) (xs ys : List Int) (hs : SI w S A xs) (ht : SI w T B ys) (hl : xs.length ≤ 65536) (hl2 : ys.length ≤ 65536) :
    Calls Tryd.prog 59 #[.slice A xs.length c, .slice B ys.length d] w fun e w' => e = .returned (.bool (finV xs ys)) ∧ Below w.heap.size w w' := by
  unfold finV
  cases hok : okPair xs ys with
  | false =>
    rw [Bool.false_and]
    have Hp := Lib.hid (pairs_bad (.func (.func 134) #[] #[]) w h S T A B c d xs ys hs ht hl hl2 hok)
    clear hok
    go_enter Tryd.func59, Tryd.ntmps59
    go_wp2_with (go_at_call 130; (with_reducible refine (Hp.out).mono ?_); rintro e w1 ⟨rfl, rfl⟩)
    go_ret
    exact ⟨rfl, Below.refl _ _⟩
  | true =>
    rw [Bool.true_and]
    exact finer_yes w h S T A B c d xs ys hs ht hl hok

theorem zip_take {p : Int → Int → Int} {xs ys : List Int} {k : Nat} (h1 : k < xs.length) (h2 : k < ys.length) : (List.zipWith p xs ys).take (k + 1) = (List.zipWith p xs ys).take k ++ [p xs[k] ys[k]] := by
  rw [List.take_succ_eq_append_getElem (by simp; omega), List.getElem_zipWith]
theorem zip_drop {p : Int → Int → Int} {q : Int → Bool} {xs ys : List Int} {k : Nat} (h1 : k < xs.length) (h2 : k < ys.length) : ((List.zipWith p xs ys).drop k).any q = (q (p xs[k] ys[k]) || ((List.zipWith p xs ys).drop (k + 1)).any q) := by
  rw [List.drop_eq_getElem_cons (by simp; omega), List.getElem_zipWith]; rfl

/-- the three ways in which two lists are no masks of one length -/
theorem notok {xs ys : List Int} (h : okPair xs ys = false) : xs.length ≠ ys.length ∨ (xs.length = ys.length ∧ xs.all isMask = false) ∨ (xs.length = ys.length ∧ xs.all isMask = true ∧ ys.all isMask = false) := by
  unfold okPair at h
  by_cases hl : xs.length = ys.length
  · cases h1 : xs.all isMask
    · exact .inr (.inl ⟨hl, rfl⟩)
    · cases h2 : ys.all isMask
      · exact .inr (.inr ⟨hl, rfl, rfl⟩)
      · rw [decide_eq_true hl, h1, h2] at h; cases h
  · exact .inl hl

theorem refJoin_any (w : World) (S T : Nat → Prop) (A B : Option Addr) (c dc : Nat) (xs ys : List Int) (hs : SI w S A xs) (ht : SI w T B ys) (hl : xs.length ≤ 65536) (hl2 : ys.length ≤ 65536) :
    Calls Tryd.prog 58 #[.slice A xs.length c, .slice B ys.length dc] w (RetOI w (joinV xs ys)) := by
  have HM1 := refMasked_any w S A c xs hs hl
  have HM2 := refMasked_any w T B dc ys ht hl2
  unfold joinV
  cases hok : okPair xs ys with
  | false =>
    rw [if_neg (by decide)]
    rcases notok hok with h1 | ⟨h1, h2⟩ | ⟨h1, h2, h3⟩
    · have hb : ((xs.length : Int) != ys.length) = true := by simp; omega
      clear h1 hok HM1 HM2
      go_enter Tryd.func58, Tryd.ntmps58
      go_wp2_with (fail)
      go_ret
      exact ⟨none, 0, rfl, OI.nil _ _, Below.refl _ _⟩
    · have hb : ((xs.length : Int) != ys.length) = false := by simp [h1]
      rw [h2] at HM1
      have H1 := Lib.hid HM1
      clear h1 h2 hok HM1 HM2
      go_enter Tryd.func58, Tryd.ntmps58
      go_wp2_with (fail)
      refine H1.out.mono ?_
      rintro e w' ⟨rfl, rfl⟩
      go_wp2_with (fail)
      go_ret
      exact ⟨none, 0, rfl, OI.nil _ _, Below.refl _ _⟩
    · have hb : ((xs.length : Int) != ys.length) = false := by simp [h1]
      rw [h2] at HM1
      rw [h3] at HM2
      have H1 := Lib.hid HM1
      have H2 := Lib.hid HM2
      clear h1 h2 h3 hok HM1 HM2
      go_enter Tryd.func58, Tryd.ntmps58
      go_wp2_with (fail)
      refine H1.out.mono ?_
      rintro e w' ⟨rfl, rfl⟩
      go_wp2_with (fail)
      refine H2.out.mono ?_
      rintro e w' ⟨rfl, rfl⟩
      go_wp2_with (fail)
      go_ret
      exact ⟨none, 0, rfl, OI.nil _ _, Below.refl _ _⟩
  | true =>
    rw [if_pos rfl]
    obtain ⟨o1, o2, o3⟩ := okPair_parts hok
    have hb : ((xs.length : Int) != ys.length) = false := by simp [o1]
    rw [o2] at HM1
    rw [o3] at HM2
    have H1 := Lib.hid HM1
    have H2 := Lib.hid HM2
    have M1 := Lib.hid (masks_of o2)
    have M2 := Lib.hid (masks_of o3)
    have O1 := Lib.hid o1
    have Hst := Lib.hid (fun k h1 h2 => @zip_take orM xs ys k h1 h2)
    have hZl : (List.zipWith orM xs ys).length = xs.length := by simp; omega
    have HZl := Lib.hid hZl
    clear o1 o2 o3 hok HM1 HM2 hZl
    go_enter Tryd.func58, Tryd.ntmps58
    go_wp2_with (fail)
    refine H1.out.mono ?_
    rintro e w' ⟨rfl, rfl⟩
    go_wp2_with (fail)
    refine H2.out.mono ?_
    rintro e w' ⟨rfl, rfl⟩
    go_wp2_with (fail)
    go_loopg [5, 6] xs.length (fun g v i wr => ∃ (k : Nat) (A' : Option Addr) (c' : Nat), k + g = xs.length ∧ i = .int .i64 k ∧ v = .slice A' ((List.zipWith orM xs ys).take k).length c' ∧ OI wr (fun g => w.heap.size ≤ g) A' c' ((List.zipWith orM xs ys).take k) ∧ Below w.heap.size w wr)
    case atStart => exact ⟨0, none, 0, by omega, rfl, rfl, OI.nil _ _, Below.refl _ _⟩
    case round =>
      obtain ⟨k, A', c', hk, rfl, rfl, hown, hbel⟩ := hrel
      have Hk := Lib.hid hk
      have htl : ((List.zipWith orM xs ys).take k).length ≤ k := by simp; omega
      clear hk
      by_cases hlt : k < xs.length
      · have hlt2 : k < ys.length := by have := O1.out; omega
        obtain ⟨b1, f1, rfl, _, hl1, q1⟩ := hs.at_ hlt
        obtain ⟨b2, f2, rfl, _, hl2', q2⟩ := ht.at_ hlt2
        have Hs2 := Lib.hid (Hst.out k hlt hlt2)
        have Hb := Lib.hid (bits_or (M1.out k hlt) (M2.out k hlt2))
        have HAl := Lib.hid (fun g hg => (OV.block hown g hg).2)
        generalize xs[k] = x at *
        generalize ys[k] = y at *
        generalize (List.zipWith orM xs ys).take k = Z0 at *
        go_upto_region 7 with (fail)
        refine wp_region_ext2X (by kernel_rfl) 13 [28, 29, 30, 31, 32, 33, 34, 35, 36, 37, 38, 39, 5] (fun a b => a.heap.size ≤ b.heap.size ∧ ∀ k, k < a.heap.size → some k ≠ blockOf A' → b.heap[k]? = a.heap[k]?) (fun d v w' => if d = 28 then v = .slice A' Z0.length c' else if d = 29 then v = .slice (some ⟨b1, f1, none⟩) xs.length c else if d = 30 then v = .int .i64 (k : Nat) else if d = 31 then v = .pointer (some ⟨b1, f1 + k, none⟩) else if d = 32 then v = .int .i64 x else if d = 33 then v = .slice (some ⟨b2, f2, none⟩) ys.length dc else if d = 34 then v = .int .i64 (k : Nat) else if d = 35 then v = .pointer (some ⟨b2, f2 + k, none⟩) else if d = 36 then v = .int .i64 y else if d = 37 then v = .int .i64 (bits BinOp.or IntKind.i64 x y) else if d = 38 then ∃ b : Nat, v = .slice (some ⟨b, 0, none⟩) 1 1 ∧ some b ≠ blockOf A' ∧ w'.heap[b]? = some (.cells #[.int .i64 (bits BinOp.or IntKind.i64 x y)] 3 (0, 0)) else if d = 39 then ∃ (A1 : Option Addr) (c1 : Nat), v = .slice A1 (Z0.length + 1) c1 else if d = 5 then ∃ (A1 : Option Addr) (c1 : Nat), v = .slice A1 (Z0.length + 1) c1 else False) (fun dn f W' => Below w.heap.size w W' ∧ (dn 11 = false → OI W' (fun g => w.heap.size ≤ g) A' c' Z0) ∧ (dn 11 = true → ∃ (A1 : Option Addr) (c1 : Nat), f 39 = .slice A1 (Z0.length + 1) c1 ∧ OI W' (fun g => w.heap.size ≤ g) A1 c1 (Z0 ++ [bits BinOp.or IntKind.i64 x y])) ∧ (dn 12 = true → f 5 = f 39 ∧ dn 11 = true) ∧ (∀ g, blockOf A' = some g → g < W'.heap.size) ∧ (dn 11 = true → dn 0 = true) ∧ (dn 12 = false → f 5 = .slice A' Z0.length c')) (by kernel_rfl) (⟨hbel.drew, fun _ => hown, fun h => (by cases h), fun h => (by cases h), HAl.out, fun h => (by cases h), fun _ => rfl⟩) (fun d v a b hE hT => by
            by_cases h38 : d = 38
            · subst h38
              obtain ⟨g, e1, e2, e3⟩ := hT
              exact ⟨g, e1, e2, (hE.2 g (Array.getElem?_eq_some_iff.1 e3).1 e2).trans e3⟩
            simp only [if_neg h38] at hT ⊢
            exact hT) ?_ ?_
        · intro i o hi ho dn f w1 hX hT hni hdn K hK
          have hi' : i = 0 ∨ i = 1 ∨ i = 2 ∨ i = 3 ∨ i = 4 ∨ i = 5 ∨ i = 6 ∨ i = 7 ∨ i = 8 ∨ i = 9 ∨ i = 10 ∨ i = 11 ∨ i = 12 := by omega
          rcases hi' with rfl | rfl | rfl | rfl | rfl | rfl | rfl | rfl | rfl | rfl | rfl | rfl | rfl
          · simp only [List.getElem?_toArray, List.getElem?_cons_zero, Option.some.injEq] at ho
            subst ho
            have h5 : f 5 = .slice A' Z0.length c' := hX.2.2.2.2.2.2 (bfl (fun h => (hX.2.2.2.1 h).2) (bfl hX.2.2.2.2.2.1 hni))
            generalize hA : fr _ _ _ f = A at hK ⊢
            have e5 : A.tmps[5]?.getD undef = f 5 := by rw [← hA]; exact fr_in _ _ _ _ 5 (by decide) (by simp)
            rw [h5] at e5
            clear h5
            clear hA
            have HX := Lib.hid hX
            have HT := Lib.hid hT
            have HN := Lib.hid hni
            have HDN := Lib.hid hdn
            clear hX hT hni hdn
            go_simp
            obtain ⟨x1, x2, x3, x4, x5, x6, x7⟩ := HX.out
            exact hK _ _ ⟨Nat.le_refl _, fun _ _ _ => rfl⟩ (fun d hd => by injection hd with hd; subst hd; exact rfl) ⟨x1, by simpa using x2, by simpa [nextF] using x3, by simpa [nextF] using x4, x5, fun _ => by simp, by simpa [nextF] using x7⟩
          · simp only [List.getElem?_toArray, List.getElem?_cons_zero, List.getElem?_cons_succ, Option.some.injEq] at ho
            subst ho
            generalize hA : fr _ _ _ f = A at hK ⊢
            have e0 : A.tmps[0]?.getD undef = .slice (some ⟨b1, f1, none⟩) xs.length c := by rw [← hA]; exact fr_out _ _ _ _ 0 _ (by decide) rfl
            clear hA
            have HX := Lib.hid hX
            have HT := Lib.hid hT
            have HN := Lib.hid hni
            have HDN := Lib.hid hdn
            clear hX hT hni hdn
            go_simp
            obtain ⟨x1, x2, x3, x4, x5, x6, x7⟩ := HX.out
            exact hK _ _ ⟨Nat.le_refl _, fun _ _ _ => rfl⟩ (fun d hd => by injection hd with hd; subst hd; exact rfl) ⟨x1, by simpa using x2, by simpa [nextF] using x3, by simpa [nextF] using x4, x5, by simpa using x6, by simpa [nextF] using x7⟩
          · simp only [List.getElem?_toArray, List.getElem?_cons_zero, List.getElem?_cons_succ, Option.some.injEq] at ho
            subst ho
            generalize hA : fr _ _ _ f = A at hK ⊢
            have e6 : A.tmps[6]?.getD undef = .int .i64 (k : Nat) := by rw [← hA]; exact fr_out _ _ _ _ 6 _ (by decide) rfl
            clear hA
            have HX := Lib.hid hX
            have HT := Lib.hid hT
            have HN := Lib.hid hni
            have HDN := Lib.hid hdn
            clear hX hT hni hdn
            go_simp
            obtain ⟨x1, x2, x3, x4, x5, x6, x7⟩ := HX.out
            exact hK _ _ ⟨Nat.le_refl _, fun _ _ _ => rfl⟩ (fun d hd => by injection hd with hd; subst hd; exact rfl) ⟨x1, by simpa using x2, by simpa [nextF] using x3, by simpa [nextF] using x4, x5, by simpa using x6, by simpa [nextF] using x7⟩
          · simp only [List.getElem?_toArray, List.getElem?_cons_zero, List.getElem?_cons_succ, Option.some.injEq] at ho
            subst ho
            have h29 : f 29 = .slice (some ⟨b1, f1, none⟩) xs.length c := hT 1 29 (by decide) rfl (hdn { on := 1, ground := .data } (by simp) rfl)
            have h30 : f 30 = .int .i64 (k : Nat) := hT 2 30 (by decide) rfl (hdn { on := 2, ground := .data } (by simp) rfl)
            generalize hA : fr _ _ _ f = A at hK ⊢
            have e29 : A.tmps[29]?.getD undef = f 29 := by rw [← hA]; exact fr_in _ _ _ _ 29 (by decide) (by simp)
            have e30 : A.tmps[30]?.getD undef = f 30 := by rw [← hA]; exact fr_in _ _ _ _ 30 (by decide) (by simp)
            clear hA
            have HX := Lib.hid hX
            have HT := Lib.hid hT
            have HN := Lib.hid hni
            have HDN := Lib.hid hdn
            clear hX hT hni hdn
            have Hf29 := Lib.hid h29
            rw [h29] at e29
            clear h29
            have Hf30 := Lib.hid h30
            rw [h30] at e30
            clear h30
            go_simp
            obtain ⟨x1, x2, x3, x4, x5, x6, x7⟩ := HX.out
            exact hK _ _ ⟨Nat.le_refl _, fun _ _ _ => rfl⟩ (fun d hd => by injection hd with hd; subst hd; exact rfl) ⟨x1, by simpa using x2, by simpa [nextF] using x3, by simpa [nextF] using x4, x5, by simpa using x6, by simpa [nextF] using x7⟩
          · simp only [List.getElem?_toArray, List.getElem?_cons_zero, List.getElem?_cons_succ, Option.some.injEq] at ho
            subst ho
            have h31 : f 31 = .pointer (some ⟨b1, f1 + k, none⟩) := hT 3 31 (by decide) rfl (hdn { on := 3, ground := .data } (by simp) rfl)
            generalize hA : fr _ _ _ f = A at hK ⊢
            have e31 : A.tmps[31]?.getD undef = f 31 := by rw [← hA]; exact fr_in _ _ _ _ 31 (by decide) (by simp)
            clear hA
            have HX := Lib.hid hX
            have HT := Lib.hid hT
            have HN := Lib.hid hni
            have HDN := Lib.hid hdn
            clear hX hT hni hdn
            have Hf31 := Lib.hid h31
            rw [h31] at e31
            clear h31
            have hcell := ((HX.out.1).cell (p := ⟨b1, f1 + k, none⟩) hl1).trans q1
            go_simp
            obtain ⟨x1, x2, x3, x4, x5, x6, x7⟩ := HX.out
            exact hK _ _ ⟨Nat.le_refl _, fun _ _ _ => rfl⟩ (fun d hd => by injection hd with hd; subst hd; exact rfl) ⟨x1, by simpa using x2, by simpa [nextF] using x3, by simpa [nextF] using x4, x5, by simpa using x6, by simpa [nextF] using x7⟩
          · simp only [List.getElem?_toArray, List.getElem?_cons_zero, List.getElem?_cons_succ, Option.some.injEq] at ho
            subst ho
            generalize hA : fr _ _ _ f = A at hK ⊢
            have e1 : A.tmps[1]?.getD undef = .slice (some ⟨b2, f2, none⟩) ys.length dc := by rw [← hA]; exact fr_out _ _ _ _ 1 _ (by decide) rfl
            clear hA
            have HX := Lib.hid hX
            have HT := Lib.hid hT
            have HN := Lib.hid hni
            have HDN := Lib.hid hdn
            clear hX hT hni hdn
            go_simp
            obtain ⟨x1, x2, x3, x4, x5, x6, x7⟩ := HX.out
            exact hK _ _ ⟨Nat.le_refl _, fun _ _ _ => rfl⟩ (fun d hd => by injection hd with hd; subst hd; exact rfl) ⟨x1, by simpa using x2, by simpa [nextF] using x3, by simpa [nextF] using x4, x5, by simpa using x6, by simpa [nextF] using x7⟩
          · simp only [List.getElem?_toArray, List.getElem?_cons_zero, List.getElem?_cons_succ, Option.some.injEq] at ho
            subst ho
            generalize hA : fr _ _ _ f = A at hK ⊢
            have e6 : A.tmps[6]?.getD undef = .int .i64 (k : Nat) := by rw [← hA]; exact fr_out _ _ _ _ 6 _ (by decide) rfl
            clear hA
            have HX := Lib.hid hX
            have HT := Lib.hid hT
            have HN := Lib.hid hni
            have HDN := Lib.hid hdn
            clear hX hT hni hdn
            go_simp
            obtain ⟨x1, x2, x3, x4, x5, x6, x7⟩ := HX.out
            exact hK _ _ ⟨Nat.le_refl _, fun _ _ _ => rfl⟩ (fun d hd => by injection hd with hd; subst hd; exact rfl) ⟨x1, by simpa using x2, by simpa [nextF] using x3, by simpa [nextF] using x4, x5, by simpa using x6, by simpa [nextF] using x7⟩
          · simp only [List.getElem?_toArray, List.getElem?_cons_zero, List.getElem?_cons_succ, Option.some.injEq] at ho
            subst ho
            have h33 : f 33 = .slice (some ⟨b2, f2, none⟩) ys.length dc := hT 5 33 (by decide) rfl (hdn { on := 5, ground := .data } (by simp) rfl)
            have h34 : f 34 = .int .i64 (k : Nat) := hT 6 34 (by decide) rfl (hdn { on := 6, ground := .data } (by simp) rfl)
            generalize hA : fr _ _ _ f = A at hK ⊢
            have e33 : A.tmps[33]?.getD undef = f 33 := by rw [← hA]; exact fr_in _ _ _ _ 33 (by decide) (by simp)
            have e34 : A.tmps[34]?.getD undef = f 34 := by rw [← hA]; exact fr_in _ _ _ _ 34 (by decide) (by simp)
            clear hA
            have HX := Lib.hid hX
            have HT := Lib.hid hT
            have HN := Lib.hid hni
            have HDN := Lib.hid hdn
            clear hX hT hni hdn
            have Hf33 := Lib.hid h33
            rw [h33] at e33
            clear h33
            have Hf34 := Lib.hid h34
            rw [h34] at e34
            clear h34
            go_simp
            obtain ⟨x1, x2, x3, x4, x5, x6, x7⟩ := HX.out
            exact hK _ _ ⟨Nat.le_refl _, fun _ _ _ => rfl⟩ (fun d hd => by injection hd with hd; subst hd; exact rfl) ⟨x1, by simpa using x2, by simpa [nextF] using x3, by simpa [nextF] using x4, x5, by simpa using x6, by simpa [nextF] using x7⟩
          · simp only [List.getElem?_toArray, List.getElem?_cons_zero, List.getElem?_cons_succ, Option.some.injEq] at ho
            subst ho
            have h35 : f 35 = .pointer (some ⟨b2, f2 + k, none⟩) := hT 7 35 (by decide) rfl (hdn { on := 7, ground := .data } (by simp) rfl)
            generalize hA : fr _ _ _ f = A at hK ⊢
            have e35 : A.tmps[35]?.getD undef = f 35 := by rw [← hA]; exact fr_in _ _ _ _ 35 (by decide) (by simp)
            clear hA
            have HX := Lib.hid hX
            have HT := Lib.hid hT
            have HN := Lib.hid hni
            have HDN := Lib.hid hdn
            clear hX hT hni hdn
            have Hf35 := Lib.hid h35
            rw [h35] at e35
            clear h35
            have hcell := ((HX.out.1).cell (p := ⟨b2, f2 + k, none⟩) hl2').trans q2
            go_simp
            obtain ⟨x1, x2, x3, x4, x5, x6, x7⟩ := HX.out
            exact hK _ _ ⟨Nat.le_refl _, fun _ _ _ => rfl⟩ (fun d hd => by injection hd with hd; subst hd; exact rfl) ⟨x1, by simpa using x2, by simpa [nextF] using x3, by simpa [nextF] using x4, x5, by simpa using x6, by simpa [nextF] using x7⟩
          · simp only [List.getElem?_toArray, List.getElem?_cons_zero, List.getElem?_cons_succ, Option.some.injEq] at ho
            subst ho
            have h32 : f 32 = .int .i64 x := hT 4 32 (by decide) rfl (hdn { on := 4, ground := .data } (by simp) rfl)
            have h36 : f 36 = .int .i64 y := hT 8 36 (by decide) rfl (hdn { on := 8, ground := .data } (by simp) rfl)
            generalize hA : fr _ _ _ f = A at hK ⊢
            have e32 : A.tmps[32]?.getD undef = f 32 := by rw [← hA]; exact fr_in _ _ _ _ 32 (by decide) (by simp)
            have e36 : A.tmps[36]?.getD undef = f 36 := by rw [← hA]; exact fr_in _ _ _ _ 36 (by decide) (by simp)
            clear hA
            have HX := Lib.hid hX
            have HT := Lib.hid hT
            have HN := Lib.hid hni
            have HDN := Lib.hid hdn
            clear hX hT hni hdn
            have Hf32 := Lib.hid h32
            rw [h32] at e32
            clear h32
            have Hf36 := Lib.hid h36
            rw [h36] at e36
            clear h36
            go_simp
            obtain ⟨x1, x2, x3, x4, x5, x6, x7⟩ := HX.out
            exact hK _ _ ⟨Nat.le_refl _, fun _ _ _ => rfl⟩ (fun d hd => by injection hd with hd; subst hd; exact rfl) ⟨x1, by simpa using x2, by simpa [nextF] using x3, by simpa [nextF] using x4, x5, by simpa using x6, by simpa [nextF] using x7⟩
          · simp only [List.getElem?_toArray, List.getElem?_cons_zero, List.getElem?_cons_succ, Option.some.injEq] at ho
            subst ho
            have h37 : f 37 = .int .i64 (bits BinOp.or IntKind.i64 x y) := hT 9 37 (by decide) rfl (hdn { on := 9, ground := .data } (by simp) rfl)
            generalize hA : fr _ _ _ f = A at hK ⊢
            have e37 : A.tmps[37]?.getD undef = f 37 := by rw [← hA]; exact fr_in _ _ _ _ 37 (by decide) (by simp)
            clear hA
            have HX := Lib.hid hX
            have HT := Lib.hid hT
            have HN := Lib.hid hni
            have HDN := Lib.hid hdn
            clear hX hT hni hdn
            have Hf37 := Lib.hid h37
            rw [h37] at e37
            clear h37
            go_simp
            obtain ⟨x1, x2, x3, x4, x5, x6, x7⟩ := HX.out
            have hnb : some w1.heap.size ≠ blockOf A' := fun e => by have := x5 _ e.symm; omega
            refine hK _ _ ⟨by simp, fun k hk _ => Below.heap_alloc _ _ _ hk⟩ (fun d hd => by injection hd with hd; subst hd; exact ⟨w1.heap.size, rfl, hnb, heap_alloc_new w1 _⟩) ⟨x1.alloc x1.size _, fun h => (x2 (by simpa using h)).keep (Kept.alloc _ _ _), fun h => ?_, by simpa [nextF] using x4, fun g hg => by have := x5 g hg; simp; omega, by simpa using x6, by simpa [nextF] using x7⟩
            obtain ⟨A1, c1, e1, o1⟩ := x3 (by simpa using h)
            exact ⟨A1, c1, by simpa [nextF] using e1, o1.keep (Kept.alloc _ _ _)⟩
          · simp only [List.getElem?_toArray, List.getElem?_cons_zero, List.getElem?_cons_succ, Option.some.injEq] at ho
            subst ho
            have h28 : f 28 = .slice A' Z0.length c' := hT 0 28 (by decide) rfl (hdn { on := 0, ground := .data } (by simp) rfl)
            have h38 : ∃ b : Nat, f 38 = .slice (some ⟨b, 0, none⟩) 1 1 ∧ some b ≠ blockOf A' ∧ w1.heap[b]? = some (.cells #[.int .i64 (bits BinOp.or IntKind.i64 x y)] 3 (0, 0)) := hT 10 38 (by decide) rfl (hdn { on := 10, ground := .data } (by simp) rfl)
            have hd0 : dn 0 = true := hdn { on := 0, ground := .data } (by simp) rfl
            generalize hA : fr _ _ _ f = A at hK ⊢
            have e28 : A.tmps[28]?.getD undef = f 28 := by rw [← hA]; exact fr_in _ _ _ _ 28 (by decide) (by simp)
            have e38 : A.tmps[38]?.getD undef = f 38 := by rw [← hA]; exact fr_in _ _ _ _ 38 (by decide) (by simp)
            clear hA
            have HX := Lib.hid hX
            have HT := Lib.hid hT
            have HN := Lib.hid hni
            have HDN := Lib.hid hdn
            clear hX hT hni hdn
            have Hf28 := Lib.hid h28
            rw [h28] at e28
            clear h28
            obtain ⟨gb, h38, gn, gr⟩ := h38
            have Hf38 := Lib.hid h38
            rw [h38] at e38
            clear h38
            obtain ⟨x1, x2, x3, x4, x5, x6, x7⟩ := HX.out
            have ho := x2 HN.out
            obtain ⟨i0, hi0, hz0, hz1, hz2⟩ := info_parts intInfo
            obtain ⟨A1, c1, w2, hr, h2, h3, h4⟩ := run_append_OV (P := Tryd.prog) w1 (fun g => w.heap.size ≤ g) 22 22 3 i0 _ 1 8 Tryd.underlying22 hi0 hz0 hz1 hz2 rfl (by decide) A' Z0.length c' (ints Z0) ho (fun _ => True) (some ⟨gb, 0, none⟩) 1 1 [.int .i64 (bits BinOp.or IntKind.i64 x y)] rfl (SV.block gr) (by intro u hu; simp at hu; subst hu; rfl) (by simp only [maxLen]; omega) (by omega)
            refine wp_append (.tmp 28) (.tmp 38) 22 rfl (show A.eval (.tmp 28) = _ by simpa [Act.eval] using e28) (show A.eval (.tmp 38) = _ by simpa [Act.eval] using e38) hr ?_
            refine hK _ _ ⟨h3.size, fun k hk hne => h3.block k hk hne⟩ (fun d hd => by injection hd with hd; subst hd; exact ⟨A1, c1, rfl⟩) ⟨x1.trans ((Below.refl w.heap.size w1).grown h3 x1.size (fun g hg => (OV.block ho g hg).1)), fun h => by simp at h, fun _ => ⟨A1, c1, by simp [nextF], ?_⟩, fun h => ?_, fun g hg => Nat.lt_of_lt_of_le (x5 g hg) h3.size, fun _ => by simp [hd0], by simpa [nextF] using x7⟩
            · have := h2.mono (T := fun g => w.heap.size ≤ g) (fun g _ hg => by have := x1.size; rcases hg with hg | hg <;> omega)
              unfold OI
              rw [List.length_append, show ints (Z0 ++ [bits BinOp.or IntKind.i64 x y]) = ints Z0 ++ [.int .i64 (bits BinOp.or IntKind.i64 x y)] by simp [ints]]
              exact this
            · have := (x4 (by simpa using h)).2
              rw [HN.out] at this
              cases this
          · simp only [List.getElem?_toArray, List.getElem?_cons_zero, List.getElem?_cons_succ, Option.some.injEq] at ho
            subst ho
            have h39 : ∃ (A1 : Option Addr) (c1 : Nat), f 39 = .slice A1 (Z0.length + 1) c1 := hT 11 39 (by decide) rfl (hdn { on := 11, ground := .data } (by simp) rfl)
            have hd11 : dn 11 = true := hdn { on := 11, ground := .data } (by simp) rfl
            generalize hA : fr _ _ _ f = A at hK ⊢
            have e39 : A.tmps[39]?.getD undef = f 39 := by rw [← hA]; exact fr_in _ _ _ _ 39 (by decide) (by simp)
            clear hA
            have HX := Lib.hid hX
            have HT := Lib.hid hT
            have HN := Lib.hid hni
            have HDN := Lib.hid hdn
            clear hX hT hni hdn
            obtain ⟨A1, c1, h39⟩ := h39
            have Hf39 := Lib.hid h39
            rw [h39] at e39
            clear h39
            go_simp
            obtain ⟨x1, x2, x3, x4, x5, x6, x7⟩ := HX.out
            exact hK _ _ ⟨Nat.le_refl _, fun _ _ _ => rfl⟩ (fun d hd => by injection hd with hd; subst hd; exact ⟨A1, c1, rfl⟩) ⟨x1, by simpa using x2, by simpa [nextF] using x3, fun _ => ⟨by simp [nextF, Hf39.out], by simp [hd11]⟩, x5, by simpa using x6, fun h => by simp at h⟩
        · intro dn f w1 hX hdn hall
          obtain ⟨x1, _, x3, x4, _⟩ := hX
          obtain ⟨A1, c1, e1, o1⟩ := x3 (hdn 11 (by decide))
          have e2 := (x4 (hdn 12 (by decide))).1.trans e1
          have E2 := Lib.hid e2
          clear hdn hall x3 x4 e1 e2
          simp only [fr, upd, List.mapIdx_cons, List.mapIdx_nil]
          simp
          go_wp2_with (fail)
          go_roundg (gk - 1)
          case measure => have := Hk.out; omega
          case rel =>
            rw [Hb.out] at o1
            exact ⟨k + 1, A1, c1, by have := Hk.out; omega, by go_num, by rw [Hs2.out, E2.out]; simp, by rw [Hs2.out]; exact o1, x1⟩
      · go_wp2_with (fail)
        go_ret
        rw [List.take_of_length_le (by rw [HZl.out]; omega)] at hown ⊢
        exact ⟨A', c', rfl, hown, hbel⟩
end Go.Proofs.YtgpcojmdfmngeaaDoor

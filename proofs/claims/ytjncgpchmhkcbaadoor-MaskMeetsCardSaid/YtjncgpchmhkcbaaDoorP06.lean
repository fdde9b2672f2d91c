/-
  Plain facts of masks for the law MaskMeets; contracts with lengths as variables; what stands while a law of masks runs.
-/
import Derived.Test.YtjncgpchmhkcbaaDoorMk
import Derived.Test.YtjncgpchmhkcbaaDoorW06d
import Derived.Test.YtjncgpchmhkcbaaDoorL06a
namespace Go.Proofs.YtjncgpchmhkcbaaDoor
open Go.RowKit
set_option maxHeartbeats 400000
set_option maxRecDepth 100000

/-! plain facts of masks -/
theorem andM_comm (x y : Int) : andM x y = andM y x := by unfold andM; repeat' split <;> omega
theorem orM_comm (x y : Int) : orM x y = orM y x := by unfold orM; repeat' split <;> omega
theorem zip_and_comm : ∀ (xs ys : List Int), List.zipWith andM xs ys = List.zipWith andM ys xs
  | [], ys => by simp
  | x :: xs, [] => by simp
  | x :: xs, y :: ys => by simp [andM_comm x y, zip_and_comm xs ys]
theorem zip_or_comm : ∀ (xs ys : List Int), List.zipWith orM xs ys = List.zipWith orM ys xs
  | [], ys => by simp
  | x :: xs, [] => by simp
  | x :: xs, y :: ys => by simp [orM_comm x y, zip_or_comm xs ys]
theorem three {x : Int} (h : isMask x = true) : x = 1 ∨ x = 2 ∨ x = 3 := by unfold isMask at h; simp at h; omega

def mok (xs ys : List Int) : Bool := !(List.zipWith andM xs ys).any (fun x => 0 == x)
def mt (xs ys : List Int) : List Int := if mok xs ys then List.zipWith andM xs ys else []
theorem mok_comm (xs ys : List Int) : mok ys xs = mok xs ys := by unfold mok; rw [zip_and_comm]
theorem mt_comm (xs ys : List Int) : mt ys xs = mt xs ys := by unfold mt; rw [mok_comm, zip_and_comm]
theorem mt_len {xs ys : List Int} (h : xs.length = ys.length) (hk : mok xs ys = true) : (mt xs ys).length = xs.length := by unfold mt; rw [if_pos hk]; simp; omega
theorem mt_masks : ∀ {xs ys : List Int}, xs.all isMask = true → ys.all isMask = true → mok xs ys = true → (mt xs ys).all isMask = true := by
  intro xs ys hx hy hk
  unfold mt; rw [if_pos hk]
  unfold mok at hk
  induction xs generalizing ys with
  | nil => simp
  | cons x xs ih =>
    cases ys with
    | nil => simp
    | cons y ys =>
      simp only [List.all_cons, Bool.and_eq_true, List.zipWith_cons_cons, List.any_cons, Bool.not_or] at *
      refine ⟨?_, ih hx.2 hy.2 hk.2⟩
      have hk1 := hk.1
      clear hk ih
      rcases three hx.1 with rfl | rfl | rfl <;> rcases three hy.1 with rfl | rfl | rfl <;> revert hk1 <;> decide
theorem jt_masks : ∀ {xs ys : List Int}, xs.all isMask = true → ys.all isMask = true → (List.zipWith orM xs ys).all isMask = true
  | [], ys, _, _ => by simp
  | x :: xs, [], _, _ => by simp
  | x :: xs, y :: ys, hx, hy => by
    simp only [List.all_cons, Bool.and_eq_true, List.zipWith_cons_cons] at *
    refine ⟨?_, jt_masks hx.2 hy.2⟩
    rcases three hx.1 with rfl | rfl | rfl <;> rcases three hy.1 with rfl | rfl | rfl <;> decide
theorem finer_jl : ∀ (xs ys : List Int), finer xs (List.zipWith orM xs ys) = true
  | [], ys => by simp [finer]
  | x :: xs, [] => by simp [finer]
  | x :: xs, y :: ys => by
    have ih := finer_jl xs ys
    simp only [finer, List.zipWith_cons_cons, List.any_cons, Bool.not_or, Bool.and_eq_true] at *
    refine ⟨?_, ih⟩
    have : difM x (orM x y) = 0 := by unfold difM orM; repeat' split <;> omega
    simp [this]
theorem finer_jr (xs ys : List Int) : finer ys (List.zipWith orM xs ys) = true := by rw [zip_or_comm]; exact finer_jl ys xs
theorem finer_ml (xs ys : List Int) : finer (List.zipWith andM xs ys) xs = true := by
  induction xs generalizing ys with
  | nil => simp [finer]
  | cons x xs ih =>
    cases ys with
    | nil => simp [finer]
    | cons y ys =>
      have ih := ih ys
      simp only [finer, List.zipWith_cons_cons, List.any_cons, Bool.not_or, Bool.and_eq_true] at *
      refine ⟨?_, ih⟩
      have : difM (andM x y) x = 0 := by unfold difM andM; repeat' split <;> omega
      simp [this]
theorem finer_mr (xs ys : List Int) : finer (List.zipWith andM xs ys) ys = true := by rw [zip_and_comm]; exact finer_ml ys xs
theorem finer_is : ∀ {xs ys : List Int}, xs.length = ys.length → xs.all isMask = true → ys.all isMask = true → finer xs ys = (mok xs ys && decide (mt xs ys = xs)) := by
  intro xs ys hl hx hy
  have key : finer xs ys = decide (List.zipWith andM xs ys = xs) := by
    induction xs generalizing ys with
    | nil => simp [finer]
    | cons x xs ih =>
      cases ys with
      | nil => simp at hl
      | cons y ys =>
        simp only [List.all_cons, Bool.and_eq_true] at hx hy
        have ih := ih (ys := ys) (by simpa using hl) hx.2 hy.2
        simp only [finer, List.zipWith_cons_cons, List.any_cons, Bool.not_or, List.cons.injEq, Bool.decide_and] at *
        rw [ih]
        congr 1
        rcases three hx.1 with rfl | rfl | rfl <;> rcases three hy.1 with rfl | rfl | rfl <;> decide
  rw [key]
  cases hk : mok xs ys with
  | true => unfold mt; rw [if_pos hk]; rfl
  | false =>
    simp only [Bool.false_and, decide_eq_false_iff_not]
    intro he
    unfold mok at hk
    rw [he] at hk
    simp only [Bool.not_eq_false', List.any_eq_true, beq_iff_eq] at hk
    obtain ⟨x, hm, rfl⟩ := hk
    have := List.all_eq_true.1 hx 0 hm
    revert this; decide
theorem agl_and : ∀ {s xs ys : List Int}, xs.length = ys.length → s.length = xs.length → xs.all isMask = true → ys.all isMask = true → agl s (List.zipWith andM xs ys) = (agl s xs && agl s ys)
  | [], xs, ys, _, _, _, _ => by simp [agl]
  | a :: s, [], ys, _, h, _, _ => by simp at h
  | a :: s, x :: xs, [], h, _, _, _ => by simp at h
  | a :: s, x :: xs, y :: ys, h1, h2, hx, hy => by
    simp only [List.all_cons, Bool.and_eq_true] at hx hy
    have ih := agl_and (s := s) (xs := xs) (ys := ys) (by simpa using h1) (by simpa using h2) hx.2 hy.2
    simp only [List.zipWith_cons_cons, agl]
    rw [ih]
    have e : agB a (andM x y) = (agB a x && agB a y) := by
      unfold agB
      cases hp : isPos a with
      | false => rfl
      | true =>
        have ha : a = 1 ∨ a = 2 := by unfold isPos at hp; simp at hp; omega
        rcases ha with rfl | rfl <;> rcases three hx.1 with rfl | rfl | rfl <;> rcases three hy.1 with rfl | rfl | rfl <;> decide
    rw [e]
    cases agB a x <;> cases agB a y <;> simp
theorem agl_zero : ∀ {s z : List Int}, s.length = z.length → z.any (fun x => 0 == x) = true → agl s z = false
  | [], [], _, h => by simp at h
  | a :: s, x :: z, hl, h => by
    simp only [agl]
    simp only [List.any_cons, Bool.or_eq_true, beq_iff_eq] at h
    rcases h with h | h
    · subst h
      have : agB a 0 = false := by
        unfold agB
        cases hp : isPos a with
        | false => rfl
        | true =>
          have ha : a = 1 ∨ a = 2 := by unfold isPos at hp; simp at hp; omega
          rcases ha with rfl | rfl <;> decide
      simp [this]
    · rw [agl_zero (by simpa using hl) h, Bool.and_false]
theorem agr_eq {s xs : List Int} (h : s.length = xs.length) (hx : xs.all isMask = true) : agr s xs = agl s xs := by unfold agr; simp [h, hx]
theorem agr_both {s xs ys : List Int} (hl : xs.length = ys.length) (hs : s.length = xs.length) (hx : xs.all isMask = true) (hy : ys.all isMask = true) :
    (mok xs ys && agr s (mt xs ys)) = (agr s xs && agr s ys) := by
  rw [agr_eq hs hx, agr_eq (hs.trans hl) hy, ← agl_and hl hs hx hy]
  cases hk : mok xs ys with
  | true =>
    rw [agr_eq (by rw [mt_len hl hk]; exact hs) (mt_masks hx hy hk)]
    unfold mt; rw [if_pos hk]; rfl
  | false =>
    unfold mok at hk
    rw [agl_zero (by simp; omega) (by simpa using hk)]; rfl
theorem agl_or : ∀ {s xs ys : List Int}, xs.length = ys.length → s.length = xs.length → (agl s xs = true ∨ agl s ys = true) → xs.all isMask = true → ys.all isMask = true → agl s (List.zipWith orM xs ys) = true
  | [], xs, ys, _, _, _, _, _ => by simp [agl]
  | a :: s, [], ys, _, h, _, _, _ => by simp at h
  | a :: s, x :: xs, [], h, _, _, _, _ => by simp at h
  | a :: s, x :: xs, y :: ys, h1, h2, ho, hx, hy => by
    simp only [List.all_cons, Bool.and_eq_true] at hx hy
    simp only [List.zipWith_cons_cons, agl, Bool.and_eq_true] at *
    refine ⟨?_, agl_or (by simpa using h1) (by simpa using h2) (ho.elim (fun h => .inl h.2) (fun h => .inr h.2)) hx.2 hy.2⟩
    have ho' : agB a x = true ∨ agB a y = true := ho.elim (fun h => .inl h.1) (fun h => .inr h.1)
    have hp : isPos a = true := by unfold agB at ho'; cases hq : isPos a <;> simp_all
    have ha : a = 1 ∨ a = 2 := by unfold isPos at hp; simp at hp; omega
    clear ho hp
    rcases ha with rfl | rfl <;> rcases three hx.1 with rfl | rfl | rfl <;> rcases three hy.1 with rfl | rfl | rfl <;> revert ho' <;> decide
theorem agr_or {s xs ys : List Int} (hl : xs.length = ys.length) (hs : s.length = xs.length) (hx : xs.all isMask = true) (hy : ys.all isMask = true) (h : (agr s xs || agr s ys) = true) : agr s (List.zipWith orM xs ys) = true := by
  rw [agr_eq (by simp; omega) (jt_masks hx hy)]
  rw [agr_eq hs hx, agr_eq (hs.trans hl) hy] at h
  exact agl_or hl hs (by simpa using h) hx hy
theorem okPair_mk {xs ys : List Int} (h : xs.length = ys.length) (hx : xs.all isMask = true) (hy : ys.all isMask = true) : okPair xs ys = true := by unfold okPair; simp [h, hx, hy]

/-! the contracts, with the lengths as variables -/
section
variable (w : World) (h : Tab w) (S T : Nat → Prop) (A B : Option Addr) (c d n m : Nat) (xs ys : List Int) (hn : xs.length = n) (hm : ys.length = m) (hs : SI w S A xs) (ht : SI w T B ys) (hl : n ≤ 65536) (hl2 : m ≤ 65536)
include h hn hm hs ht hl in
theorem meet_n (hlen : n = m) (hx : xs.all isMask = true) (hy : ys.all isMask = true) :
    Calls Tryd.prog 18 #[.slice A n c, .slice B m d] w fun e w' => ∃ A' c', e = .returned (.tuple #[.slice A' (mt xs ys).length c', .bool (mok xs ys)]) ∧ OI w' (fun g => w.heap.size ≤ g) A' c' (mt xs ys) ∧ Below w.heap.size w w' := by
  subst hn hm
  have hok := okPair_mk hlen hx hy
  cases hk : mok xs ys with
  | true =>
    refine (meet_yes w h S T A B c d xs ys hs ht hl hok (by unfold mok at hk; simpa using hk)).mono ?_
    rintro e w' ⟨A', c', rfl, ho, hb⟩
    refine ⟨A', c', by rw [mt_len hlen hk], ?_, hb⟩
    unfold mt; rw [if_pos hk]; exact ho
  | false =>
    refine (meet_none w h S T A B c d xs ys hs ht hl hok (by unfold mok at hk; simpa using hk)).mono ?_
    rintro e w' ⟨rfl, hb⟩
    have e0 : mt xs ys = [] := by unfold mt; rw [if_neg (by rw [hk]; decide)]
    rw [e0]
    exact ⟨none, 0, rfl, OI.nil _ _, hb⟩
include h hn hm hs ht hl in
theorem join_n (hlen : n = m) (hx : xs.all isMask = true) (hy : ys.all isMask = true) :
    Calls Tryd.prog 19 #[.slice A n c, .slice B m d] w fun e w' => ∃ A' c', e = .returned (.slice A' n c') ∧ OI w' (fun g => w.heap.size ≤ g) A' c' (List.zipWith orM xs ys) ∧ Below w.heap.size w w' := by
  subst hn hm
  exact join_yes w h S T A B c d xs ys hs ht hl (okPair_mk hlen hx hy)
include h hn hm hs ht hl in
theorem finer_n (hlen : n = m) (hx : xs.all isMask = true) (hy : ys.all isMask = true) (r : Bool) (hr : finer xs ys = r) :
    Calls Tryd.prog 21 #[.slice A n c, .slice B m d] w fun e w' => e = .returned (.bool r) ∧ Below w.heap.size w w' := by
  subst hn hm hr
  exact finer_yes w h S T A B c d xs ys hs ht hl (okPair_mk hlen hx hy)
include hn hm hs ht hl hl2 in
theorem ints_n (r : Bool) (hr : decide (xs = ys) = r) :
    Calls Tryd.prog 20 #[.slice A n c, .slice B m d] w fun e w' => e = .returned (.bool r) ∧ Below w.heap.size w w' := by
  subst hn hm hr
  exact ints_b w S T A B c d xs ys hs ht hl hl2
include h hn hm hs ht hl hl2 in
theorem agrees_n (r : Bool) (hr : agr xs ys = r) :
    Calls Tryd.prog 23 #[.slice A n c, .slice B m d] w fun e w' => e = .returned (.bool r) ∧ w = w' := by
  subst hn hm hr
  exact agrees_any w h S T A B c d xs ys hs ht hl hl2
end

/-- What stands while the law runs: tables, deck, lists, the network. -/
structure MM (w0 w : World) (bd gn : Nat) (cs : Array Value) (A2 : Option Addr) (ds : List Dev) (L : List (Option Addr × List Int)) : Prop where
  tab : Tab w
  deck : Deck w bd
  ls : ∀ p ∈ L, SI w (fun g => g ≠ bd) p.1 p.2
  net : w.heap[gn]? = some (.cells cs 39 (0, 0))
  gne : gn ≠ bd
  tne : 0 ≠ bd
  devs : SV w (fun g => g ≠ bd) A2 (devsV ds)
  fr : Fr bd bd w0 w
theorem kept_fr {w w' : World} {bd : Nat} (h : Fr w.heap.size bd w w') : Kept (fun g => g ≠ bd) w w' := ⟨h.size, fun b hb hl => h.block b hl hb⟩
theorem MM.next {w0 w w' : World} {bd gn : Nat} {cs : Array Value} {A2 : Option Addr} {ds : List Dev} {L : List (Option Addr × List Int)} (h : MM w0 w bd gn cs A2 ds L) (hf : Fr w.heap.size bd w w') (hd : Deck w' bd) : MM w0 w' bd gn cs A2 ds L :=
  ⟨h.tab.keep (hf.block _ h.tab.lt h.tne), hd, fun p hp => (h.ls p hp).keep (kept_fr hf), (hf.block gn (Array.getElem?_eq_some_iff.1 h.net).1 h.gne).trans h.net, h.gne, h.tne, h.devs.keep (kept_fr hf),
    h.fr.trans ⟨hf.os, hf.tape, hf.output, hf.size, fun k hk hn => hf.block k (by have := h.deck.lt; omega) hn⟩⟩
theorem MM.below {w0 w w' : World} {bd gn : Nat} {cs : Array Value} {A2 : Option Addr} {ds : List Dev} {L : List (Option Addr × List Int)} (h : MM w0 w bd gn cs A2 ds L) (hb : Below w.heap.size w w') : MM w0 w' bd gn cs A2 ds L :=
  h.next (Fr.of_below hb) (h.deck.below hb)
theorem MM.add {w0 w w' : World} {bd gn : Nat} {cs : Array Value} {A2 : Option Addr} {ds : List Dev} {L : List (Option Addr × List Int)} (h : MM w0 w bd gn cs A2 ds L) (hb : Below w.heap.size w w') {A : Option Addr} {c : Nat} {xs : List Int} (ho : OI w' (fun g => w.heap.size ≤ g) A c xs) : MM w0 w' bd gn cs A2 ds ((A, xs) :: L) := by
  have h' := h.below hb
  refine ⟨h'.tab, h'.deck, fun p hp => ?_, h'.net, h'.gne, h'.tne, h'.devs, h'.fr⟩
  rcases List.mem_cons.1 hp with rfl | hp
  · exact ho.si.mono (fun g _ hg => by have := h.deck.lt; omega)
  · exact h'.ls p hp

end Go.Proofs.YtjncgpchmhkcbaaDoor

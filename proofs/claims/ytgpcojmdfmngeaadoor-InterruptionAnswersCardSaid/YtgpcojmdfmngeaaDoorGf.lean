/-
  Walk: awake of the law package of colours.
  What the laws over colours share: the state behind mk.State, Colours, Parts, Faults of a network without error.
  Walks of slices.DeleteFunc as supply.Lost calls it, and of supply.Lost.
  What the laws of supply share: awake, and Customers and Lost of a network without error.
-/
import Derived.Test.YtgpcojmdfmngeaaDoorGe
import Derived.Test.YtgpcojmdfmngeaaDoorGk
import Derived.Test.YtgpcojmdfmngeaaDoorGb
import Derived.Test.YtgpcojmdfmngeaaDoorGd
import Derived.BigQuiet
import Derived.Lib.SliceRun
namespace Go.Proofs.YtgpcojmdfmngeaaDoor
open Go.RowKit
set_option maxHeartbeats 400000
set_option maxRecDepth 100000

def awD7 : List Dev := [⟨⟨#[83]⟩, 5, 0, -1, 0⟩, ⟨⟨#[81]⟩, 2, 0, 1, 0⟩, ⟨⟨#[69]⟩, 4, 1, -1, 0⟩]
theorem aw7_col : coloursE awN awD7 [2, 2, 2] = ([3, 3], 0) := by decide +kernel
theorem aw7_flt : faultsE awN awD7 [2, 1, 2] = ([], 0) := by decide +kernel

theorem awake07 (w : World) (h : TabC w) (ht : Tab w) : Calls Tryd.prog 63 #[] w (RetT w) := by
  go_enter Tryd.func63, Tryd.ntmps63
  go_wp2_with (fail)
  obtain ⟨e1, e2, e3, e4, ez, eb⟩ := four w (.cells (nodesV awN).toArray 104) (.cells (devsV awD7).toArray 78) (.cells #[.slice (some ⟨w.heap.size, 0, none⟩) 2 2, .slice (some ⟨w.heap.size + 1, 0, none⟩) 3 3] 26) (.cells (ints [2, 2, 2]).toArray 3)
  obtain ⟨W, hW⟩ : ∃ W, W = ((((w.alloc (.cells (nodesV awN).toArray 104)).alloc (.cells (devsV awD7).toArray 78)).alloc (.cells #[.slice (some ⟨w.heap.size, 0, none⟩) 2 2, .slice (some ⟨w.heap.size + 1, 0, none⟩) 3 3] 26)).alloc (.cells (ints [2, 2, 2]).toArray 3)) := ⟨_, rfl⟩
  rw [← hW] at e1 e2 e3 e4 ez eb
  have hin : NetIn W (fun _ => True) (some ⟨w.heap.size, 0, none⟩) (some ⟨w.heap.size + 1, 0, none⟩) awN awD7 := ⟨SV.block e1, SV.block e2, by decide, by decide⟩
  have hu : SI W (fun _ => True) (some ⟨w.heap.size + 1 + 1 + 1, 0, none⟩) [2, 2, 2] := SV.block e4
  have HC := Colours_any W (h.below eb) (ht.below eb) _ _ _ 2 3 awN awD7 hin (by decide) (by decide) _ 3 [2, 2, 2] hu (by decide)
  rw [aw7_col] at HC
  have n0 : W.cell? ⟨w.heap.size + 1 + 1, 0, none⟩ = some (.slice (some ⟨w.heap.size, 0, none⟩) 2 2) := by rw [cell_of_row W _ 0 _ _ _ e3]; rfl
  have n1 : W.cell? ⟨w.heap.size + 1 + 1, 1, none⟩ = some (.slice (some ⟨w.heap.size + 1, 0, none⟩) 3 3) := by rw [cell_of_row W _ 1 _ _ _ e3]; rfl
  show Calls _ _ _ (((((w.alloc (.cells (nodesV awN).toArray 104)).alloc (.cells (devsV awD7).toArray 78)).alloc (.cells #[.slice (some ⟨w.heap.size, 0, none⟩) 2 2, .slice (some ⟨w.heap.size + 1, 0, none⟩) 3 3] 26)).alloc (.cells (ints [2, 2, 2]).toArray 3))) _
  rw [← hW]
  clear hW e1 e2 e3 e4 ez
  refine HC.mono ?_
  rintro e w1 ⟨A, c, rfl, ho1, hb1⟩
  clear HC
  have hb1' := eb.trans (hb1.mono eb.size)
  have m0 : w1.cell? ⟨w.heap.size + 1 + 1, 0, none⟩ = some (.slice (some ⟨w.heap.size, 0, none⟩) 2 2) := (hb1.cell (p := ⟨w.heap.size + 1 + 1, 0, none⟩) (World.block_lt_of_cell? _ _ n0)).trans n0
  have m1 : w1.cell? ⟨w.heap.size + 1 + 1, 1, none⟩ = some (.slice (some ⟨w.heap.size + 1, 0, none⟩) 3 3) := (hb1.cell (p := ⟨w.heap.size + 1 + 1, 1, none⟩) (World.block_lt_of_cell? _ _ n1)).trans n1
  have hin1 := hin.below hb1
  have hs1 := (OI.si ho1)
  have hbA := (Below.refl w1.heap.size w1).alloc (Nat.le_refl _) (.cells (ints [2, 1, 2]).toArray 3)
  have HF := Faults_any _ (h.below (hb1'.trans (hbA.mono hb1'.size))) (ht.below (hb1'.trans (hbA.mono hb1'.size))) _ _ _ 2 3 awN awD7 (hin1.below hbA) (by decide) (by decide) _ 3 [2, 1, 2] ((OI.lit w1 [2, 1, 2] (by decide)).si.mono (fun _ _ _ => trivial)) (by decide)
  rw [aw7_flt] at HF
  have HF := Lib.hid HF
  clear n0 n1 hin hu ho1
  go_wp2_with (fail)
  refine HF.out.mono ?_
  rintro e w2 ⟨A', c', rfl, ho2, hb2⟩
  have hb2' := (hb1'.trans (hbA.mono hb1'.size)).trans (hb2.mono (by have := hb1'.size; simp; omega))
  have hs2 := (hs1.keep (Kept.of_below hbA)).keep (Kept.of_below hb2)
  clear m0 m1 hin1 hs1 HF
  have hbB := (Below.refl w2.heap.size w2).alloc (Nat.le_refl _) (.cells (ints [3, 3]).toArray 3)
  have HI := ints_any _ (fun _ => True) (fun _ => True) A (some ⟨w2.heap.size, 0, none⟩) c 2 [3, 3] [3, 3] ((hs2.keep (Kept.of_below hbB)).mono (fun _ _ _ => trivial)) ((OI.lit w2 [3, 3] (by decide)).si.mono (fun _ _ _ => trivial)) (by decide) (by decide)
  rw [show decide (([3, 3] : List Int) = [3, 3]) = true by decide] at HI
  have HI := Lib.hid HI
  go_wp2_with (fail)
  refine HI.out.mono ?_
  rintro e w3 ⟨rfl, nq, rfl⟩
  go_wp2_with (fail)
  go_ret
  exact ⟨rfl, (hb2'.trans (hbB.mono hb2'.size)).trans (below_drewN _ _ nq)⟩
end Go.Proofs.YtgpcojmdfmngeaaDoor

namespace Go.Proofs.YtgpcojmdfmngeaaDoor
open Go.RowKit
set_option maxHeartbeats 400000
set_option maxRecDepth 100000

def mixL (Z X : List Int) (k : Nat) : List Int := Z.take k ++ X.drop k
theorem mixL_len {Z X : List Int} (h : Z.length = X.length) (k : Nat) : (mixL Z X k).length = X.length := by
  simp [mixL]; omega
theorem mixL_get {Z X : List Int} (h : Z.length = X.length) (k i : Nat) (hi : i < X.length) : (mixL Z X k)[i]'(by rw [mixL_len h]; exact hi) = if i < k then Z[i]'(by omega) else X[i] := by
  unfold mixL
  rw [List.getElem_append]
  by_cases hik : i < k
  · rw [dif_pos (by simp; omega), if_pos hik, List.getElem_take]
  · rw [dif_neg (by simp; omega), if_neg hik, List.getElem_drop]
    congr 1
    simp
    omega
theorem mixL_at {Z X : List Int} (h : Z.length = X.length) (k : Nat) (hk : k < X.length) : (mixL Z X k)[k]'(by rw [mixL_len h]; exact hk) = X[k] := by
  rw [mixL_get h k k hk, if_neg (by omega)]
theorem mixL_set {Z X : List Int} (h : Z.length = X.length) (k : Nat) (hk : k < X.length) : (mixL Z X k).set k (Z[k]'(by omega)) = mixL Z X (k + 1) := by
  refine List.ext_getElem (by rw [List.length_set, mixL_len h, mixL_len h]) (fun i h1 h2 => ?_)
  have hi : i < X.length := by rw [mixL_len h] at h2; exact h2
  rw [List.getElem_set, mixL_get h k i hi, mixL_get h (k + 1) i hi]
  by_cases e : k = i
  · subst e; rw [if_pos rfl, if_pos (by omega)]
  · rw [if_neg e]
    by_cases hik : i < k
    · rw [if_pos hik, if_pos (by omega)]
    · rw [if_neg hik, if_neg (by omega)]
theorem mixL_same {Z X : List Int} (h : Z.length = X.length) (k : Nat) (hk : k < X.length) (e : Z[k]'(by omega) = X[k]) : mixL Z X k = mixL Z X (k + 1) := by
  rw [← mixL_set h k hk, e, ← mixL_at h k hk, List.set_getElem_self]
theorem mixL_all {Z X : List Int} (h : Z.length = X.length) (k : Nat) (hk : X.length ≤ k) : mixL Z X k = Z := by
  unfold mixL
  rw [List.take_of_length_le (by omega), List.drop_of_length_le hk, List.append_nil]
theorem mixL_zero (Z X : List Int) : mixL Z X 0 = X := rfl

theorem LS.state {w W W' : World} {M gn : Nat} {A1 A2 : Option Addr} {c1 c2 : Nat} {ns : List Node} {ds : List Dev} (h : LS w W M gn A1 c1 ns A2 c2 ds) (hf : Fr W.heap.size w.heap.size W W') (hd : Deck W' w.heap.size) : LS w W' M gn A1 c1 ns A2 c2 ds :=
  h.fr ⟨hf.os, hf.tape, hf.output, hf.size, fun k hk hn => hf.block k (by have := h.top; omega) hn⟩ hd

theorem Colours_len (w : World) (h : TabC w) (ht : Tab w) (S : Nat → Prop) (A1 A2 : Option Addr) (c1 c2 : Nat) (ns : List Node) (ds : List Dev) (hn : NetIn w S A1 A2 ns ds) (hc : checkL ns ds = 0)
    (U : Option Addr) (m cu : Nat) (st : List Int) (hm : m = st.length) (hs : SI w S U st) (hl : st.length = ds.length) (hp : ∀ x ∈ st, x = 1 ∨ x = 2) :
    Calls Tryd.prog 67 #[.agg #[.slice A1 ns.length c1, .slice A2 ds.length c2], .slice U m cu] w fun e w' =>
      ∃ A c, e = .returned (.tuple #[.slice A ns.length c, .int .i64 0]) ∧ SI w' (fun _ => True) A (colL ds st (partsL ns.length ds st)) ∧ Below w.heap.size w w' := by
  have hD := checkL_zero hc
  have HA := Colours_any w h ht S A1 A2 c1 c2 ns ds hn (by have := hD.few; omega) (by have := hD.dev; omega) U cu st hs (by have := hD.dev; omega)
  rw [colours_ok hc hl hp] at HA
  subst hm
  refine HA.mono ?_
  rintro e w' ⟨A, c, rfl, ho, hb⟩
  exact ⟨A, c, by simp [colL_len, partsL_len], (OI.si ho).mono (fun _ _ _ => trivial), hb⟩
theorem Parts_len (w : World) (h : TabC w) (ht : Tab w) (S : Nat → Prop) (A1 A2 : Option Addr) (c1 c2 : Nat) (ns : List Node) (ds : List Dev) (hn : NetIn w S A1 A2 ns ds) (hc : checkL ns ds = 0)
    (U : Option Addr) (m cu : Nat) (st : List Int) (hm : m = st.length) (hs : SI w S U st) (hl : st.length = ds.length) (hp : ∀ x ∈ st, x = 1 ∨ x = 2) :
    Calls Tryd.prog 65 #[.agg #[.slice A1 ns.length c1, .slice A2 ds.length c2], .slice U m cu] w fun e w' =>
      ∃ A c, e = .returned (.tuple #[.slice A ns.length c, .int .i64 0]) ∧ SI w' (fun _ => True) A (partsL ns.length ds st) ∧ Below w.heap.size w w' := by
  have hD := checkL_zero hc
  have HA := Parts_any w h ht S A1 A2 c1 c2 ns ds hn (by have := hD.few; omega) (by have := hD.dev; omega) U cu st hs (by have := hD.dev; omega)
  rw [parts_ok hc hl hp] at HA
  subst hm
  refine HA.mono ?_
  rintro e w' ⟨A, c, rfl, ho, hb⟩
  exact ⟨A, c, by simp [partsL_len], (OI.si ho).mono (fun _ _ _ => trivial), hb⟩
theorem flt_len : ∀ (cs : List Int) (k : Nat), (flt cs k).length ≤ cs.length
  | [], _ => Nat.le_refl _
  | c :: cs, k => by
    have := flt_len cs (k + 1)
    unfold flt
    split <;> simp <;> omega
theorem Faults_len (w : World) (h : TabC w) (ht : Tab w) (S : Nat → Prop) (A1 A2 : Option Addr) (c1 c2 : Nat) (ns : List Node) (ds : List Dev) (hn : NetIn w S A1 A2 ns ds) (hc : checkL ns ds = 0)
    (U : Option Addr) (m cu : Nat) (st : List Int) (hm : m = st.length) (hs : SI w S U st) (hl : st.length = ds.length) (hp : ∀ x ∈ st, x = 1 ∨ x = 2) :
    Calls Tryd.prog 71 #[.agg #[.slice A1 ns.length c1, .slice A2 ds.length c2], .slice U m cu] w fun e w' =>
      ∃ A c fl, e = .returned (.tuple #[.slice A fl.length c, .int .i64 0]) ∧ fl = flt (colL ds st (partsL ns.length ds st)) 0 ∧ SI w' (fun _ => True) A fl ∧ Below w.heap.size w w' := by
  have hD := checkL_zero hc
  have HA := Faults_any w h ht S A1 A2 c1 c2 ns ds hn (by have := hD.few; omega) (by have := hD.dev; omega) U cu st hs (by have := hD.dev; omega)
  unfold faultsE at HA
  rw [colours_ok hc hl hp] at HA
  subst hm
  refine HA.mono ?_
  rintro e w' ⟨A, c, rfl, ho, hb⟩
  exact ⟨A, c, _, rfl, rfl, (OI.si ho).mono (fun _ _ _ => trivial), hb⟩
end Go.Proofs.YtgpcojmdfmngeaaDoor

namespace Go.Proofs.YtgpcojmdfmngeaaDoor
open Go.RowKit
set_option maxHeartbeats 400000
set_option maxRecDepth 100000

theorem goes_lost1 : Goes 143 := fun args w => by kernel_rfl

theorem lost1_any (x : Int) (bs : Nat) (w : World) (S : Nat → Prop) (V : Option Addr) (cv : Nat) (ys : List Int) (hc : w.cell? ⟨bs, 0, none⟩ = some (.slice V ys.length cv)) (hs : SI w S V ys) (hl : ys.length ≤ 65536) :
    Calls Tryd.prog 143 #[.int .i64 x, .pointer (some ⟨bs, 0, none⟩)] w fun e w' => e = .returned (.bool (ys.contains x)) ∧ w = w' := by
  go_enter Tryd.func143, Tryd.ntmps143
  go_wp2_with (fail)
  refine (contains_any x w S V cv ys hs hl).mono ?_
  rintro e w1 ⟨rfl, rfl⟩
  go_wp2_with (fail)
  go_ret
  exact ⟨by rw [List.contains_eq_any_beq]; rfl, rfl⟩

theorem lostIdx_any (w : World) (S T : Nat → Prop) (A : Option Addr) (c : Nat) (xs : List Int) (hs : SI w S A xs) (hl : xs.length ≤ 65536) (bs : Nat) (V : Option Addr) (cv : Nat) (ys : List Int)
    (hc : w.cell? ⟨bs, 0, none⟩ = some (.slice V ys.length cv)) (hv : SI w T V ys) (hyl : ys.length ≤ 65536) :
    Calls Tryd.prog 161 #[.slice A xs.length c, .func (.func 143) #[] #[.pointer (some ⟨bs, 0, none⟩)]] w fun e w' => e = .returned (.int .i64 (idx (fun x => ys.contains x) xs 0)) ∧ w = w' := by
  have hgo := goes_lost1
  unfold Goes at hgo
  have HF := Lib.hid (fun x => lost1_any x bs w T V cv ys hc hv hyl)
  clear hc
  go_enter Tryd.func161, Tryd.ntmps161
  go_wp2_with (fail)
  go_loopg [8] xs.length (fun g i wr => wr = w ∧ ∃ k : Nat, k + g = xs.length ∧ i = .int .i64 k ∧ idx (fun x => ys.contains x) xs 0 = idx (fun x => ys.contains x) (xs.drop k) k)
  case atStart => exact ⟨rfl, 0, by omega, rfl, rfl⟩
  case round =>
    obtain ⟨rfl, k, hk, rfl, hi⟩ := hrel
    have Hi := Lib.hid hi
    have Hk := Lib.hid hk
    clear hi hk
    by_cases hlt : k < xs.length
    · obtain ⟨b, off, rfl, _, _, hc⟩ := hs.at_ hlt
      have Hd := Lib.hid (idx_drop (fun x => ys.contains x) xs k hlt)
      go_wp2_with (fail)
      refine (HF.out _).mono ?_
      rintro e w' ⟨rfl, rfl⟩
      generalize ys.contains xs[k] = eb at *
      cases eb
      · go_wp2_with (fail)
        go_roundg (gk - 1)
        case measure => have := Hk.out; omega
        case rel =>
          refine ⟨rfl, k + 1, by have := Hk.out; omega, by go_num, ?_⟩
          rw [Hi.out, Hd.out]
          simp
      · go_wp2_with (fail)
        go_ret
        refine ⟨?_, rfl⟩
        rw [Hi.out, Hd.out]
        rfl
    · go_wp2_with (fail)
      go_ret
      refine ⟨?_, rfl⟩
      rw [Hi.out, List.drop_of_length_le (by omega)]
      rfl

theorem idx_split (p : Int → Bool) : ∀ (xs : List Int) (k : Nat), (idx p xs k = -1 ∧ ∀ x ∈ xs, p x = false) ∨ ∃ i, ∃ h : i < xs.length, idx p xs k = ((k + i : Nat) : Int) ∧ p xs[i] = true ∧ ∀ x ∈ xs.take i, p x = false
  | [], k => .inl ⟨rfl, by simp⟩
  | x :: xs, k => by
    by_cases hp : p x = true
    · exact .inr ⟨0, by simp, by simp [idx, hp], hp, by simp⟩
    · have hp : p x = false := by simpa using hp
      have e : idx p (x :: xs) k = idx p xs (k + 1) := by simp [idx, hp]
      rw [e]
      rcases idx_split p xs (k + 1) with ⟨h1, h2⟩ | ⟨i, hi, h1, h2, h3⟩
      · exact .inl ⟨h1, fun y hy => by rcases List.mem_cons.1 hy with rfl | hy; exact hp; exact h2 y hy⟩
      · exact .inr ⟨i + 1, by simp; omega, by rw [h1]; congr 1; omega, by simpa using h2, fun y hy => by
          rw [List.take_succ_cons] at hy
          rcases List.mem_cons.1 hy with rfl | hy
          · exact hp
          · exact h3 y hy⟩

theorem OI.clear {S : Nat → Prop} {g off c : Nat} : ∀ (vs : List Int) (k : Nat) (w : World) (xs : List Int), OI w S (some ⟨g, off, none⟩) c xs →
    ∃ xs', xs'.length = xs.length ∧ xs'.take k = xs.take k ∧ OI (w.setCells g (off + k) (ints vs)) S (some ⟨g, off, none⟩) c xs'
  | [], _, _, xs, h => ⟨xs, rfl, rfl, h⟩
  | v :: vs, k, _, xs, h => by
    obtain ⟨xs', h1, h2, h3⟩ := OI.clear vs (k + 1) _ _ (h.set k v)
    refine ⟨xs', by rw [h1, List.length_set], ?_, h3⟩
    have := congrArg (List.take k) h2
    rw [List.take_take, List.take_take, Nat.min_eq_left (by omega), List.take_set_of_le (Nat.le_refl _)] at this
    exact this
theorem Below.setCells {B b : Nat} {a : World} (hb : B ≤ b) : ∀ (vs : List Value) (o : Nat) (w : World), Below B a w → Below B a (w.setCells b o vs)
  | [], _, _, h => h
  | v :: vs, o, _, h => Below.setCells hb vs (o + 1) _ (h.setCell (p := ⟨b, o, none⟩) hb v)
theorem OI.front {S : Nat → Prop} {w : World} {A : Option Addr} {c : Nat} {xs : List Int} (h : OI w S A c xs) (k : Nat) : OI w S A c (xs.take k) := by
  obtain ⟨h1, h2, h3, h4⟩ := h
  refine ⟨by rw [List.length_take]; omega, h2, by simp [ints], ?_⟩
  rcases h4 with h4 | ⟨g, o, cur, e1, hs, hg, hsz, hc⟩
  · exact .inl h4
  · refine .inr ⟨g, o, cur, e1, hs, hg, hsz, fun j u hj => hc j u ?_⟩
    rw [ints, List.map_take, List.getElem?_take] at hj
    split at hj
    · exact hj
    · cases hj

theorem lostL_snoc (xs ys : List Int) (j : Nat) (hj : j < xs.length) : lostL (xs.take (j + 1)) ys = lostL (xs.take j) ys ++ (if ys.contains xs[j] then [] else [xs[j]]) := by
  unfold lostL
  rw [List.take_succ_eq_append_getElem hj, List.filter_append]
  congr 1
  cases h : ys.contains xs[j]
  · rw [List.filter_cons_of_pos (by rw [h]; rfl)]; rfl
  · rw [List.filter_cons_of_neg (by rw [h]; decide)]; rfl

set_option maxHeartbeats 2000000 in
theorem deleteLost_any (w : World) (B M : Nat) (A : Option Addr) (c : Nat) (xs : List Int) (hown : OI w (fun g => B ≤ g ∧ g < M) A c xs) (hl : xs.length ≤ 65536) (bs : Nat) (hbs : M ≤ bs) (V : Option Addr) (cv : Nat) (ys : List Int)
    (hc : w.cell? ⟨bs, 0, none⟩ = some (.slice V ys.length cv)) (hv : SI w (fun g => M ≤ g) V ys) (hyl : ys.length ≤ 65536) :
    Calls Tryd.prog 142 #[.slice A xs.length c, .func (.func 143) #[] #[.pointer (some ⟨bs, 0, none⟩)]] w
      fun e w' => e = .returned (.slice A (lostL xs ys).length c) ∧ OI w' (fun g => B ≤ g ∧ g < M) A c (lostL xs ys) ∧ Below B w w' := by
  have hgo := goes_lost1
  unfold Goes at hgo
  have HI := Lib.hid (lostIdx_any w _ _ A c xs (OI.si hown) hl bs V cv ys hc hv hyl)
  rcases idx_split (fun x => ys.contains x) xs 0 with ⟨h1, h2⟩ | ⟨i0, hi, h1, h2, h3⟩
  · rw [h1] at HI
    have hno : lostL xs ys = xs := by
      unfold lostL
      exact List.filter_eq_self.2 (fun x hx => by rw [h2 x hx]; rfl)
    rw [hno]
    clear h1 h2 hno hc
    go_enter Tryd.func142, Tryd.ntmps142
    go_wp2_with (fail)
    refine (HI.out).mono ?_
    rintro e w1 ⟨rfl, rfl⟩
    go_wp2_with (fail)
    go_ret
    exact ⟨rfl, hown, Below.refl _ _⟩
  · rw [h1] at HI
    rw [Nat.zero_add] at HI
    obtain ⟨g0, o0, rfl, hg0, hg0l, -, -⟩ := hown.at_ hi
    have H0 := Lib.hid (show xs.take i0 = lostL (xs.take (i0 + 1)) ys by
      rw [lostL_snoc xs ys i0 hi, if_pos h2, List.append_nil]
      unfold lostL
      exact (List.filter_eq_self.2 (fun x hx => by rw [h3 x hx]; rfl)).symm)
    have hne : ¬ ((i0 : Int) = -1) := by omega
    clear h1 h2 h3
    go_enter Tryd.func142, Tryd.ntmps142
    go_wp2_with (fail)
    refine (HI.out).mono ?_
    rintro e w1 ⟨rfl, rfl⟩
    go_wp2_with (fail)
    go_loopg [5, 6] xs.length (fun g vi vj wr => ∃ (i j : Nat) (cur : List Int), j + g = xs.length + i0 + 1 ∧ vi = .int .i64 i ∧ vj = .int .i64 j ∧ i < j ∧ j ≤ xs.length ∧ cur.length = xs.length ∧ cur.take i = lostL (xs.take j) ys ∧ cur.drop j = xs.drop j ∧ OI wr (fun g => B ≤ g ∧ g < M) (some ⟨g0, o0, none⟩) c cur ∧ Below B w wr ∧ wr.cell? ⟨bs, 0, none⟩ = some (.slice V ys.length cv) ∧ SI wr (fun g => M ≤ g) V ys)
    case atStart => exact ⟨i0, i0 + 1, xs, by omega, rfl, by go_num, by omega, by omega, rfl, H0.out, rfl, hown, Below.refl _ _, hc, hv⟩
    case round =>
      clear hown hc hv HI H0 hi
      obtain ⟨a, j, cur, hj, rfl, rfl, haj, hjx, hcl, h4, h5, hoc, hbel, hcb, hsv⟩ := hrel
      have Hj := Lib.hid hj
      have Hcl := Lib.hid hcl
      have H4 := Lib.hid h4
      have H5 := Lib.hid h5
      clear hj hcl h4 h5 hne
      by_cases hlt : j < xs.length
      · have hjc : j < cur.length := by rw [Hcl.out]; exact hlt
        have hac : a < cur.length := by omega
        have hcj : cur[j] = xs[j] := by
          have := congrArg (fun l => l[0]?) H5.out
          simp only [List.getElem?_drop, Nat.add_zero, List.getElem?_eq_getElem hjc, List.getElem?_eq_getElem hlt] at this
          exact Option.some.inj this
        obtain ⟨g1, o1, e1, -, -, q, -⟩ := hoc.at_ hjc
        injection e1 with e1
        injection e1 with e1 e2
        subst e1 e2
        obtain ⟨g1, o1, e1, -, -, qa, qf⟩ := hoc.at_ hac
        injection e1 with e1
        injection e1 with e1 e2
        subst e1 e2
        rw [hcj] at q
        have HF := Lib.hid (lost1_any xs[j] bs wr _ V cv ys hcb hsv hyl)
        have Hs := Lib.hid (lostL_snoc xs ys j hlt)
        have hca : cur[a] = cur[a] := rfl
        clear hcj
        go_wp2_with (fail)
        refine (HF.out).mono ?_
        rintro e w' ⟨rfl, rfl⟩
        clear HF
        generalize ys.contains xs[j] = eb at *
        have Hd := Lib.hid (show cur.drop (j + 1) = xs.drop (j + 1) by rw [← List.drop_drop, H5.out, List.drop_drop])
        cases eb
        · have Ht := Lib.hid (show (cur.set a xs[j]).take (a + 1) = lostL (xs.take (j + 1)) ys by
            rw [Hs.out, ← H4.out, if_neg (by decide), List.take_succ_eq_append_getElem (by rw [List.length_set]; exact hac), List.take_set_of_le (Nat.le_refl _), List.getElem_set_self])
          have Hd2 := Lib.hid (show (cur.set a xs[j]).drop (j + 1) = xs.drop (j + 1) by rw [List.drop_set_of_lt (by omega), Hd.out])
          have hol := hg0
          generalize xs[j] = xj at *
          go_wp2_with (fail)
          go_roundg (gk - 1)
          case measure => have := Hj.out; omega
          case rel => exact ⟨a + 1, j + 1, cur.set a xj, by have := Hj.out; omega, by go_num, by go_num, by omega, by omega, by rw [List.length_set]; exact Hcl.out, Ht.out, Hd2.out, hoc.set a xj, hbel.setCell (p := ⟨g0, _, none⟩) hg0.1 _, (Kept.setCell (S := fun g => M ≤ g) (p := ⟨g0, o0 + a, none⟩) (by show ¬ M ≤ g0; omega) (.int .i64 xj)).2 bs hbs (World.block_lt_of_cell? _ _ hcb) |> fun h => (World.cell?_of_block h).trans hcb, hsv.keep (Kept.setCell (p := ⟨g0, _, none⟩) (by show ¬ M ≤ g0; omega) _)⟩
        · have Ht := Lib.hid (show cur.take a = lostL (xs.take (j + 1)) ys by rw [Hs.out, ← H4.out, if_pos rfl, List.append_nil])
          go_wp2_with (fail)
          go_roundg (gk - 1)
          case measure => have := Hj.out; omega
          case rel => exact ⟨a, j + 1, cur, by have := Hj.out; omega, rfl, by go_num, by omega, by omega, Hcl.out, Ht.out, Hd.out, hoc, hbel, hcb, hsv⟩
      · have Ht := Lib.hid (show cur.take a = lostL xs ys by rw [H4.out, List.take_of_length_le (by omega)])
        have hax : a < xs.length := by omega
        have hac : a ≤ cur.length := by rw [Hcl.out]; omega
        have Hla := Lib.hid (show (lostL xs ys).length = a by rw [← Ht.out, List.length_take]; omega)
        have hcell : ∀ t, t < xs.length - a → wr.cell? ⟨g0, o0 + a + t, none⟩ ≠ none ∧ wr.frozen? ⟨g0, o0 + a + t, none⟩ = false := by
          intro t ht
          obtain ⟨g1, o1, e1, -, -, q, qf⟩ := hoc.at_ (k := a + t) (by rw [Hcl.out]; omega)
          injection e1 with e1
          injection e1 with e1 e2
          subst e1 e2
          rw [Nat.add_assoc]
          exact ⟨by rw [q]; simp, qf⟩
        obtain ⟨i1, hi1, hz0, hz1, hz2⟩ := info_parts intInfo
        have hclr : ∀ ty, (Builtin.clear_ #[22] ty #[.slice (some ⟨g0, o0 + a, none⟩) (xs.length - a) (c - a)]).run Tryd.prog wr = .ok (.tuple #[]) (wr.setCells g0 (o0 + a) (List.replicate (xs.length - a) (.int .i64 0))) :=
          fun ty => Lib.run_clear_slice wr _ _ ty (.int .i64 0) Tryd.underlying22 (fun w => by simp [zeroValue, typeInfo, hi1, hz0]) rfl rfl g0 (o0 + a) _ _ (by omega) (fun t ht => by have := (hcell t ht).1; cases h : wr.cell? ⟨g0, o0 + a + t, none⟩ with | none => exact absurd h this | some v => rfl) (fun t ht => (hcell t ht).2)
        obtain ⟨cur', k1, k2, k3⟩ := OI.clear (List.replicate (xs.length - a) 0) a wr cur hoc
        have Hk2 := Lib.hid (show cur'.take a = lostL xs ys by rw [k2, Ht.out])
        have Hb := Lib.hid (Below.setCells (B := B) (b := g0) hg0.1 (List.replicate (xs.length - a) (.int .i64 0)) (o0 + a) wr hbel)
        have k4 := k3.front a
        rw [Hk2.out, ints, List.map_replicate] at k4
        have K4 := Lib.hid k4
        have hcc := hoc.cap
        have hac' : a ≤ c := by omega
        have hca' : ¬ c = a := by have := Hcl.out; omega
        clear k1 k2 k3 k4 hcell hi1 hz0 hz1 hz2
        go_wp2_with (fail)
        go_ret
        refine ⟨?_, K4.out, Hb.out⟩
        rw [Hla.out]
        rfl

def lostE (ns : List Node) (ds : List Dev) (s t : List Int) : List Int × Int × Int :=
  if maskC isPos ns ds s ≠ 0 then ([], 0, maskC isPos ns ds s) else if maskC isPos ns ds t ≠ 0 then ([], 0, maskC isPos ns ds t) else (lostL (supL ns ds s) (supL ns ds t), custF ns (lostL (supL ns ds s) (supL ns ds t)), 0)
/-- A call hands back a new slice of ints, a number and an error. -/
def RetIIE (w : World) (r : List Int × Int × Int) (e : Ending) (w' : World) : Prop :=
  ∃ A c, e = .returned (.tuple #[.slice A r.1.length c, .int .i64 r.2.1, .int .i64 r.2.2]) ∧ OI w' (fun g => w.heap.size ≤ g) A c r.1 ∧ Below w.heap.size w w'

set_option maxHeartbeats 2000000 in
theorem Lost_any (w : World) (h : TabC w) (ht : Tab w) (S : Nat → Prop) (A1 A2 : Option Addr) (c1 c2 : Nat) (ns : List Node) (ds : List Dev) (hn : NetIn w S A1 A2 ns ds) (hl1 : ns.length ≤ 65536) (hl2 : ds.length ≤ 65536)
    (U : Option Addr) (cu : Nat) (s : List Int) (hs : SI w S U s) (hsl : s.length ≤ 65536) (V : Option Addr) (cv : Nat) (t : List Int) (hs2 : SI w S V t) (hsl2 : t.length ≤ 65536) :
    Calls Tryd.prog 79 #[.agg #[.slice A1 ns.length c1, .slice A2 ds.length c2], .slice U s.length cu, .slice V t.length cv] w (RetIIE w (lostE ns ds s t)) := by
  have hb := (Below.refl w.heap.size w).alloc (Nat.le_refl _) (.cells #[.slice A1 ns.length c1, .slice A2 ds.length c2] 26)
  have HC := Supplied_any _ (h.below hb) (ht.below hb) S A1 A2 c1 c2 ns ds (hn.below hb) hl1 hl2 U cu s (hs.keep (Kept.of_below hb)) hsl
  have HC2 := fun (w' : World) (hb : Below w.heap.size w w') => Supplied_any w' (h.below hb) (ht.below hb) S A1 A2 c1 c2 ns ds (hn.below hb) hl1 hl2 V cv t (hs2.keep (Kept.of_below hb)) hsl2
  have HE := Lib.hid (show lostE ns ds s t = if maskC isPos ns ds s ≠ 0 then ([], 0, maskC isPos ns ds s) else if maskC isPos ns ds t ≠ 0 then ([], 0, maskC isPos ns ds t) else (lostL (supL ns ds s) (supL ns ds t), custF ns (lostL (supL ns ds s) (supL ns ds t)), 0) from rfl)
  have HZ := Lib.hid (@maskC_zero isPos ns ds s)
  have hla := supL_len ns ds s
  have hlb := supL_len ns ds t
  have HA := Lib.hid (supL_in ns ds s)
  unfold suppliedE at HC HC2
  generalize maskC isPos ns ds s = ce at *
  generalize maskC isPos ns ds t = cf at *
  generalize supL ns ds s = la at *
  generalize supL ns ds t = lb at *
  by_cases h0 : (ce != 0) = true
  · have H0 := Lib.hid (show ¬ ce = 0 by simpa using h0)
    rw [if_pos H0.out] at HC
    have HC := Lib.hid HC
    go_enter Tryd.func79, Tryd.ntmps79
    go_wp2_with (fail)
    refine (HC.out).mono ?_
    rintro e w1 ⟨A, c, rfl, ho1, hb1⟩
    go_wp2_with (fail)
    go_ret3
    rw [HE.out, if_pos H0.out]
    exact ⟨none, 0, rfl, OI.nil _ _, hb.trans (hb1.mono hb.size)⟩
  · have h0' : (ce != 0) = false := by simpa using h0
    have hz : ce = 0 := by simpa using h0
    rw [if_neg (by simpa using hz)] at HE HC
    have HC := Lib.hid HC
    obtain ⟨z1, z2, z3⟩ := HZ.out hz
    have HN := Lib.hid (checkL_cust z1)
    clear h0 h0' hz HZ z1 z2 z3
    by_cases h0 : (cf != 0) = true
    · have H0 := Lib.hid (show ¬ cf = 0 by simpa using h0)
      simp only [if_pos H0.out] at HC2
      rw [if_pos H0.out] at HE
      have HC2 := Lib.hid HC2
      go_enter Tryd.func79, Tryd.ntmps79
      go_wp2_with (fail)
      refine (HC.out).mono ?_
      rintro e w1 ⟨A, c, rfl, ho1, hb1⟩
      have hbA := hb.trans (hb1.mono hb.size)
      have Hbox := Lib.hid (box_at hb1)
      have n0 : w1.cell? ⟨w.heap.size, 0, none⟩ = some (.slice A1 ns.length c1) := by rw [cell_of_row w1 _ 0 _ _ _ Hbox.out]; rfl
      have n1 : w1.cell? ⟨w.heap.size, 1, none⟩ = some (.slice A2 ds.length c2) := by rw [cell_of_row w1 _ 1 _ _ _ Hbox.out]; rfl
      go_wp2_with (fail)
      refine (HC2.out w1 hbA).mono ?_
      rintro e w2 ⟨A', c', rfl, ho2, hb2⟩
      go_wp2_with (fail)
      go_ret3
      rw [HE.out]
      exact ⟨none, 0, rfl, OI.nil _ _, (hbA.trans (hb2.mono hbA.size)).alloc (by have := hbA.size; have := hb2.size; omega) _⟩
    · have h0' : (cf != 0) = false := by simpa using h0
      have hz : cf = 0 := by simpa using h0
      rw [if_neg (by simpa using hz)] at HE
      simp only [ne_eq, hz, not_true_eq_false, if_false] at HC2
      have HC2 := Lib.hid HC2
      clear h0 hz
      go_enter Tryd.func79, Tryd.ntmps79
      go_wp2_with (fail)
      refine (HC.out).mono ?_
      rintro e w1 ⟨A, c, rfl, ho1, hb1⟩
      have hbA := hb.trans (hb1.mono hb.size)
      have Hbox := Lib.hid (box_at hb1)
      have n0 : w1.cell? ⟨w.heap.size, 0, none⟩ = some (.slice A1 ns.length c1) := by rw [cell_of_row w1 _ 0 _ _ _ Hbox.out]; rfl
      have n1 : w1.cell? ⟨w.heap.size, 1, none⟩ = some (.slice A2 ds.length c2) := by rw [cell_of_row w1 _ 1 _ _ _ Hbox.out]; rfl
      go_wp2_with (fail)
      refine (HC2.out w1 hbA).mono ?_
      rintro e w2 ⟨A', c', rfl, ho2, hb2⟩
      have hbB := hbA.trans (hb2.mono hbA.size)
      have hbC := (Below.refl w2.heap.size w2).alloc (Nat.le_refl _) (.cells #[.slice A' lb.length c'] 22)
      have hs1 := hbA.size
      have hs2' := hb2.size
      have HD := Lib.hid (deleteLost_any _ (w.heap.size + 1) w1.heap.size A c la
        (((ho1.mono (T := fun g => w.heap.size + 1 ≤ g ∧ g < w1.heap.size) (fun g hl hg => ⟨by simpa using hg, hl⟩)).keep (Kept.of_below hb2)).keep (Kept.of_below hbC)) (by omega) w2.heap.size hs2' A' c' lb (new_cell w2 _ _)
        ((OI.si ho2).keep (Kept.of_below hbC)) (by omega))
      clear Hbox ho1 ho2 HC HC2
      go_wp2_with (fail)
      refine (HD.out).mono ?_
      rintro e w3 ⟨rfl, ho3, hb3⟩
      have hb4 := (hbB.alloc (by omega) (.cells #[.slice A' lb.length c'] 22)).trans (hb3.mono (by omega))
      have m0 : w3.cell? ⟨w.heap.size, 0, none⟩ = some (.slice A1 ns.length c1) := (hb3.cell (p := ⟨w.heap.size, 0, none⟩) (by show w.heap.size < w.heap.size + 1; omega)).trans ((hbC.cell (p := ⟨w.heap.size, 0, none⟩) (by have := World.block_lt_of_cell? _ _ n0; simp at this; show w.heap.size < w2.heap.size; omega)).trans ((hb2.cell (p := ⟨w.heap.size, 0, none⟩) (World.block_lt_of_cell? _ _ n0)).trans n0))
      have m1 : w3.cell? ⟨w.heap.size, 1, none⟩ = some (.slice A2 ds.length c2) := (hb3.cell (p := ⟨w.heap.size, 1, none⟩) (by show w.heap.size < w.heap.size + 1; omega)).trans ((hbC.cell (p := ⟨w.heap.size, 1, none⟩) (by have := World.block_lt_of_cell? _ _ n0; simp at this; show w.heap.size < w2.heap.size; omega)).trans ((hb2.cell (p := ⟨w.heap.size, 1, none⟩) (World.block_lt_of_cell? _ _ n1)).trans n1))
      have hll := lostL_len la lb
      have HQ := Lib.hid (customers_any w3 S _ A1 A2 c1 c2 ns ds (hn.below hb4) HN.out A c (lostL la lb) (OI.si ho3) (by omega) (lostL_in HA.out))
      clear n0 n1 HD hll
      generalize lostL la lb = ll at *
      go_wp2_with (fail)
      refine (HQ.out).mono ?_
      rintro e w4 ⟨rfl, hb5⟩
      go_wp2_with (fail)
      go_ret3
      rw [HE.out]
      exact ⟨A, c, rfl, (ho3.keep (Kept.of_below hb5)).mono (fun x _ hx => by show w.heap.size ≤ x; have := hx.1; omega), hb4.trans (hb5.mono hb4.size)⟩
end Go.Proofs.YtgpcojmdfmngeaaDoor

namespace Go.Proofs.YtgpcojmdfmngeaaDoor
open Go.RowKit
set_option maxHeartbeats 400000
set_option maxRecDepth 100000

theorem Supplied_len (w : World) (h : TabC w) (ht : Tab w) (S : Nat → Prop) (A1 A2 : Option Addr) (c1 c2 : Nat) (ns : List Node) (ds : List Dev) (hn : NetIn w S A1 A2 ns ds) (hc : checkL ns ds = 0)
    (U : Option Addr) (m cu : Nat) (st : List Int) (hm : m = st.length) (hs : SI w S U st) (hl : st.length = ds.length) (hp : ∀ x ∈ st, x = 1 ∨ x = 2) :
    Calls Tryd.prog 96 #[.agg #[.slice A1 ns.length c1, .slice A2 ds.length c2], .slice U m cu] w (RetIE w (supL ns ds st, 0)) := by
  have hD := checkL_zero hc
  have HA := Supplied_any w h ht S A1 A2 c1 c2 ns ds hn (by have := hD.few; omega) (by have := hD.dev; omega) U cu st hs (by have := hD.dev; omega)
  unfold suppliedE at HA
  rw [mask_ok hc hl hp, if_neg (by simp)] at HA
  subst hm
  exact HA
theorem Customers_len (w : World) (h : TabC w) (ht : Tab w) (S : Nat → Prop) (A1 A2 : Option Addr) (c1 c2 : Nat) (ns : List Node) (ds : List Dev) (hn : NetIn w S A1 A2 ns ds) (hc : checkL ns ds = 0)
    (U : Option Addr) (m cu : Nat) (st : List Int) (hm : m = st.length) (hs : SI w S U st) (hl : st.length = ds.length) (hp : ∀ x ∈ st, x = 1 ∨ x = 2) :
    Calls Tryd.prog 98 #[.agg #[.slice A1 ns.length c1, .slice A2 ds.length c2], .slice U m cu] w (RetPair w (custF ns (supL ns ds st), 0)) := by
  have hD := checkL_zero hc
  have HA := Customers_any w h ht S A1 A2 c1 c2 ns ds hn (by have := hD.few; omega) (by have := hD.dev; omega) U cu st hs (by have := hD.dev; omega)
  unfold suppliedE at HA
  rw [mask_ok hc hl hp, if_neg (by simp)] at HA
  subst hm
  exact HA
theorem Lost_len (w : World) (h : TabC w) (ht : Tab w) (S : Nat → Prop) (A1 A2 : Option Addr) (c1 c2 : Nat) (ns : List Node) (ds : List Dev) (hn : NetIn w S A1 A2 ns ds) (hc : checkL ns ds = 0)
    (U : Option Addr) (m cu : Nat) (st : List Int) (hm : m = st.length) (hs : SI w S U st) (hl : st.length = ds.length) (hp : ∀ x ∈ st, x = 1 ∨ x = 2)
    (V : Option Addr) (m2 cv : Nat) (tt : List Int) (hm2 : m2 = tt.length) (hs2 : SI w S V tt) (hl2 : tt.length = ds.length) (hp2 : ∀ x ∈ tt, x = 1 ∨ x = 2) :
    Calls Tryd.prog 79 #[.agg #[.slice A1 ns.length c1, .slice A2 ds.length c2], .slice U m cu, .slice V m2 cv] w (RetIIE w (lostL (supL ns ds st) (supL ns ds tt), custF ns (lostL (supL ns ds st) (supL ns ds tt)), 0)) := by
  have hD := checkL_zero hc
  have HA := Lost_any w h ht S A1 A2 c1 c2 ns ds hn (by have := hD.few; omega) (by have := hD.dev; omega) U cu st hs (by have := hD.dev; omega) V cv tt hs2 (by have := hD.dev; omega)
  unfold lostE at HA
  rw [mask_ok hc hl hp, mask_ok hc hl2 hp2, if_neg (by simp), if_neg (by simp)] at HA
  subst hm hm2
  exact HA

def awN11 : List Node := [⟨⟨#[65]⟩, 0, 0⟩, ⟨⟨#[66]⟩, 10, 0⟩]
def awD11 : List Dev := [⟨⟨#[83]⟩, 5, 0, -1, 0⟩, ⟨⟨#[81]⟩, 2, 0, 1, 0⟩]
theorem aw11_cus : (custF awN11 (supL awN11 awD11 [2, 2]), (0 : Int)) = (10, 0) := by decide +kernel
theorem aw11_chk : checkL awN11 awD11 = 0 := by decide +kernel
theorem aw11_lst : (lostL (supL awN11 awD11 [2, 2]) (supL awN11 awD11 [2, 1]), custF awN11 (lostL (supL awN11 awD11 [2, 2]) (supL awN11 awD11 [2, 1])), (0 : Int)) = ([1], 10, 0) := by decide +kernel

set_option maxHeartbeats 2000000 in
theorem awake11 (w : World) (h : TabC w) (ht : Tab w) : Calls Tryd.prog 76 #[] w (RetT w) := by
  go_enter Tryd.func76, Tryd.ntmps76
  go_wp2_with (fail)
  obtain ⟨e1, e2, e3, e4, ez, eb⟩ := four w (.cells (nodesV awN11).toArray 104) (.cells (devsV awD11).toArray 78) (.cells #[.slice (some ⟨w.heap.size, 0, none⟩) 2 2, .slice (some ⟨w.heap.size + 1, 0, none⟩) 2 2] 26) (.cells (ints [2, 2]).toArray 3)
  obtain ⟨W, hW⟩ : ∃ W, W = ((((w.alloc (.cells (nodesV awN11).toArray 104)).alloc (.cells (devsV awD11).toArray 78)).alloc (.cells #[.slice (some ⟨w.heap.size, 0, none⟩) 2 2, .slice (some ⟨w.heap.size + 1, 0, none⟩) 2 2] 26)).alloc (.cells (ints [2, 2]).toArray 3)) := ⟨_, rfl⟩
  rw [← hW] at e1 e2 e3 e4 ez eb
  have hin : NetIn W (fun _ => True) (some ⟨w.heap.size, 0, none⟩) (some ⟨w.heap.size + 1, 0, none⟩) awN11 awD11 := ⟨SV.block e1, SV.block e2, by decide, by decide⟩
  have hu : SI W (fun _ => True) (some ⟨w.heap.size + 1 + 1 + 1, 0, none⟩) [2, 2] := SV.block e4
  have HC := Customers_len W (h.below eb) (ht.below eb) _ _ _ 2 2 awN11 awD11 hin aw11_chk _ 2 2 [2, 2] rfl hu rfl (by decide)
  rw [aw11_cus] at HC
  have n0 : W.cell? ⟨w.heap.size + 1 + 1, 0, none⟩ = some (.slice (some ⟨w.heap.size, 0, none⟩) 2 2) := by rw [cell_of_row W _ 0 _ _ _ e3]; rfl
  have n1 : W.cell? ⟨w.heap.size + 1 + 1, 1, none⟩ = some (.slice (some ⟨w.heap.size + 1, 0, none⟩) 2 2) := by rw [cell_of_row W _ 1 _ _ _ e3]; rfl
  show Calls _ _ _ (((((w.alloc (.cells (nodesV awN11).toArray 104)).alloc (.cells (devsV awD11).toArray 78)).alloc (.cells #[.slice (some ⟨w.heap.size, 0, none⟩) 2 2, .slice (some ⟨w.heap.size + 1, 0, none⟩) 2 2] 26)).alloc (.cells (ints [2, 2]).toArray 3))) _
  rw [← hW]
  clear hW e1 e2 e3 e4 ez
  refine HC.mono ?_
  rintro e w1 ⟨rfl, hb1⟩
  clear HC
  have hb1' := eb.trans (hb1.mono eb.size)
  have m0 : w1.cell? ⟨w.heap.size + 1 + 1, 0, none⟩ = some (.slice (some ⟨w.heap.size, 0, none⟩) 2 2) := (hb1.cell (p := ⟨w.heap.size + 1 + 1, 0, none⟩) (World.block_lt_of_cell? _ _ n0)).trans n0
  have m1 : w1.cell? ⟨w.heap.size + 1 + 1, 1, none⟩ = some (.slice (some ⟨w.heap.size + 1, 0, none⟩) 2 2) := (hb1.cell (p := ⟨w.heap.size + 1 + 1, 1, none⟩) (World.block_lt_of_cell? _ _ n1)).trans n1
  have hin1 := hin.below hb1
  have hbA := (Below.refl w1.heap.size w1).alloc (Nat.le_refl _) (.cells (ints [2, 2]).toArray 3)
  obtain ⟨wA, hwA⟩ : ∃ x, x = w1.alloc (.cells (ints [2, 2]).toArray 3) := ⟨_, rfl⟩
  have hzA : wA.heap.size = w1.heap.size + 1 := by rw [hwA]; simp
  have hbB := (Below.refl wA.heap.size wA).alloc (Nat.le_refl _) (.cells (ints [2, 1]).toArray 3)
  have sA : SI wA (fun _ => True) (some ⟨w1.heap.size, 0, none⟩) [2, 2] := by rw [hwA]; exact (OI.lit w1 [2, 2] (by decide)).si.mono (fun _ _ _ => trivial)
  have sB : SI (wA.alloc (.cells (ints [2, 1]).toArray 3)) (fun _ => True) (some ⟨w1.heap.size + 1, 0, none⟩) [2, 1] := by rw [← hzA]; exact (OI.lit wA [2, 1] (by decide)).si.mono (fun _ _ _ => trivial)
  rw [← hwA] at hbA
  have hb2' := (hb1'.trans (hbA.mono hb1'.size))
  have hb3' := hb2'.trans (hbB.mono hb2'.size)
  have HF := Lost_len _ (h.below hb3') (ht.below hb3') _ _ _ 2 2 awN11 awD11 ((hin1.below hbA).below hbB) aw11_chk _ 2 2 [2, 2] rfl (sA.keep (Kept.of_below hbB)) rfl (by decide) _ 2 2 [2, 1] rfl sB rfl (by decide)
  rw [aw11_lst] at HF
  have HF := Lib.hid HF
  rw [hwA] at HF
  clear n0 n1 hin hu sA sB
  go_wp2_with (fail)
  refine HF.out.mono ?_
  rintro e w2 ⟨A', c', rfl, ho2, hb2⟩
  rw [← hwA] at hb2 ho2
  have hb4' := hb3'.trans (hb2.mono hb3'.size)
  clear m0 m1 hin1 HF
  have hbC := (Below.refl w2.heap.size w2).alloc (Nat.le_refl _) (.cells (ints [1]).toArray 3)
  have HI := ints_any _ (fun _ => True) (fun _ => True) A' (some ⟨w2.heap.size, 0, none⟩) c' 1 [1] [1] (((OI.si ho2).keep (Kept.of_below hbC)).mono (fun _ _ _ => trivial)) ((OI.lit w2 [1] (by decide)).si.mono (fun _ _ _ => trivial)) (by decide) (by decide)
  rw [show decide (([1] : List Int) = [1]) = true by decide] at HI
  have HI := Lib.hid HI
  go_wp2_with (fail)
  refine HI.out.mono ?_
  rintro e w3 ⟨rfl, nq, rfl⟩
  go_wp2_with (fail)
  go_ret
  exact ⟨rfl, (hb4'.trans (hbC.mono hb4'.size)).trans (below_drewN _ _ nq)⟩
end Go.Proofs.YtgpcojmdfmngeaaDoor

/-
  Walk: All.
-/
import Derived.Test.YtgpcojmdfmngeaaDoorGa
namespace Go.Proofs.YtgpcojmdfmngeaaDoor
open Go.RowKit
set_option maxHeartbeats 400000
set_option maxRecDepth 100000

/-- A slice of slices of ints that can be read. -/
def SR (w : World) (S : Nat → Prop) (A : Option Addr) (xss : List (List Int)) : Prop :=
  ∃ vs : List Value, vs.length = xss.length ∧ SV w S A vs ∧ ∀ (i : Nat) (xs : List Int), xss[i]? = some xs → ∃ (A' : Option Addr) (c' : Nat), vs[i]? = some (Value.slice A' xs.length c') ∧ xs.length ≤ c' ∧ SI w S A' xs

/-- what a device has in the state with number k, s unknown ones behind it -/
def bitAt (k s : Nat) : Int := 1 + ((k / 2 ^ s % 2 : Nat) : Int)

theorem bitAt_all : ∀ k : Fin 256, ∀ s : Fin 8, wrap64 (1 + bits BinOp.and IntKind.i64 ((k.val : Int) / 2 ^ s.val) 1) = bitAt k.val s.val := by decide +kernel
theorem bitAt_eq (k s : Nat) (hk : k < 256) (hs : s < 8) : wrap64 (1 + bits BinOp.and IntKind.i64 ((k : Int) / 2 ^ s) 1) = bitAt k s := bitAt_all ⟨k, hk⟩ ⟨s, hs⟩

theorem OI.drew {w : World} {S : Nat → Prop} {A : Option Addr} {c : Nat} {xs : List Int} (h : OI w S A c xs) : OI w.drew S A c xs := h
theorem OV.drew {w : World} {S : Nat → Prop} {e : TypeId} {size n : Nat} {A : Option Addr} {c : Nat} {xs : List Value} (h : OV w S e size A n c xs) : OV w.drew S e size A n c xs := h
theorem set_tail {α : Type} (vs : List α) (k m : Nat) (z v : α) (h : vs.length = k) (hm : 0 < m) : (vs ++ List.replicate m z).set k v = (vs ++ [v]) ++ List.replicate (m - 1) z := by
  subst h
  obtain ⟨m, rfl⟩ : ∃ m', m = m' + 1 := ⟨m - 1, by omega⟩
  rw [List.set_append_right _ _ (Nat.le_refl _), Nat.sub_self, List.replicate_succ, List.set_cons_zero]
  simp

def fillRow (k u : Nat) : List Int → Nat → List Int → List Int
  | [], _, row => row
  | d :: ds, i, row => fillRow k u ds (i + 1) (row.set d.toNat (bitAt k (u - 1 - i)))
theorem fillRow_drop (k u : Nat) (us : List Int) (i : Nat) (row : List Int) (h : i < us.length) : fillRow k u (us.drop i) i row = fillRow k u (us.drop (i + 1)) (i + 1) (row.set us[i].toNat (bitAt k (u - 1 - i))) := by
  rw [List.drop_eq_getElem_cons h]; rfl

def allL (xs : List Int) : List (List Int) := (List.range (2 ^ (unk xs 0).length)).map fun k => fillRow k (unk xs 0).length (unk xs 0) 0 xs

theorem unk_mem : ∀ (xs : List Int) (k : Nat), ∀ d ∈ unk xs k, (k : Int) ≤ d ∧ d < k + xs.length
  | [], _, d, h => by simp [unk] at h
  | m :: ms, k, d, h => by
    simp only [unk] at h
    split at h
    · rcases List.mem_cons.1 h with rfl | h
      · simp; omega
      · have := unk_mem ms (k + 1) d h
        simp; omega
    · have := unk_mem ms (k + 1) d h
      simp; omega

theorem all_cap (w : World) (h : Tab w) (S : Nat → Prop) (A : Option Addr) (c : Nat) (xs : List Int) (hs : SI w S A xs) (hl : xs.length ≤ 65536) (hv : xs.all isMask = true) (h8 : (unk xs 0).length ≤ 8) :
    Calls Tryd.prog 43 #[.slice A xs.length c] w fun e w' => ∃ A' c', e = .returned (.tuple #[.slice A' (allL xs).length c', .int .i64 0]) ∧ SR w' (fun g => w.heap.size ≤ g) A' (allL xs) ∧ Below w.heap.size w w' ∧ (allL xs).length ≤ c' := by
  have hcnt : cnt xs = (((2 ^ (unk xs 0).length : Nat) : Int), 0) := by
    unfold cnt; rw [hv, if_pos rfl, if_neg (by omega)]; simp
  have Hc := count_any w h S A c xs hs hl
  rw [hcnt] at Hc
  have Hc := Lib.hid Hc
  clear hcnt
  have hpow : 2 ^ (unk xs 0).length ≤ 256 := Nat.le_trans (Nat.pow_le_pow_right (by omega) h8) (by decide)
  have Hmem := Lib.hid (unk_mem xs 0)
  have hL : allL xs = (List.range (2 ^ (unk xs 0).length)).map fun k => fillRow k (unk xs 0).length (unk xs 0) 0 xs := rfl
  generalize allL xs = R at *
  generalize hU : unk xs 0 = us at *
  generalize hN : 2 ^ us.length = N at *
  have HU := Lib.hid hU
  have HL := Lib.hid hL
  clear hU hN hL hv
  go_enter Tryd.func43, Tryd.ntmps43
  go_wp2_with (go_at_call 41; (with_reducible refine (Hc.out).mono ?_); rintro e w1 ⟨rfl, hb1⟩)
  have hu := unknown_any w1 S A c xs (hs.keep (Kept.of_below hb1)) hl
  rw [HU.out] at hu
  refine hu.mono ?_
  clear hu
  rintro e w2 ⟨A2, c2, rfl, ho2, hb2⟩
  go_wp2_with (at_make; go_must (refine wpList_makeV rfl (.tmp 21) (.tmp 21) 55 rfl 22 (.slice none 0 0) 24 Tryd.underlying55 (by kernel_rfl) rfl _ _ N rfl rfl (by omega) (by omega) ?_); intro w3 ho3 hb3 hz3)
  have hb12 : Below w.heap.size w w2 := hb1.trans (hb2.mono hb1.size)
  have hb13 : Below w.heap.size w w3 := hb12.trans (hb3.mono hb12.size)
  have hsz2 : w.heap.size ≤ w2.heap.size := hb12.size
  have ho23 : SI w3 (fun g => g < w2.heap.size) A2 us := (ho2.si.mono (T := fun g => g < w2.heap.size) (fun b hb _ => hb)).keep (Kept.of_below hb3)
  have hs3 : SI w3 (fun g => g < w2.heap.size) A xs := by
    have := (hs.mono (T := fun g => g < w.heap.size) (fun b hb _ => hb)).keep (Kept.of_below hb1)
    have := (this.mono (T := fun g => g < w1.heap.size) (fun b hb _ => hb)).keep (Kept.of_below hb2)
    exact (this.mono (T := fun g => g < w2.heap.size) (fun b hb _ => hb)).keep (Kept.of_below hb3)
  have hz3' : w2.heap.size < w3.heap.size := by omega
  clear hz3 hs ho2 hb1 hb2 hb12 Hc h
  generalize hG : w2.heap.size = G at *
  have HG := Lib.hid hG
  clear hG
  go_loopg [24] N (fun g i wr => ∃ (k : Nat) (vs : List Value), k + g = N ∧ i = .int .i64 k ∧ vs.length = k ∧ OV wr (fun g => g = G) 22 1 (some ⟨G, 0, none⟩) N N (vs ++ List.replicate (N - k) (.slice none 0 0)) ∧ Below G w3 wr ∧ G < wr.heap.size ∧
    ∀ i xs, i < k → R[i]? = some xs → ∃ A' c', vs[i]? = some (Value.slice A' xs.length c') ∧ xs.length ≤ c' ∧ SI wr (fun b => G < b) A' xs)
  case atStart =>
    refine ⟨0, [], by omega, rfl, rfl, by simpa using ho3, Below.refl _ _, hz3', fun i xs hi => by omega⟩
  case round =>
    obtain ⟨k, vs, hk, rfl, hvl, hown, hbel, hGr, hrows⟩ := hrel
    have Hk := Lib.hid hk
    have Hvl := Lib.hid hvl
    have Hrows := Lib.hid hrows
    have Hown := Lib.hid hown
    clear hk hvl hrows hown
    have hsr : SI wr (fun g => g < G) A xs := hs3.keep ⟨hbel.size, fun b hb _ => hbel.block b hb⟩
    have hur : SI wr (fun g => g < G) A2 us := ho23.keep ⟨hbel.size, fun b hb _ => hbel.block b hb⟩
    by_cases hlt : k < N
    · go_wp2_with (fail)
      refine (clone_any _ _ A c xs hsr hl).mono ?_
      rintro e w4 ⟨A4, c4, rfl, ho4, hb4⟩
      obtain ⟨wo, rfl⟩ : ∃ wo : World, wo = wr := ⟨_, rfl⟩
      obtain ⟨gko, rfl⟩ : ∃ g : Nat, g = gk := ⟨_, rfl⟩
      have Hbel := Lib.hid hbel
      have hown4 := Hown.out.keep (w' := w4) ⟨hb4.size, fun b hb hlt => hb4.block b hlt⟩
      have hlen4 : k < (vs ++ List.replicate (N - k) (Value.slice none 0 0)).length := by simp [Hvl.out]; omega
      obtain ⟨g0, off0, e0, hg0, hlt0, hc0, hf0⟩ := hown4.cell hlen4
      injection e0 with e0
      injection e0 with e0 e1
      subst e0
      subst e1
      simp only [Nat.zero_add] at hc0 hf0
      have hset := hown4.set k (.slice A4 xs.length c4)
      rw [Nat.zero_add] at hset
      have Hset := Lib.hid hset
      have Hown4 := Lib.hid hown4
      clear hset hown4 hg0
      have hcc : ∃ v0, w4.cell? ⟨G, k, none⟩ = some v0 := ⟨_, hc0⟩
      clear hc0 hlen4
      obtain ⟨v0, hc0⟩ := hcc
      have hGo : G < wo.heap.size := hGr
      have Hrow5 := Lib.hid (ho4.keep (w' := w4.setCell ⟨G, k, none⟩ (.slice A4 xs.length c4)) (Kept.setCell (by show ¬ wo.heap.size ≤ G; omega) _))
      have Hb5 := Lib.hid (show Below G wo (w4.setCell ⟨G, k, none⟩ (.slice A4 xs.length c4)) from (hb4.mono (Nat.le_of_lt hGo)).setCell (Nat.le_refl _) _)
      have Hk5 := Lib.hid (show Kept (fun b => b < wo.heap.size ∧ b ≠ G) wo (w4.setCell ⟨G, k, none⟩ (.slice A4 xs.length c4)) from
        ⟨Nat.le_trans hb4.size (by simp [World.setCell]), fun b hb _ => (Below.heap_setCell w4 _ _ b hb.2).trans (hb4.block b hb.1)⟩)
      have Hz5 := Lib.hid (show wo.heap.size ≤ (w4.setCell ⟨G, k, none⟩ (.slice A4 xs.length c4)).heap.size from Nat.le_trans hb4.size (by simp [World.setCell]))
      go_wp2_with (fail)
      generalize w4.setCell ⟨G, k, none⟩ (.slice A4 xs.length c4) = w5 at *
      clear hc0 hf0 hlt0 ho4 hb4 hbel hsr Hown Hown4
      have hu5 : SI w5 (fun g => g < G) A2 us := hur.keep ⟨Hb5.out.size, fun b hb _ => Hb5.out.block b hb⟩
      clear hur
      go_loopg [34] us.length (fun g i wr => ∃ (j : Nat) (row : List Int), j + g = us.length ∧ i = .int .i64 j ∧ row.length = xs.length ∧ OI wr (fun g => wo.heap.size ≤ g) A4 c4 row ∧ fillRow k us.length (us.drop j) j row = fillRow k us.length us 0 xs ∧ Below wo.heap.size w5 wr)
      case atStart =>
        exact ⟨0, xs, by omega, rfl, rfl, Hrow5.out, rfl, Below.refl _ _⟩
      case round =>
        obtain ⟨j, row, hj, rfl, hrl, horow, hfill, hb6⟩ := hrel
        have Hj := Lib.hid hj
        have Hrl := Lib.hid hrl
        have Hfill := Lib.hid hfill
        clear hj hrl hfill
        by_cases hltj : j < us.length
        · have hm := Hmem.out us[j] (List.getElem_mem hltj)
          have hu6 : SI wr (fun g => g < G) A2 us := hu5.keep ⟨hb6.size, fun b hb _ => hb6.block b (by omega)⟩
          obtain ⟨b2, off2, rfl, _, _, hcu⟩ := hu6.at_ hltj
          have hfd := fillRow_drop k us.length us j row hltj
          obtain ⟨dn, hdn⟩ : ∃ dn : Nat, us[j] = (dn : Int) := ⟨us[j].toNat, by omega⟩
          rw [hdn] at hcu hm hfd
          have hdl : dn < xs.length := by omega
          have hdr : dn < row.length := by rw [Hrl.out]; exact hdl
          obtain ⟨g4, off4, rfl, hg4, hlt4, hc4, hf4⟩ := horow.at_ hdr
          have hout6 := Hset.out.keep (w' := wr) ⟨hb6.size, fun b hb hlt => hb6.block b (by omega)⟩
          have hlen6 : k < ((vs ++ List.replicate (N - k) (Value.slice none 0 0)).set k (.slice (some ⟨g4, off4, none⟩) xs.length c4)).length := by simp [Hvl.out]; omega
          obtain ⟨_, _, e0, _, _, hco, _⟩ := hout6.cell hlen6
          injection e0 with e0
          injection e0 with e0 e1
          subst e0
          subst e1
          simp only [Nat.zero_add, List.getElem_set_self] at hco
          have Hset6 := Lib.hid (horow.set dn (bitAt k (us.length - 1 - j)))
          have Hfd := Lib.hid hfd
          clear hfd hdn hm hlen6 hout6
          go_wp2_with (fail)
          have hw1 : IntKind.i64.wrap ((us.length : Int) - 1) = (us.length : Int) - 1 := IntWalk.i64_in _ (by omega)
          have hw2 : IntKind.i64.wrap ((us.length : Int) - 1 - (j : Int)) = ((us.length - 1 - j : Nat) : Int) := by rw [IntWalk.i64_in _ (by omega)]; omega
          go_still_tail 15, (by kernel_rfl)
          change wpList _ _ _ _ _ wr.drew
          go_wp2_with (fail)
          have hbv := bitAt_eq k (us.length - 1 - j) (by omega) (by omega)
          have Hbv := Lib.hid hbv
          clear hbv
          go_roundg (gk - 1)
          case measure => have := Hj.out; omega
          case rel =>
            have := Hj.out
            rw [Hbv.out]
            refine ⟨j + 1, row.set dn (bitAt k (us.length - 1 - j)), by omega, by go_num, by rw [List.length_set]; exact Hrl.out, Hset6.out.drew, ?_, (hb6.setCell hg4 _).drew⟩
            rw [← Hfill.out, Hfd.out, Int.toNat_natCast]
        · go_wp2_with (fail)
          have hjl := Hj.out
          have hrow : row = fillRow k us.length us 0 xs := by
            have := Hfill.out
            rw [List.drop_of_length_le (by omega)] at this
            exact this
          go_roundg (gko - 1)
          case measure => have := Hk.out; omega
          case rel =>
            have hkk := Hk.out
            have hR : R[k]? = some row := by
              rw [HL.out, hrow]; simp [hlt]
            have hkeep : Kept (fun b => b < wo.heap.size ∧ b ≠ G) wo wr := Hk5.out.trans ⟨hb6.size, fun b hb _ => hb6.block b hb.1⟩
            refine ⟨k + 1, vs ++ [.slice A4 xs.length c4], by omega, by go_num, by simp [Hvl.out], ?_, (Hbel.out.trans Hb5.out).trans (hb6.mono (Nat.le_of_lt hGo)), by have := hb6.size; have := Hz5.out; omega, fun i ys hi hy => ?_⟩
            · have h1 := Hset.out.keep (w' := wr) ⟨hb6.size, fun b hb hlt => hb6.block b (by omega)⟩
              rw [set_tail _ _ _ _ _ Hvl.out (by omega)] at h1
              rw [show N - (k + 1) = N - k - 1 by omega]
              exact h1
            · by_cases hik : i < k
              · obtain ⟨A', c', e1, e2, e3⟩ := Hrows.out i ys hik hy
                refine ⟨A', c', by rw [List.getElem?_append_left (by rw [Hvl.out]; exact hik)]; exact e1, e2, ?_⟩
                have := (e3.mono (T := fun b => (b < wo.heap.size ∧ b ≠ G)) (fun b hb hG => ⟨hb, by omega⟩)).keep hkeep
                have h2 : SI wr (fun b => b < wo.heap.size ∧ b ≠ G) A' ys := this
                intro hne
                obtain ⟨b, off, f1, f2, f3, f4⟩ := h2 hne
                obtain ⟨b', off', f1', f2', f3', f4'⟩ := e3 hne
                rw [f1] at f1'
                injection f1' with f1'
                injection f1' with f1' _
                subst f1'
                exact ⟨b, off, f1, f2', f3, f4⟩
              · obtain rfl : i = k := by omega
                rw [hR] at hy
                injection hy with hy
                subst hy
                refine ⟨A4, c4, by rw [List.getElem?_append_right (by rw [Hvl.out]; exact Nat.le_refl _), Hvl.out, Hrl.out]; simp, horow.cap.1, horow.si.mono (fun b _ hb => by omega)⟩
    · go_wp2_with (fail)
      go_ret2
      have hkk := Hk.out
      have hkN : k = N := by omega
      have hRl : R.length = N := by rw [HL.out]; simp
      refine ⟨some ⟨G, 0, none⟩, N, by rw [hRl]; rfl, ⟨vs, by rw [Hvl.out, hRl]; exact hkN, ?_, fun i ys hy => ?_⟩, ?_, by rw [hRl]; exact Nat.le_refl _⟩
      · have h1 := Hown.out.sv
        rw [hkN, Nat.sub_self] at h1
        simp only [List.replicate_zero, List.append_nil] at h1
        exact h1.mono (fun b _ hb => by omega)
      · have hi : i < N := by rw [← hRl]; exact (List.getElem?_eq_some_iff.1 hy).1
        obtain ⟨A', c', e1, e2, e3⟩ := Hrows.out i ys (by omega) hy
        exact ⟨A', c', e1, e2, e3.mono (fun b _ hb => by omega)⟩
      · exact hb13.trans (hbel.mono hsz2)
theorem all_any (w : World) (h : Tab w) (S : Nat → Prop) (A : Option Addr) (c : Nat) (xs : List Int) (hs : SI w S A xs) (hl : xs.length ≤ 65536) (hv : xs.all isMask = true) (h8 : (unk xs 0).length ≤ 8) :
    Calls Tryd.prog 43 #[.slice A xs.length c] w fun e w' => ∃ A' c', e = .returned (.tuple #[.slice A' (allL xs).length c', .int .i64 0]) ∧ SR w' (fun g => w.heap.size ≤ g) A' (allL xs) ∧ Below w.heap.size w w' :=
  (all_cap w h S A c xs hs hl hv h8).mono fun _ _ ⟨A', c', h1, h2, h3, _⟩ => ⟨A', c', h1, h2, h3⟩
end Go.Proofs.YtgpcojmdfmngeaaDoor

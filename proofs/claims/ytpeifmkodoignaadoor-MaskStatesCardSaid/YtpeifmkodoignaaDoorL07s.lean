/-
  The law ColourSources, walked.
-/
import Derived.Test.YtpeifmkodoignaaDoorL07a
import Derived.Test.YtpeifmkodoignaaDoorPCol
import Derived.Test.YtpeifmkodoignaaDoorMk
import Derived.Test.YtpeifmkodoignaaDoorRChk3
import Derived.Test.YtpeifmkodoignaaDoorObs
import Derived.BigQuiet
namespace Go.Proofs.YtpeifmkodoignaaDoor
open Go.RowKit
set_option maxHeartbeats 400000
set_option maxRecDepth 100000

def mixL (Z X : List Int) (k : Nat) : List Int := Z.take k ++ X.drop k
theorem mixL_len {Z X : List Int} (h : Z.length = X.length) (k : Nat) : (mixL Z X k).length = X.length := by
  simp [mixL]; omega
theorem mixL_get {Z X : List Int} (h : Z.length = X.length) (k i : Nat) (hi : i < X.length) : (mixL Z X k)[i]'(by rw [mixL_len h]; exact hi) = if i < k then Z[i]'(by omega) else X[i] := by
  unfold mixL
  rw [List.getElem_append]
  by_cases hik : i < k
  · rw [dif_pos (by simp; omega), if_pos hik, List.getElem_take]
  · rw [dif_neg (by simp; omega), if_neg hik, List.getElem_drop]
    congr 1
    simp
    omega
theorem mixL_at {Z X : List Int} (h : Z.length = X.length) (k : Nat) (hk : k < X.length) : (mixL Z X k)[k]'(by rw [mixL_len h]; exact hk) = X[k] := by
  rw [mixL_get h k k hk, if_neg (by omega)]
theorem mixL_set {Z X : List Int} (h : Z.length = X.length) (k : Nat) (hk : k < X.length) : (mixL Z X k).set k (Z[k]'(by omega)) = mixL Z X (k + 1) := by
  refine List.ext_getElem (by rw [List.length_set, mixL_len h, mixL_len h]) (fun i h1 h2 => ?_)
  have hi : i < X.length := by rw [mixL_len h] at h2; exact h2
  rw [List.getElem_set, mixL_get h k i hi, mixL_get h (k + 1) i hi]
  by_cases e : k = i
  · subst e; rw [if_pos rfl, if_pos (by omega)]
  · rw [if_neg e]
    by_cases hik : i < k
    · rw [if_pos hik, if_pos (by omega)]
    · rw [if_neg hik, if_neg (by omega)]
theorem mixL_same {Z X : List Int} (h : Z.length = X.length) (k : Nat) (hk : k < X.length) (e : Z[k]'(by omega) = X[k]) : mixL Z X k = mixL Z X (k + 1) := by
  rw [← mixL_set h k hk, e, ← mixL_at h k hk, List.set_getElem_self]
theorem mixL_all {Z X : List Int} (h : Z.length = X.length) (k : Nat) (hk : X.length ≤ k) : mixL Z X k = Z := by
  unfold mixL
  rw [List.take_of_length_le (by omega), List.drop_of_length_le hk, List.append_nil]
theorem mixL_zero (Z X : List Int) : mixL Z X 0 = X := rfl

theorem LS.state {w W W' : World} {M gn : Nat} {A1 A2 : Option Addr} {c1 c2 : Nat} {ns : List Node} {ds : List Dev} (h : LS w W M gn A1 c1 ns A2 c2 ds) (hf : Fr W.heap.size w.heap.size W W') (hd : Deck W' w.heap.size) : LS w W' M gn A1 c1 ns A2 c2 ds :=
  h.fr ⟨hf.os, hf.tape, hf.output, hf.size, fun k hk hn => hf.block k (by have := h.top; omega) hn⟩ hd

theorem Colours_len (w : World) (h : TabC w) (ht : Tab w) (S : Nat → Prop) (A1 A2 : Option Addr) (c1 c2 : Nat) (ns : List Node) (ds : List Dev) (hn : NetIn w S A1 A2 ns ds) (hc : checkL ns ds = 0)
    (U : Option Addr) (m cu : Nat) (st : List Int) (hm : m = st.length) (hs : SI w S U st) (hl : st.length = ds.length) (hp : ∀ x ∈ st, x = 1 ∨ x = 2) :
    Calls Tryd.prog 32 #[.agg #[.slice A1 ns.length c1, .slice A2 ds.length c2], .slice U m cu] w fun e w' =>
      ∃ A c, e = .returned (.tuple #[.slice A ns.length c, .int .i64 0]) ∧ SI w' (fun _ => True) A (colL ds st (partsL ns.length ds st)) ∧ Below w.heap.size w w' := by
  have hD := checkL_zero hc
  have HA := Colours_any w h ht S A1 A2 c1 c2 ns ds hn (by have := hD.few; omega) (by have := hD.dev; omega) U cu st hs (by have := hD.dev; omega)
  rw [colours_ok hc hl hp] at HA
  subst hm
  refine HA.mono ?_
  rintro e w' ⟨A, c, rfl, ho, hb⟩
  exact ⟨A, c, by simp [colL_len, partsL_len], (OI.si ho).mono (fun _ _ _ => trivial), hb⟩
theorem Parts_len (w : World) (h : TabC w) (ht : Tab w) (S : Nat → Prop) (A1 A2 : Option Addr) (c1 c2 : Nat) (ns : List Node) (ds : List Dev) (hn : NetIn w S A1 A2 ns ds) (hc : checkL ns ds = 0)
    (U : Option Addr) (m cu : Nat) (st : List Int) (hm : m = st.length) (hs : SI w S U st) (hl : st.length = ds.length) (hp : ∀ x ∈ st, x = 1 ∨ x = 2) :
    Calls Tryd.prog 33 #[.agg #[.slice A1 ns.length c1, .slice A2 ds.length c2], .slice U m cu] w fun e w' =>
      ∃ A c, e = .returned (.tuple #[.slice A ns.length c, .int .i64 0]) ∧ SI w' (fun _ => True) A (partsL ns.length ds st) ∧ Below w.heap.size w w' := by
  have hD := checkL_zero hc
  have HA := Parts_any w h ht S A1 A2 c1 c2 ns ds hn (by have := hD.few; omega) (by have := hD.dev; omega) U cu st hs (by have := hD.dev; omega)
  rw [parts_ok hc hl hp] at HA
  subst hm
  refine HA.mono ?_
  rintro e w' ⟨A, c, rfl, ho, hb⟩
  exact ⟨A, c, by simp [partsL_len], (OI.si ho).mono (fun _ _ _ => trivial), hb⟩
theorem flt_len : ∀ (cs : List Int) (k : Nat), (flt cs k).length ≤ cs.length
  | [], _ => Nat.le_refl _
  | c :: cs, k => by
    have := flt_len cs (k + 1)
    unfold flt
    split <;> simp <;> omega
theorem Faults_len (w : World) (h : TabC w) (ht : Tab w) (S : Nat → Prop) (A1 A2 : Option Addr) (c1 c2 : Nat) (ns : List Node) (ds : List Dev) (hn : NetIn w S A1 A2 ns ds) (hc : checkL ns ds = 0)
    (U : Option Addr) (m cu : Nat) (st : List Int) (hm : m = st.length) (hs : SI w S U st) (hl : st.length = ds.length) (hp : ∀ x ∈ st, x = 1 ∨ x = 2) :
    Calls Tryd.prog 34 #[.agg #[.slice A1 ns.length c1, .slice A2 ds.length c2], .slice U m cu] w fun e w' =>
      ∃ A c fl, e = .returned (.tuple #[.slice A fl.length c, .int .i64 0]) ∧ fl = flt (colL ds st (partsL ns.length ds st)) 0 ∧ SI w' (fun _ => True) A fl ∧ Below w.heap.size w w' := by
  have hD := checkL_zero hc
  have HA := Faults_any w h ht S A1 A2 c1 c2 ns ds hn (by have := hD.few; omega) (by have := hD.dev; omega) U cu st hs (by have := hD.dev; omega)
  unfold faultsE at HA
  rw [colours_ok hc hl hp] at HA
  subst hm
  refine HA.mono ?_
  rintro e w' ⟨A, c, rfl, ho, hb⟩
  exact ⟨A, c, _, rfl, rfl, (OI.si ho).mono (fun _ _ _ => trivial), hb⟩

set_option maxHeartbeats 4000000 in
theorem colourSources_row (w : World) (h : TabC w) (ht : Tab w) (A : Option Addr) (c : Nat) (xs : List Int) (hs : SI w (fun _ => True) A xs) :
    Calls Tryd.prog 9 #[.slice A xs.length c] w (RetT w) := by
  by_cases hf : xs.length ≤ 400
  · have hfd : decide ((xs.length : Int) ≤ 400) = true := decide_eq_true (by omega)
    go_enter Tryd.func9, Tryd.ntmps9
    go_wp2_with (fail)
    refine (few_any w A xs.length c).mono ?_
    rw [hfd]
    rintro e w' ⟨rfl, rfl⟩
    go_wp2_with (fail)
    refine (new_any w _ A c xs hs hf).mono ?_
    rintro e w1 ⟨rfl, hd1, hb1, hz1⟩
    have Hz1 := Lib.hid hz1
    clear hz1
    go_wp2_with (fail)
    refine (network_any w1 w.heap.size hd1 7 12 (by decide) (by decide) (by decide) (by decide)).mono ?_
    rintro e w2 ⟨A1, c1, A2, c2, ns, ds, rfl, ho1, ho2, hd2, hg2, hgood⟩
    have L := LS.start hd1 hb1 Hz1.out ho1 ho2 hd2 hg2 hgood
    have hc0 := good_check hgood (by decide) (by decide)
    have Hc0 := Lib.hid hc0
    have hn1 : 1 ≤ ns.length := by have := hgood.two; omega
    have hnl : ns.length ≤ 7 := hgood.most
    have hdl : ds.length ≤ 12 := hgood.few
    obtain ⟨W, hW⟩ : ∃ W, W = w2.alloc (.cells #[.slice A1 ns.length c1, .slice A2 ds.length c2] 30) := ⟨_, rfl⟩
    rw [← hW] at L
    have HW := Lib.hid hW
    have n0 := L.n0
    have n1 := L.n1
    rw [hW] at n0 n1
    clear hd1 hb1 Hz1 ho1 ho2 hd2 hg2 hc0 hW
    go_wp2_with (fail)
    rw [← HW.out]
    refine (state_any W w.heap.size L.deck A1 ns.length c1 A2 c2 ds _ (fun b hb => by have := hb.1; omega) L.net.devs (by omega)).mono ?_
    rintro e w3 ⟨As, cs, st, rfl, hstl, hst, ho3, hd3, hf3⟩
    have L3 := L.state hf3 hd3
    have hWs := hf3.size
    have hM := L.top
    have Hstl := Lib.hid hstl
    have Hst := Lib.hid hst
    have ho3' : SI w3 (fun g => w2.heap.size + 1 ≤ g ∧ g < w3.heap.size) As st := (OI.si ho3).mono (fun g hl hg => ⟨by have : W.heap.size ≤ g := hg; omega, hl⟩)
    clear n0 n1 L hf3 hd3 hstl hst HW ho3
    obtain ⟨gn, hgn⟩ : ∃ x, x = w2.heap.size := ⟨_, rfl⟩
    rw [← hgn] at L3 ho3' hM ⊢
    have hM3 : gn + 1 ≤ w3.heap.size := by omega
    clear hgn hM hWs W w2 w1
    have n1 := L3.n1
    have Hlt := Lib.hid (show st.length ≤ 12 by have := Hstl.out; omega)
    go_wp2_with (at_builtin; first
      | (refine wpList_pushAll (B := w3.heap.size) (xs := []) (ys := st) (T := fun g => gn + 1 ≤ g ∧ g < w3.heap.size) rfl (.const (.slice none 0 0)) (.tmp 30) rfl rfl rfl rfl rfl (OI.nil _ _) ho3' (by have := Hlt.out; simp; omega) (Nat.le_refl _) ?_; intro Ad cd w4 ho4 hb4 hg4 hx4)
      | (refine wpList_pushAll (B := w4.heap.size) (xs := []) (ys := st) (T := fun g => gn + 1 ≤ g ∧ g < w3.heap.size) rfl (.const (.slice none 0 0)) (.tmp 32) rfl rfl rfl rfl rfl (OI.nil _ _) (ho3'.keep (Kept.of_below hb4)) (by have := Hlt.out; simp; omega) (Nat.le_refl _) ?_; intro Af cf w5 ho5 hb5 hg5 hx5; have n15 := (L3.below (hb4.trans (hb5.mono hb4.size))).n1))
    rw [List.nil_append] at ho4 ho5
    have hb45 := hb4.trans (hb5.mono hb4.size)
    have L5 := L3.below hb45
    have ho3 := ho3'.keep (Kept.of_below hb45)
    have hz3 := hb4.size
    have hz4 := hb5.size
    have hoD : OI w5 (fun g => w3.heap.size ≤ g ∧ g < w4.heap.size) Ad cd (mixL (putL isSrc ds st) st 0) := (ho4.mono (T := fun g => w3.heap.size ≤ g ∧ g < w4.heap.size) (fun g hl hg => ⟨hg, hl⟩)).keep (Kept.of_below hb5)
    have hoF : OI w5 (fun g => w4.heap.size ≤ g ∧ g < w5.heap.size) Af cf (mixL (putL isEar ds st) st 0) := ho5.mono (fun g hl hg => ⟨hg, hl⟩)
    clear ho4 ho5 hb4 hb5 hg4 hg5 hx4 hx5 hb45 n1 n15 ho3' L3
    obtain ⟨z3, hq3⟩ : ∃ x, x = w3.heap.size := ⟨_, rfl⟩
    obtain ⟨z4, hq4⟩ : ∃ x, x = w4.heap.size := ⟨_, rfl⟩
    obtain ⟨z5, hq5⟩ : ∃ x, x = w5.heap.size := ⟨_, rfl⟩
    rw [← hq3] at ho3 hoD hM3 hz3
    rw [← hq4] at hoD hoF hz3 hz4
    rw [← hq5] at hoF hz4
    clear hq3 hq4 hq5
    have hlD := Lib.hid (show (putL isSrc ds st).length = st.length from putL_len _ _ _)
    have hlF := Lib.hid (show (putL isEar ds st).length = st.length from putL_len _ _ _)
    go_loopg [37] ds.length (fun g i wr => ∃ k : Nat, k + g = ds.length ∧ i = .int .i64 k ∧ LS w wr (gn + 1) gn A1 c1 ns A2 c2 ds ∧ SI wr (fun g => gn + 1 ≤ g ∧ g < z3) As st ∧
      OI wr (fun g => z3 ≤ g ∧ g < z4) Ad cd (mixL (putL isSrc ds st) st k) ∧ OI wr (fun g => z4 ≤ g ∧ g < z5) Af cf (mixL (putL isEar ds st) st k))
    case atStart => exact ⟨0, by omega, rfl, L5, ho3, hoD, hoF⟩
    case round =>
      clear L5 ho3 hoD hoF w5 w4 w3
      obtain ⟨k, hk, rfl, L, hoS, hoD, hoF⟩ := hrel
      have Hk := Lib.hid hk
      clear hk
      by_cases hlt : k < ds.length
      · obtain ⟨b, off, rfl, hS, hbl, q0, q1, q2, q3, q4⟩ := L.net.dev hlt
        have hbA := (Below.refl wr.heap.size wr).alloc (Nat.le_refl _) (.cells #[.string ds[k].name, .int .i64 ds[k].kind, .int .i64 ds[k].a, .int .i64 ds[k].b, .int .i64 ds[k].comp] 43)
        have LA := L.below hbA
        have hoSA := hoS.keep (Kept.of_below hbA)
        have hoDA := hoD.keep (Kept.of_below hbA)
        have hoFA := hoF.keep (Kept.of_below hbA)
        have hks : k < st.length := by rw [Hstl.out]; exact hlt
        obtain ⟨gd, od, rfl, hgd, hgdl, d1, d2⟩ := hoD.at_ (k := k) (by rw [mixL_len hlD.out]; exact hks)
        obtain ⟨gf, of, rfl, hgf, hgfl, f1, f2⟩ := hoF.at_ (k := k) (by rw [mixL_len hlF.out]; exact hks)
        have HzD := Lib.hid (putL_at isSrc ds st k hlt hks)
        have HzF := Lib.hid (putL_at isEar ds st k hlt hks)
        have HmD := Lib.hid (mixL_set hlD.out k hks)
        have HmF := Lib.hid (mixL_set hlF.out k hks)
        have HsD := Lib.hid (mixL_same hlD.out k hks)
        have HsF := Lib.hid (mixL_same hlF.out k hks)
        by_cases h5 : (ds[k].kind == 5) = true
        · have h4 : (ds[k].kind == 4) = false := by have : ds[k].kind = 5 := by simpa using h5
                                                    simp [this]
          have HsF := Lib.hid (HsF.out (by rw [HzF.out]; simp [isEar, h4]))
          have HmD := Lib.hid (show (mixL (putL isSrc ds st) st k).set k 1 = mixL (putL isSrc ds st) st (k + 1) by rw [← HmD.out, HzD.out]; simp [isSrc, h5])
          go_wp2_with (fail)
          go_roundg (gk - 1)
          case measure => have := Hk.out; omega
          case rel =>
            refine ⟨k + 1, by have := Hk.out; omega, by go_num, (L.setB (g := gd) (by omega) _).below ((Below.refl _ _).alloc (Nat.le_refl _) _), (hoS.keep (Kept.setCell (p := ⟨gd, _, none⟩) (by show ¬ (gn + 1 ≤ gd ∧ gd < z3); omega) _)).keep (Kept.alloc _ _ _), ?_, ?_⟩
            · rw [← HmD.out]; exact (hoD.set k 1).keep (Kept.alloc _ _ _)
            · rw [← HsF.out]; exact (hoF.keep (Kept.setCell (p := ⟨gd, _, none⟩) (by show ¬ (z4 ≤ gd ∧ gd < z5); omega) _)).keep (Kept.alloc _ _ _)
        · have h5 : (ds[k].kind == 5) = false := by simpa using h5
          by_cases h6 : (ds[k].kind == 6) = true
          · have h4 : (ds[k].kind == 4) = false := by have : ds[k].kind = 6 := by simpa using h6
                                                      simp [this]
            have HsF := Lib.hid (HsF.out (by rw [HzF.out]; simp [isEar, h4]))
            have HmD := Lib.hid (show (mixL (putL isSrc ds st) st k).set k 1 = mixL (putL isSrc ds st) st (k + 1) by rw [← HmD.out, HzD.out]; simp [isSrc, h6])
            go_wp2_with (fail)
            go_roundg (gk - 1)
            case measure => have := Hk.out; omega
            case rel =>
              refine ⟨k + 1, by have := Hk.out; omega, by go_num, (L.setB (g := gd) (by omega) _).below ((Below.refl _ _).alloc (Nat.le_refl _) _), (hoS.keep (Kept.setCell (p := ⟨gd, _, none⟩) (by show ¬ (gn + 1 ≤ gd ∧ gd < z3); omega) _)).keep (Kept.alloc _ _ _), ?_, ?_⟩
              · rw [← HmD.out]; exact (hoD.set k 1).keep (Kept.alloc _ _ _)
              · rw [← HsF.out]; exact (hoF.keep (Kept.setCell (p := ⟨gd, _, none⟩) (by show ¬ (z4 ≤ gd ∧ gd < z5); omega) _)).keep (Kept.alloc _ _ _)
          · have h6 : (ds[k].kind == 6) = false := by simpa using h6
            have HsD := Lib.hid (HsD.out (by rw [HzD.out]; simp [isSrc, h5, h6]))
            by_cases h4 : (ds[k].kind == 4) = true
            · have HmF := Lib.hid (show (mixL (putL isEar ds st) st k).set k 1 = mixL (putL isEar ds st) st (k + 1) by rw [← HmF.out, HzF.out]; simp [isEar, h4])
              go_wp2_with (fail)
              go_roundg (gk - 1)
              case measure => have := Hk.out; omega
              case rel =>
                refine ⟨k + 1, by have := Hk.out; omega, by go_num, (L.setB (g := gf) (by omega) _).below ((Below.refl _ _).alloc (Nat.le_refl _) _), (hoS.keep (Kept.setCell (p := ⟨gf, _, none⟩) (by show ¬ (gn + 1 ≤ gf ∧ gf < z3); omega) _)).keep (Kept.alloc _ _ _), ?_, ?_⟩
                · rw [← HsD.out]; exact (hoD.keep (Kept.setCell (p := ⟨gf, _, none⟩) (by show ¬ (z3 ≤ gf ∧ gf < z4); omega) _)).keep (Kept.alloc _ _ _)
                · rw [← HmF.out]; exact (hoF.set k 1).keep (Kept.alloc _ _ _)
            · have h4 : (ds[k].kind == 4) = false := by simpa using h4
              have HsF := Lib.hid (HsF.out (by rw [HzF.out]; simp [isEar, h4]))
              go_wp2_with (fail)
              go_roundg (gk - 1)
              case measure => have := Hk.out; omega
              case rel => exact ⟨k + 1, by have := Hk.out; omega, by go_num, LA, hoSA, by rw [← HsD.out]; exact hoDA, by rw [← HsF.out]; exact hoFA⟩
      · have hka : st.length ≤ k := by rw [Hstl.out]; omega
        rw [mixL_all hlD.out k hka] at hoD
        rw [mixL_all hlF.out k hka] at hoF
        have lD := Lib.hid (show (putL isSrc ds st).length = ds.length by rw [hlD.out, Hstl.out])
        have lF := Lib.hid (show (putL isEar ds st).length = ds.length by rw [hlF.out, Hstl.out])
        have pD := Lib.hid (putL_pos (p := isSrc) ds st Hst.out)
        have pF := Lib.hid (putL_pos (p := isEar) ds st Hst.out)
        have sD : SI wr (fun _ => True) Ad (putL isSrc ds st) := (OI.si hoD).mono (fun _ _ _ => trivial)
        have sF : SI wr (fun _ => True) Af (putL isEar ds st) := (OI.si hoF).mono (fun _ _ _ => trivial)
        have sS : SI wr (fun _ => True) As st := hoS.mono (fun _ _ _ => trivial)
        clear hoD hoF hoS hka Hk
        have n0 := L.n0
        have n1 := L.n1
        have HA := Lib.hid (Colours_len wr (h.below L.bel) (ht.below L.bel) _ A1 A2 c1 c2 ns ds (L.net.mono (T := fun _ => True) (fun _ _ _ => trivial)) Hc0.out Ad st.length cd _ hlD.out.symm sD lD.out pD.out)
        go_wp2_with (fail)
        refine HA.out.mono ?_
        rintro e wa ⟨Aa, ca, rfl, sA, hba⟩
        have La := L.below hba
        have sF := sF.keep (Kept.of_below hba)
        have sS := sS.keep (Kept.of_below hba)
        have m0 := La.n0
        have m1 := La.n1
        clear L hlt HA n0 n1 sD lD hba
        have HB := Lib.hid (Colours_len wa (h.below La.bel) (ht.below La.bel) _ A1 A2 c1 c2 ns ds (La.net.mono (T := fun _ => True) (fun _ _ _ => trivial)) Hc0.out Af st.length cf _ hlF.out.symm sF lF.out pF.out)
        go_wp2_with (fail)
        refine HB.out.mono ?_
        rintro e wb ⟨Ab, cb, rfl, sB, hbb⟩
        have Lb := La.below hbb
        have sA := sA.keep (Kept.of_below hbb)
        have sS := sS.keep (Kept.of_below hbb)
        have n0 := Lb.n0
        have n1 := Lb.n1
        clear La HB m0 m1 sF lF hbb
        have HC := Lib.hid (Colours_len wb (h.below Lb.bel) (ht.below Lb.bel) _ A1 A2 c1 c2 ns ds (Lb.net.mono (T := fun _ => True) (fun _ _ _ => trivial)) Hc0.out As st.length cs st rfl sS Hstl.out Hst.out)
        go_wp2_with (fail)
        refine HC.out.mono ?_
        rintro e wc ⟨Ac, cc, rfl, sC, hbc⟩
        have Lc := Lb.below hbc
        have sA := sA.keep (Kept.of_below hbc)
        have sB := sB.keep (Kept.of_below hbc)
        have sS := sS.keep (Kept.of_below hbc)
        have m0 := Lc.n0
        have m1 := Lc.n1
        clear Lb HC n0 n1 hbc
        have HF := Lib.hid (Faults_len wc (h.below Lc.bel) (ht.below Lc.bel) _ A1 A2 c1 c2 ns ds (Lc.net.mono (T := fun _ => True) (fun _ _ _ => trivial)) Hc0.out As st.length cs st rfl sS Hstl.out Hst.out)
        go_wp2_with (fail)
        refine HF.out.mono ?_
        rintro e wd ⟨Ag, cg, fl, rfl, hfl, sG, hbd⟩
        have Ld := Lc.below hbd
        have sA := sA.keep (Kept.of_below hbd)
        have sB := sB.keep (Kept.of_below hbd)
        have sC := sC.keep (Kept.of_below hbd)
        have n0 := Ld.n0
        have n1 := Ld.n1
        have Hfl := Lib.hid hfl
        have Hat := Lib.hid (fun v hv => sources_at (n := ns.length) Hstl.out v hv)
        have lA := Lib.hid (show (colL ds (putL isSrc ds st) (partsL ns.length ds (putL isSrc ds st))).length = ns.length by rw [colL_len, partsL_len])
        have lB := Lib.hid (show (colL ds (putL isEar ds st) (partsL ns.length ds (putL isEar ds st))).length = ns.length by rw [colL_len, partsL_len])
        have lC := Lib.hid (show (colL ds st (partsL ns.length ds st)).length = ns.length by rw [colL_len, partsL_len])
        clear Lc HF m0 m1 hbd sS hfl
        generalize colL ds (putL isSrc ds st) (partsL ns.length ds (putL isSrc ds st)) = la at *
        generalize colL ds (putL isEar ds st) (partsL ns.length ds (putL isEar ds st)) = lb at *
        generalize colL ds st (partsL ns.length ds st) = lc at *
        go_wp2_with (fail)
        obtain ⟨wo, rfl⟩ : ∃ wo : World, wo = wr := ⟨_, rfl⟩
        go_loopg [122] ns.length (fun g i wr => ∃ k : Nat, k + g = ns.length ∧ i = .int .i64 k ∧ Below wd.heap.size wd wr)
        case atStart => exact ⟨0, by omega, rfl, Below.refl _ _⟩
        case round =>
          obtain ⟨k, hk, rfl, hB⟩ := hrel
          have Hk := Lib.hid hk
          clear hk n0 n1
          by_cases hlt : k < ns.length
          · have ka : k < la.length := by rw [lA.out]; exact hlt
            have kb : k < lb.length := by rw [lB.out]; exact hlt
            have kc : k < lc.length := by rw [lC.out]; exact hlt
            obtain ⟨g1, o1, rfl, _, _, a1⟩ := (sA.keep (Kept.of_below hB)).at_ ka
            obtain ⟨g2, o2, rfl, _, _, b1⟩ := (sB.keep (Kept.of_below hB)).at_ kb
            obtain ⟨g3, o3, rfl, _, _, d1⟩ := (sC.keep (Kept.of_below hB)).at_ kc
            have sG' := sG.keep (Kept.of_below hB)
            obtain ⟨l, e, ea, eb, ec⟩ := Hat.out k hlt
            rw [at_get ka] at ea
            rw [at_get kb] at eb
            rw [at_get kc] at ec
            have hfli : ((k : Int) ∈ fl) ↔ colV l e = 3 := by
              rw [Hfl.out, flt_mem lc 0 k, Nat.sub_zero, List.getElem?_eq_getElem kc, ec]
              simp
            have hflm : decide ((k : Int) ∈ fl) = (colV l e == 3) := by
              rw [Bool.eq_iff_iff]
              simp [hfli]
            clear hfli
            have hfl1 : fl.length ≤ 65536 := by rw [Hfl.out]; have := flt_len lc 0; have := lC.out; omega
            rw [ea] at a1
            rw [eb] at b1
            rw [ec] at d1
            have F1 : (bits BinOp.and IntKind.i64 (colV false e) 1 != 0) = false := by cases e <;> decide
            have F2 : (bits BinOp.and IntKind.i64 (colV l false) 2 != 0) = false := by cases l <;> decide
            have F3 : (colV false e != bits BinOp.and IntKind.i64 (colV l e) 2) = false := by cases l <;> cases e <;> decide
            have F4 : (colV l false != bits BinOp.and IntKind.i64 (colV l e) 1) = false := by cases l <;> cases e <;> decide
            clear ea eb ec ka kb kc
            generalize colV false e = x at *
            generalize colV l false = y at *
            generalize colV l e = z at *
            have HH : ∀ q, Calls Tryd.prog 23 #[.slice Ag fl.length cg, .int .i64 (k : Int)] (wr.drewN q) (fun e w' => e = .returned (.bool (z == 3)) ∧ w' = wr.drewN q) := by
              rw [← hflm]
              exact fun q => (refHas_any _ _ Ag cg fl (sG'.keep (Kept.drewN _ _ _)) hfl1 (k : Int)).mono (fun e w' hh => ⟨hh.1, hh.2.symm⟩)
            clear hflm
            by_cases hz3 : (z == 3) = true
            · rw [hz3] at HH
              have HH := Lib.hid HH
              go_wp2_with (fail)
              go_quiet (first | exact Calls.quiet_of_same (HH.out _))
              go_wp2_with (fail)
              go_roundg (gk - 1)
              case measure => have := Hk.out; omega
              case rel => exact ⟨k + 1, by have := Hk.out; omega, by go_num, hB.trans (below_drewN _ _ _)⟩
            · have hz3 : (z == 3) = false := by simpa using hz3
              rw [hz3] at HH
              have HH := Lib.hid HH
              go_wp2_with (fail)
              go_quiet (first | exact Calls.quiet_of_same (HH.out _))
              go_wp2_with (fail)
              go_roundg (gk - 1)
              case measure => have := Hk.out; omega
              case rel => exact ⟨k + 1, by have := Hk.out; omega, by go_num, hB.trans (below_drewN _ _ _)⟩
          · go_wp2_with (fail)
            have hbe := Ld.bel.trans (hB.mono Ld.bel.size)
            refine (awake07 _ (h.below hbe) (ht.below hbe)).mono ?_
            rintro e w8 ⟨rfl, hb8⟩
            go_wp2_with (fail)
            go_ret
            exact ⟨rfl, hbe.trans (hb8.mono hbe.size)⟩
  · have hfd : decide ((xs.length : Int) ≤ 400) = false := decide_eq_false (by omega)
    go_enter Tryd.func9, Tryd.ntmps9
    go_wp2_with (fail)
    refine (few_any w A xs.length c).mono ?_
    rw [hfd]
    rintro e w' ⟨rfl, rfl⟩
    go_wp2_with (fail)
    refine (awake07 w h ht).mono ?_
    rintro e w8 ⟨rfl, hb8⟩
    go_wp2_with (fail)
    go_ret
    exact ⟨rfl, hb8⟩
end Go.Proofs.YtpeifmkodoignaaDoor

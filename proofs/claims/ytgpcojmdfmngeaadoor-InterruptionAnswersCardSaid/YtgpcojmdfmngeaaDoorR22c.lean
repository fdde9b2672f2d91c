/-
  Walks of the reference's outage and Outages.
-/
import Derived.Test.YtgpcojmdfmngeaaDoorR22
import Derived.Test.YtgpcojmdfmngeaaDoorR11
import Derived.Test.YtgpcojmdfmngeaaDoorPRo
import Derived.Test.YtgpcojmdfmngeaaDoorGh
import Derived.Test.YtgpcojmdfmngeaaDoorGe
namespace Go.Proofs.YtgpcojmdfmngeaaDoor
open Go.RowKit
set_option maxHeartbeats 400000
set_option maxRecDepth 100000

theorem momR_len : ∀ (xs : List Chg) (row : List Int), (momR row xs).length ≤ xs.length
  | [], _ => Nat.le_refl _
  | x :: xs, row => by
    rw [momR]
    have := momR_len xs (row.set x.dev.toNat x.pos)
    split
    · simp; omega
    · simp; omega
theorem momL_len (st : List Int) (xs : List Chg) : (momL st xs).length ≤ xs.length + 1 := by
  unfold momL
  have h1 := momR_len (takeT 0 st xs).2 (takeT 0 st xs).1
  have h2 := takeT_len 0 xs st
  rw [List.length_cons]
  omega
theorem outsR_few (ns : List Node) (ds : List Dev) (st : List Int) (xs : List Chg) (til : Nat) (ha : Asc 0 xs) (hx : ∀ x ∈ xs, x.t < til) (h : 0 < til) (k : Nat) (hk : k ≤ 32) (hl : xs.length ≤ 1000) :
    (catN (outsR ns (supF ns ds st xs) til) k).length ≤ 33066 := by
  rw [← outs_eq ns ds st xs til ha hx h k]
  have h1 := momL_len st xs
  have h2 : ∀ v, (outsW ns ((momL st xs).map (supM ns ds)) til v).length ≤ 1002 := fun v => by
    unfold outsW
    split
    · simp
    · have := witG_few v til ((momL st xs).map (supM ns ds)) (-1)
      rw [List.length_map] at this ⊢
      omega
  have := catN_few (h := outsW ns ((momL st xs).map (supM ns ds)) til) k (fun i _ => h2 i)
  have := Nat.mul_le_mul_right 1002 hk
  omega
theorem OV.store {w : World} {S : Nat → Prop} {e : TypeId} {size n c : Nat} {B : Option Addr} {xs : List Value} (h : OV w S e size B n c xs) {g : Nat} (o : Nat) (u : Value) (hne : blockOf B ≠ some g) : OV (w.setCell ⟨g, o, none⟩ u) S e size B n c xs :=
  OV.keep1 h (fun k hk => (Kept.setCell (S := fun b => b ≠ g) (p := ⟨g, o, none⟩) (fun h => h rfl) u).2 k (fun e => hne (by rw [← e]; exact hk)) (OV.block h k hk).2)

theorem oth22 {w w' : World} {S : Nat → Prop} {e : TypeId} {size n c : Nat} {A B : Option Addr} {xs : List Value} (h : OV w S e size B n c xs) (hg : w.grownBy w' (blockOf A)) (hne : ∀ g, blockOf A = some g → blockOf B ≠ some g) : OV w' S e size B n c xs :=
  OV.keep1 h (fun k hk => hg.block k (OV.block h k hk).2 (fun e => hne k e.symm hk))
theorem apart22 {w : World} {S : Nat → Prop} {e : TypeId} {size n c : Nat} {A A' B : Option Addr} {xs : List Value} (h : OV w S e size B n c xs) (hne : ∀ g, blockOf A = some g → blockOf B ≠ some g) (ha : blockOf A' = blockOf A ∨ blockOf A' = some w.heap.size) : ∀ g, blockOf A' = some g → blockOf B ≠ some g := by
  intro g hg hB
  rcases ha with e | e
  · exact hne g (by rw [← e]; exact hg) hB
  · have := (OV.block h g hB).2
    rw [e] at hg
    injection hg with hg
    omega

set_option maxHeartbeats 2000000 in
theorem refOutage_any (w : World) (S : Nat → Prop) (A1 A2 : Option Addr) (c1 c2 : Nat) (ns : List Node) (ds : List Dev) (hn : NetIn w S A1 A2 ns ds) (v : Nat) (hv : v < ns.length) (f u : Int) :
    Calls Tryd.prog 147 #[.agg #[.slice A1 ns.length c1, .slice A2 ds.length c2], .int .i64 v, .int .i64 f, .int .i64 u] w fun e w' => e = .returned (outAgg (mkOut v ns[v].cust (f, u))) ∧ Below w.heap.size w w' := by
  have hb := (Below.refl w.heap.size w).alloc (Nat.le_refl _) (.cells #[.slice A1 ns.length c1, .slice A2 ds.length c2] 26)
  have hbox := heap_alloc_new w (.cells #[.slice A1 ns.length c1, .slice A2 ds.length c2] 26)
  have hz : w.heap.size < (w.alloc (.cells #[.slice A1 ns.length c1, .slice A2 ds.length c2] 26)).heap.size := by simp
  obtain ⟨b, off, rfl, _, hbl, q0, q1, q2⟩ := (hn.below hb).node hv
  generalize ns[v].cust = cu at *
  have HW := Lib.hid (show ∃ x, x = w.alloc (.cells #[.slice (some ⟨b, off, none⟩) ns.length c1, .slice A2 ds.length c2] 26) from ⟨_, rfl⟩)
  have hb2 := (Below.refl (w.alloc (.cells #[.slice (some ⟨b, off, none⟩) ns.length c1, .slice A2 ds.length c2] 26)).heap.size (w.alloc (.cells #[.slice (some ⟨b, off, none⟩) ns.length c1, .slice A2 ds.length c2] 26))).alloc (Nat.le_refl _) (.cells #[.int .i64 0, .int .i64 0, .int .i64 0, .int .i64 0] 141)
  have n0 : ((w.alloc (.cells #[.slice (some ⟨b, off, none⟩) ns.length c1, .slice A2 ds.length c2] 26)).alloc (.cells #[.int .i64 0, .int .i64 0, .int .i64 0, .int .i64 0] 141)).cell? ⟨w.heap.size, 0, none⟩ = some (.slice (some ⟨b, off, none⟩) ns.length c1) := by rw [cell_of_row _ _ 0 _ _ _ ((hb2.block _ hz).trans hbox)]; rfl
  have k1 := (hb2.cell (p := ⟨b, off + v * 3 + 1, none⟩) hbl).trans q1
  clear HW
  go_enter Tryd.func147, Tryd.ntmps147
  have hz1 : (w.alloc (.cells #[.slice (some ⟨b, off, none⟩) ns.length c1, .slice A2 ds.length c2] 26)).heap.size = w.heap.size + 1 := by simp
  have hbR := hb.alloc (Nat.le_of_lt hz) (.cells #[.int .i64 v, .int .i64 cu, .int .i64 f, .int .i64 u] 141)
  have hrow := heap_alloc_new (w.alloc (.cells #[.slice (some ⟨b, off, none⟩) ns.length c1, .slice A2 ds.length c2] 26)) (.cells #[.int .i64 v, .int .i64 cu, .int .i64 f, .int .i64 u] 141)
  rw [hz1] at hrow
  go_wp2_with (fail)
  generalize (w.alloc (.cells #[.slice (some ⟨b, off, none⟩) ns.length c1, .slice A2 ds.length c2] 26)).alloc (.cells #[.int .i64 v, .int .i64 cu, .int .i64 f, .int .i64 u] 141) = wR at *
  have m0 : wR.cell? ⟨w.heap.size + 1, 0, none⟩ = some (.int .i64 v) := by rw [cell_of_row _ _ 0 _ _ _ hrow]; rfl
  have m1 : wR.cell? ⟨w.heap.size + 1, 1, none⟩ = some (.int .i64 cu) := by rw [cell_of_row _ _ 1 _ _ _ hrow]; rfl
  have m2 : wR.cell? ⟨w.heap.size + 1, 2, none⟩ = some (.int .i64 f) := by rw [cell_of_row _ _ 2 _ _ _ hrow]; rfl
  have m3 : wR.cell? ⟨w.heap.size + 1, 3, none⟩ = some (.int .i64 u) := by rw [cell_of_row _ _ 3 _ _ _ hrow]; rfl
  refine bodyPost_ret (v := outAgg (mkOut v cu (f, u))) (by simp [results, Tryd.results147, go_sem, m0, m1, m2, m3, mkOut]) rfl ⟨rfl, hbR⟩

set_option maxHeartbeats 16000000 in
theorem refOutages_any (w : World) (S : Nat → Prop) (A1 A2 : Option Addr) (c1 c2 : Nat) (ns : List Node) (ds : List Dev) (hn : NetIn w S A1 A2 ns ds) (hl1 : ns.length ≤ 65536) (hl2 : ds.length ≤ 65536)
    (U : Option Addr) (cu : Nat) (st : List Int) (hs : SI w S U st) (hsl : st.length ≤ 65536) (T : Nat → Prop) (A : Option Addr) (c : Nat) (xs : List Chg) (hx : SV w T A (recV chgV xs)) (hxl : xs.length ≤ 1000) (til : Int) :
    Calls Tryd.prog 84 #[.agg #[.slice A1 ns.length c1, .slice A2 ds.length c2], .slice U st.length cu, .slice A xs.length c, .int .i64 til] w (RetOE w (outagesE ns ds st xs til)) := by
  have hb := (Below.refl w.heap.size w).alloc (Nat.le_refl _) (.cells #[.slice A1 ns.length c1, .slice A2 ds.length c2] 26)
  have HC := Lib.hid (refCheck22_any _ S A1 A2 c1 c2 ns ds (hn.below hb) hl1 hl2 U cu st (hs.keep (Kept.of_below hb)) hsl T A c xs (hx.keep (Kept.of_below hb)) (by omega) til)
  have HE := Lib.hid (show outagesE ns ds st xs til = if checkE ns ds st xs til ≠ 0 then ([], checkE ns ds st xs til) else (outL ns (supF ns ds st xs) til.toNat, 0) from rfl)
  have HZ := Lib.hid (show checkE ns ds st xs til = 0 → _ from checkE_zero)
  generalize checkE ns ds st xs til = ce at *
  by_cases h0 : (ce != 0) = true
  · have H0 := Lib.hid (show ¬ ce = 0 by simpa using h0)
    go_enter Tryd.func84, Tryd.ntmps84
    go_wp2_with (fail)
    refine (HC.out).mono ?_
    rintro e w1 ⟨rfl, hb1⟩
    go_wp2_with (fail)
    go_ret2
    rw [HE.out, if_pos H0.out]
    exact ⟨none, 0, rfl, OV.nil _ _ _ _, hb.trans (hb1.mono hb.size)⟩
  · have h0' : (ce != 0) = false := by simpa using h0
    have hz : ce = 0 := by simpa using h0
    rw [if_neg (by simpa using hz)] at HE
    obtain ⟨hmask, ht1, ht2, _, hcz⟩ := HZ.out hz
    obtain ⟨z1, z2, z3⟩ := maskC_zero hmask
    obtain ⟨ha, hmo⟩ := chgE_asc hcz
    obtain ⟨tn, rfl⟩ := Int.eq_ofNat_of_zero_le (show 0 ≤ til by omega)
    rw [Int.toNat_natCast] at HE
    have hD := checkL_zero z1
    have hfew := hD.few
    have hxt : ∀ x ∈ xs, x.t < tn := fun x hx => by have := hmo x hx; omega
    have hpos2 : ∀ x ∈ st, x = 1 ∨ x = 2 := fun x hx => by have := List.all_eq_true.1 z3 x hx; simp [isPos] at this; omega
    have HF := Lib.hid (fun (k : Nat) (hk : k ≤ ns.length) => outsR_few ns ds st xs tn ha hxt (by omega) k (by omega) hxl)
    have HH := Lib.hid (show ∀ v, outsR ns (supF ns ds st xs) tn v = if custAt ns v = 0 then [] else (runG (supF ns ds st xs v) tn 0 (-1)).map (mkOut v (custAt ns v)) from fun _ => rfl)
    have HN := Lib.hid (fun (v a nx : Nat) (fr : Int) (h1 : a < nx) (h2 : nx ≤ tn) (hx : ∀ x ∈ xs, x.t ≤ a ∨ (nx : Int) ≤ x.t) => run_next ns ds st xs v a nx tn fr h1 h2 hx)
    have HPE := Lib.hid (fun a : Int => putE_put a xs 0 st ha)
    have HP0 := Lib.hid (show putC (((0 : Nat) : Int) - 1) st xs = st from putC_none _ _ _ (fun x hx => by have := Asc.mem ha x hx; omega))
    have HPN := Lib.hid (fun (a nx : Nat) (h1 : a < nx) (hx : ∀ x ∈ xs, x.t ≤ a ∨ (nx : Int) ≤ x.t) => put_next (st := st) h1 hx)
    have HNE := Lib.hid (fun (a : Int) (h : a < tn) => nextE_ok xs tn h)
    have HPL := Lib.hid (fun a : Int => putC_len a xs st)
    have Hdv := Lib.hid (chgE_zero hcz)
    have HM := Lib.hid (fun a : Int => show maskC isPos ns ds (putC a st xs) = 0 from mask_ok z1 (by rw [putC_len]; exact z2) (putC_pos a xs st (fun x hx => (Hdv.out x hx).2.2) hpos2))
    have Hsl := Lib.hid z2
    clear h0 hz HZ hmask hcz z1 z2 z3 ha hmo hD hxt hpos2
    generalize hFF : supF ns ds st xs = F at *
    go_enter Tryd.func84, Tryd.ntmps84
    go_wp2_with (fail)
    refine (HC.out).mono ?_
    rintro e w1 ⟨rfl, hb1⟩
    have hbA := hb.trans (hb1.mono hb.size)
    have Hbox := Lib.hid (box_at hb1)
    have hwz : w.heap.size < w1.heap.size := (Array.getElem?_eq_some_iff.1 Hbox.out).1
    have hn1 := hn.below hbA
    have hs1 := hs.keep (Kept.of_below hbA)
    have hx1 := (hx.mono (T := fun g => g < w.heap.size) (fun g hl _ => hl)).keep (Kept.of_below hbA)
    clear hb1 hb HC hn hs hx hFF
    go_wp2_with (fail)
    go_loopg [11, 12] ns.length (fun g v i wr => ∃ (k : Nat) (A' : Option Addr) (c' : Nat), k + g = ns.length ∧ i = .int .i64 k ∧ v = .slice A' (catN (outsR ns F tn) k).length c' ∧ OO wr (fun g => w1.heap.size ≤ g) A' c' (catN (outsR ns F tn) k) ∧ Below w1.heap.size w1 wr)
    case atStart => exact ⟨0, none, 0, by omega, rfl, rfl, OV.nil _ _ _ _, Below.refl _ _⟩
    case round =>
      obtain ⟨k, A', c', hk, rfl, rfl, ho, hB⟩ := hrel
      have Hk := Lib.hid hk
      clear hk
      have hbx := (hB.block _ hwz).trans Hbox.out
      have n0 : wr.cell? ⟨w.heap.size, 0, none⟩ = some (.slice A1 ns.length c1) := by rw [cell_of_row wr _ 0 _ _ _ hbx]; rfl
      by_cases hlt : k < ns.length
      · obtain ⟨b, off, rfl, _, _, q0, q1, q2⟩ := (hn1.below hB).node hlt
        have hHk := HH.out k
        rw [custAt_nat hlt] at hHk
        have HO := Lib.hid (fun (W : World) (hb : Below w1.heap.size w1 W) (f u : Int) => show Calls Tryd.prog 147 #[.agg #[.slice (some ⟨b, off, none⟩) ns.length c1, .slice A2 ds.length c2], .int .i64 (k : Nat), .int .i64 f, .int .i64 u] W (fun e w' => e = .returned (.agg #[.int .i64 (k : Nat), .int .i64 ns[k].cust, .int .i64 f, .int .i64 u]) ∧ Below W.heap.size W w') from refOutage_any W S (some ⟨b, off, none⟩) A2 c1 c2 ns ds (hn1.below hb) k hlt f u)
        generalize ns[k].cust = cu' at *
        by_cases hc0 : (cu' == 0) = true
        · have Hn := Lib.hid (show catN (outsR ns F tn) (k + 1) = catN (outsR ns F tn) k by rw [catN, hHk, if_pos (by simpa using hc0), List.append_nil])
          clear hHk
          go_wp2_with (fail)
          go_roundg (gk - 1)
          case measure => have := Hk.out; omega
          case rel => exact ⟨k + 1, A', c', by have := Hk.out; omega, by go_num, by rw [Hn.out], by rw [Hn.out]; exact ho, hB⟩
        · have hc0 : (cu' == 0) = false := by simpa using hc0
          have Hn := Lib.hid (show catN (outsR ns F tn) (k + 1) = catN (outsR ns F tn) k ++ (runG (F k) (tn - 0) 0 (-1)).map (mkOut k cu') by rw [catN, hHk, if_neg (by simpa using hc0)]; rfl)
          have Hlen := Lib.hid (HF.out (k + 1) (by omega))
          clear hHk
          generalize catN (outsR ns F tn) k = ys0 at *
          generalize hTT : catN (outsR ns F tn) (k + 1) = TT at *
          have HTT := Lib.hid hTT
          clear hTT
          obtain ⟨gko, rfl⟩ : ∃ x : Nat, x = gk := ⟨_, rfl⟩
          obtain ⟨wo, rfl⟩ : ∃ x : World, x = wr := ⟨_, rfl⟩
          have hsR := hs1.keep (Kept.of_below hB)
          go_upto_region 12 with (at_builtin; go_must (refine wpList_pushAll (B := wo.heap.size) (xs := []) (ys := st) (T := S) rfl (.const (.slice none 0 0)) (.tmp 44) rfl rfl rfl rfl rfl (OI.nil _ _) hsR (by simp; omega) (Nat.le_refl _) ?_); intro A3 c3 w3 ho3 hb3 _ _; rw [List.nil_append] at ho3; rw [List.nil_append])
          have hapart : ∀ g, blockOf A' = some g → blockOf A3 ≠ some g := fun g h1 h2 => by
            have e1 := (OV.block ho g h1).2
            have e2 : wo.heap.size ≤ g := (OV.block ho3 g h2).1
            omega
          have o3 : OO w3 (fun g => w1.heap.size ≤ g) A' c' ys0 := OV.keep ho (Kept.of_below hb3)
          have hB3 := hB.trans (hb3.mono hB.size)
          have hzo := hB.size
          have ho3 : OI w3 (fun g => w1.heap.size ≤ g) A3 c3 (putC (((0 : Nat) : Int) - 1) st xs) := by rw [HP0.out]; exact ho3.mono (fun g _ hg => by have hg : wo.heap.size ≤ g := hg; show w1.heap.size ≤ g; omega)
          have Hn0 : Hid (TT = ys0 ++ (runG (F k) (tn - 0) 0 (-1)).map (mkOut k cu')) := Hn
          clear q0 q1 q2 hsR ho hb3 hB hbx n0 Hn hzo
          go_loopg [11, 13, 14] tn (fun g vo vf va wn => ∃ (a : Nat) (fr : Int) (A5 : Option Addr) (c5 : Nat) (ys : List Out), a + g = tn ∧ va = .int .i64 a ∧ vf = .int .i64 fr ∧ vo = .slice A5 ys.length c5 ∧ Hid (TT = ys ++ (runG (F k) (tn - a) a fr).map (mkOut k cu')) ∧ OO wn (fun g => w1.heap.size ≤ g) A5 c5 ys ∧ OI wn (fun g => w1.heap.size ≤ g) A3 c3 (putC ((a : Int) - 1) st xs) ∧ (∀ g, blockOf A5 = some g → blockOf A3 ≠ some g) ∧ Below w1.heap.size w1 wn)
          case atStart => exact ⟨0, -1, A', c', ys0, by omega, rfl, rfl, rfl, Hn0, o3, ho3, hapart, hB3⟩
          case round =>
            clear Hn0 o3 ho3 hapart hB3
            obtain ⟨a, fr, A5, c5, ys, hag, rfl, rfl, rfl, HT, oY, oN, hap, hB⟩ := hrel
            have Hag := Lib.hid hag
            clear hag
            have hyl : ys.length ≤ 33066 := by
              have h1 := Hlen.out
              rw [HT.out, List.length_append] at h1
              omega
            obtain ⟨gk2, rfl⟩ : ∃ x : Nat, x = gk := ⟨_, rfl⟩
            obtain ⟨wa, rfl⟩ : ∃ x : World, x = wr := ⟨_, rfl⟩
            by_cases hla : a < tn
            · obtain ⟨i1, i2, i3⟩ := HNE.out a (by omega)
              obtain ⟨nx, hnx⟩ := Int.eq_ofNat_of_zero_le (show 0 ≤ nextE a tn xs by omega)
              rw [hnx] at i1 i2 i3
              have HRun := Lib.hid (HN.out k a nx fr (by omega) (by omega) i3)
              have HNxt := Lib.hid (HPN.out a nx (by omega) i3)
              have HRow := Lib.hid (HPE.out a)
              have hrl : (putC ((a : Int) - 1) st xs).length = st.length := HPL.out _
              have Hnx := Lib.hid hnx
              have h12 : a < nx ∧ nx ≤ tn := by omega
              clear hnx i1 i2 i3
              generalize putC ((a : Int) - 1) st xs = row0 at *
              have H1 := Lib.hid (show putE a row0 xs = putE a row0 (xs.drop 0) from rfl)
              have H2 := Lib.hid (show nextE a tn xs = nextE a tn (xs.drop 0) from rfl)
              have Hrl := Lib.hid hrl
              clear hrl
              go_wp2_with (fail)
              go_loopg [16, 17] xs.length (fun g vn vi wn => ∃ (j : Nat) (row : List Int) (nz : Int), j + g = xs.length ∧ vi = .int .i64 j ∧ vn = .int .i64 nz ∧ row.length = st.length ∧ Hid (putE a row0 xs = putE a row (xs.drop j)) ∧ Hid (nextE a tn xs = nextE a nz (xs.drop j)) ∧ OI wn (fun g => w1.heap.size ≤ g) A3 c3 row ∧ OO wn (fun g => w1.heap.size ≤ g) A5 c5 ys ∧ Below w1.heap.size w1 wn)
              case atStart => exact ⟨0, row0, tn, by omega, rfl, rfl, Hrl.out, H1, H2, oN, oY, hB⟩
              case round =>
                clear H1 H2 oN oY hB
                obtain ⟨j, row, nz, hj, rfl, rfl, hrl, HP, HX, oN, oY, hB⟩ := hrel
                have Hj := Lib.hid hj
                have Hrl2 := Lib.hid hrl
                clear hj hrl
                by_cases hltj : j < xs.length
                · obtain ⟨b2, off2, rfl, hbz, hbl2, hc⟩ := (hx1.keep (Kept.of_below hB)).rec chgV_len (by decide) hltj
                  have q0 := hc 0 _ rfl
                  have q1 := hc 1 _ rfl
                  have q2 := hc 2 _ rfl
                  simp only [Nat.add_zero] at q0
                  have hd := putE_drop a row xs j hltj
                  have he := nextE_drop a nz xs j hltj
                  have hdv := Hdv.out xs[j] (List.getElem_mem hltj)
                  clear hc
                  generalize xs[j] = x at *
                  obtain ⟨t, dv, ps⟩ := x
                  simp only at hd he hdv q0 q1 q2
                  obtain ⟨dn, rfl⟩ := Int.eq_ofNat_of_zero_le hdv.1
                  have hdr : dn < row.length := by rw [Hrl2.out, Hsl.out]; omega
                  have hds : dn < st.length := by rw [Hsl.out]; omega
                  rw [Int.toNat_natCast] at hd
                  by_cases ht : (t == (a : Int)) = true
                  · have hta : t = (a : Int) := by simpa using ht
                    have d1 : decide ((a : Int) < t) = false := decide_eq_false (by omega)
                    rw [if_pos hta] at hd
                    rw [if_neg (by omega)] at he
                    have Hd := Lib.hid hd
                    have He := Lib.hid he
                    obtain ⟨g4, o4, rfl, hg4, hg4l, r1, r2⟩ := oN.at_ hdr
                    have oN1 := oN.set dn ps
                    have hap4 : blockOf A5 ≠ some g4 := fun h => hap g4 h rfl
                    have oY1 : OO _ (fun g => w1.heap.size ≤ g) A5 c5 ys := OV.store oY (o4 + dn) (.int .i64 ps) hap4
                    have hne24 : b2 ≠ g4 := by have : w1.heap.size ≤ g4 := hg4; omega
                    have p0 : (wr.drew.setCell ⟨g4, o4 + dn, none⟩ (.int .i64 ps)).cell? ⟨b2, off2 + j * 3, none⟩ = some (.int .i64 t) := (World.cell?_of_block ((Kept.setCell (S := fun b => b ≠ g4) (w := wr.drew) (p := ⟨g4, o4 + dn, none⟩) (fun h => h rfl) (.int .i64 ps)).2 b2 hne24 hbl2)).trans q0
                    clear hd he hta
                    go_wp2_with (fail)
                    go_still_tail 12, (by kernel_rfl)
                    change wpList _ _ _ _ _ wr.drew
                    go_wp2_with (fail)
                    go_roundg (gk - 1)
                    case measure => have := Hj.out; omega
                    case rel => exact ⟨j + 1, row.set dn ps, nz, by have := Hj.out; omega, by go_num, rfl, by rw [List.length_set]; exact Hrl2.out, Lib.hid (by rw [HP.out, Hd.out]), Lib.hid (by rw [HX.out, He.out]), oN1.keep (Kept.drew _ _), OV.keep oY1 (Kept.drew _ _), (hB.setCell (p := ⟨g4, _, none⟩) (by show w1.heap.size ≤ g4; exact hg4) _).drew⟩
                  · have ht : (t == (a : Int)) = false := by simpa using ht
                    have hta : ¬ t = (a : Int) := by simpa using ht
                    rw [if_neg hta] at hd
                    have Hd := Lib.hid hd
                    by_cases h1 : (a : Int) < t
                    · have d1 : decide ((a : Int) < t) = true := decide_eq_true h1
                      by_cases h2 : t < nz
                      · have d2 : decide (t < nz) = true := decide_eq_true h2
                        rw [if_pos ⟨h1, h2⟩] at he
                        have He := Lib.hid he
                        clear hd he hta
                        go_wp2_with (fail)
                        go_roundg (gk - 1)
                        case measure => have := Hj.out; omega
                        case rel => exact ⟨j + 1, row, t, by have := Hj.out; omega, by go_num, rfl, Hrl2.out, Lib.hid (by rw [HP.out, Hd.out]), Lib.hid (by rw [HX.out, He.out]), oN, oY, hB⟩
                      · have d2 : decide (t < nz) = false := decide_eq_false h2
                        rw [if_neg (by omega)] at he
                        have He := Lib.hid he
                        clear hd he hta
                        go_wp2_with (fail)
                        go_roundg (gk - 1)
                        case measure => have := Hj.out; omega
                        case rel => exact ⟨j + 1, row, nz, by have := Hj.out; omega, by go_num, rfl, Hrl2.out, Lib.hid (by rw [HP.out, Hd.out]), Lib.hid (by rw [HX.out, He.out]), oN, oY, hB⟩
                    · have d1 : decide ((a : Int) < t) = false := decide_eq_false h1
                      rw [if_neg (by omega)] at he
                      have He := Lib.hid he
                      clear hd he hta
                      go_wp2_with (fail)
                      go_roundg (gk - 1)
                      case measure => have := Hj.out; omega
                      case rel => exact ⟨j + 1, row, nz, by have := Hj.out; omega, by go_num, rfl, Hrl2.out, Lib.hid (by rw [HP.out, Hd.out]), Lib.hid (by rw [HX.out, He.out]), oN, oY, hB⟩
                · have hrow : row = putC a st xs := by rw [← HRow.out, HP.out, List.drop_of_length_le (by omega)]; rfl
                  have hnz : nz = nx := by rw [← Hnx.out, HX.out, List.drop_of_length_le (by omega)]; rfl
                  subst hnz
                  have hmm := HM.out a
                  rw [← hrow] at hmm
                  have hse : suppliedE ns ds row = (supL ns ds row, 0) := by unfold suppliedE; rw [if_neg (not_not_intro hmm)]
                  have hsu := refSupplied_any wr (fun _ => True) (some ⟨b, off, none⟩) A2 c1 c2 ns ds ((hn1.below hB).mono (fun _ _ _ => trivial)) hl1 hl2 A3 c3 row ((OI.si oN).mono (fun _ _ _ => trivial)) (by rw [Hrl2.out]; exact hsl)
                  rw [hse, Hrl2.out] at hsu
                  have HSu := Lib.hid hsu
                  have hlsu := supL_len ns ds row
                  have Hru := HRun.out
                  rw [← hrow] at Hru
                  have HRu := Lib.hid Hru
                  have Hrow := Lib.hid hrow
                  clear hse hsu hmm HP HX Hj HRun HRow hrow Hru
                  generalize supL ns ds row = sl at *
                  have hbx := (hB.block _ hwz).trans Hbox.out
                  have n0 : wr.cell? ⟨w.heap.size, 0, none⟩ = some (.slice (some ⟨b, off, none⟩) ns.length c1) := by rw [cell_of_row wr _ 0 _ _ _ hbx]; rfl
                  have n1 : wr.cell? ⟨w.heap.size, 1, none⟩ = some (.slice A2 ds.length c2) := by rw [cell_of_row wr _ 1 _ _ _ hbx]; rfl
                  go_wp2_with (fail)
                  refine HSu.out.mono ?_
                  clear HSu n0 n1 hbx
                  rintro e w6 ⟨As, cs, rfl, oS, hb6⟩
                  have oS : OI w6 (fun g => wr.heap.size ≤ g) As cs sl := oS
                  have hB6 := hB.trans (hb6.mono hB.size)
                  have oN6 := oN.keep (Kept.of_below hb6)
                  have oY6 : OO w6 (fun g => w1.heap.size ≤ g) A5 c5 ys := OV.keep oY (Kept.of_below hb6)
                  clear oN oY hb6
                  go_wp2_with (fail)
                  go_loopg [18, 21] sl.length (fun g vb vi wq => ∃ (j : Nat) (up : Bool), j + g = sl.length ∧ vi = .int .i64 j ∧ vb = .bool up ∧ Hid (sl.contains (k : Int) = (up || (sl.drop j).contains (k : Int))) ∧ wq = w6)
                  case atStart => exact ⟨0, false, by omega, rfl, rfl, Lib.hid (by simp), rfl⟩
                  case round =>
                    obtain ⟨j, up, hj, rfl, rfl, HU, rfl⟩ := hrel
                    have Hj := Lib.hid hj
                    clear hj
                    by_cases hltj : j < sl.length
                    · obtain ⟨bs, os, rfl, _, _, q0⟩ := (OI.si oS).at_ hltj
                      have hcn : (sl.drop j).contains (k : Int) = ((k : Int) == sl[j] || (sl.drop (j + 1)).contains (k : Int)) := by rw [List.drop_eq_getElem_cons hltj, List.contains_cons]
                      generalize sl[j] = sj at *
                      cases up
                      · by_cases hsk : sj = (k : Int)
                        · have d1 : (sj == (k : Int)) = true := by simpa using hsk
                          have HU2 := Lib.hid (show sl.contains (k : Int) = (true || (sl.drop (j + 1)).contains (k : Int)) by rw [HU.out, hcn, hsk]; simp)
                          clear hcn hsk
                          go_wp2_with (fail)
                          go_roundg (gk - 1)
                          case measure => have := Hj.out; omega
                          case rel => exact ⟨j + 1, true, by have := Hj.out; omega, by go_num, rfl, HU2, rfl⟩
                        · have d1 : (sj == (k : Int)) = false := by simpa using hsk
                          have HU2 := Lib.hid (show sl.contains (k : Int) = (false || (sl.drop (j + 1)).contains (k : Int)) by rw [HU.out, hcn, show ((k : Int) == sj) = false by simp; exact fun e => hsk e.symm]; simp)
                          clear hcn hsk
                          go_wp2_with (fail)
                          go_roundg (gk - 1)
                          case measure => have := Hj.out; omega
                          case rel => exact ⟨j + 1, false, by have := Hj.out; omega, by go_num, rfl, HU2, rfl⟩
                      · have HU2 := Lib.hid (show sl.contains (k : Int) = (true || (sl.drop (j + 1)).contains (k : Int)) by rw [HU.out]; simp)
                        clear hcn q0
                        go_wp2_with (fail)
                        go_roundg (gk - 1)
                        case measure => have := Hj.out; omega
                        case rel => exact ⟨j + 1, true, by have := Hj.out; omega, by go_num, rfl, HU2, rfl⟩
                    · have hup : sl.contains (k : Int) = up := by rw [HU.out, List.drop_of_length_le (by omega)]; simp
                      have hru := HRu.out
                      rw [hup] at hru
                      have hT := HT.out
                      rw [hru] at hT
                      have HNx := Lib.hid (show putC ((nx : Int) - 1) st xs = row by rw [HNxt.out, Hrow.out])
                      clear hup hru HU Hj HRu HT oS
                      cases up
                      · rw [if_neg (by decide)] at hT
                        by_cases hfr : fr < 0
                        · have d1 : decide (fr < 0) = true := decide_eq_true hfr
                          rw [if_pos hfr] at hT
                          have HT2 := Lib.hid hT
                          clear hT
                          go_wp2_with (fail)
                          go_roundg (tn - nx)
                          case measure => have := Hag.out; omega
                          case rel => exact ⟨nx, a, A5, c5, ys, by omega, rfl, rfl, rfl, HT2, oY6, by rw [HNx.out]; exact oN6, hap, hB6⟩
                        · have d1 : decide (fr < 0) = false := decide_eq_false hfr
                          rw [if_neg hfr] at hT
                          have HT2 := Lib.hid hT
                          clear hT
                          go_wp2_with (fail)
                          go_roundg (tn - nx)
                          case measure => have := Hag.out; omega
                          case rel => exact ⟨nx, fr, A5, c5, ys, by omega, rfl, rfl, rfl, HT2, oY6, by rw [HNx.out]; exact oN6, hap, hB6⟩
                      · rw [if_pos rfl] at hT
                        by_cases hfr : 0 ≤ fr
                        · have d1 : decide (0 ≤ fr) = true := decide_eq_true hfr
                          rw [if_pos hfr] at hT
                          have HT2 := Lib.hid (show TT = (ys ++ [mkOut k cu' (fr, (a : Int))]) ++ (runG (F k) (tn - nx) nx (-1)).map (mkOut k cu') by rw [hT]; simp)
                          have hbx := (hB6.block _ hwz).trans Hbox.out
                          obtain ⟨wq, rfl⟩ : ∃ x : World, x = wr := ⟨_, rfl⟩
                          have n0 : wq.cell? ⟨w.heap.size, 0, none⟩ = some (.slice (some ⟨b, off, none⟩) ns.length c1) := by rw [cell_of_row wq _ 0 _ _ _ hbx]; rfl
                          have n1 : wq.cell? ⟨w.heap.size, 1, none⟩ = some (.slice A2 ds.length c2) := by rw [cell_of_row wq _ 1 _ _ _ hbx]; rfl
                          have HO1 := Lib.hid (HO.out wq hB6 fr a)
                          clear hT hbx
                          go_wp2_with (fail)
                          refine HO1.out.mono ?_
                          clear HO1 n0 n1
                          rintro e w7 ⟨rfl, hb7⟩
                          have hB7 := hB6.trans (hb7.mono hB6.size)
                          have oN7 := oN6.keep (Kept.of_below hb7)
                          have oY7 : OO w7 (fun g => w1.heap.size ≤ g) A5 c5 ys := OV.keep oY6 (Kept.of_below hb7)
                          have oYa := OV.keep oY7 (Kept.alloc _ w7 (.cells (outV (mkOut k cu' (fr, (a : Int)))).toArray 141))
                          have oNa := oN7.keep (Kept.alloc _ w7 (.cells (outV (mkOut k cu' (fr, (a : Int)))).toArray 141))
                          have hz7 := hB7.size
                          have hy2 : (ys ++ [mkOut k cu' (fr, (a : Int))]).length = ys.length + 1 := by simp
                          have Hy2 := Lib.hid hy2
                          clear hy2 oY6 oN6 oY7 oN7 hb7
                          go_wp2_with (at_builtin; go_must (refine wpList_pushRec outV_len (by decide) (B := w1.heap.size) 83 141 _ 32 Tryd.underlying83 outInfo rfl (by decide) rfl (.tmp 129) (.tmp 135) rfl (xs := ys) (mkOut k cu' (fr, (a : Int))) (outV_one _) rfl rfl rfl oYa (out_cells _ _ rfl _) (by omega) (by simp; omega) ?_); intro A7 c7 w8 ho8 hb8 hg8 ha8)
                          go_roundg (tn - nx)
                          case measure => have := Hag.out; omega
                          case rel =>
                            exact ⟨nx, -1, A7, c7, ys ++ [mkOut k cu' (fr, (a : Int))], by omega, rfl, rfl, by rw [Hy2.out], HT2, ho8, by rw [HNx.out]; exact oth22 oNa hg8 hap, apart22 oNa hap ha8, (hB7.alloc hB7.size _).trans hb8⟩
                        · have d1 : decide (0 ≤ fr) = false := decide_eq_false hfr
                          rw [if_neg hfr] at hT
                          have HT2 := Lib.hid hT
                          clear hT
                          go_wp2_with (fail)
                          go_roundg (tn - nx)
                          case measure => have := Hag.out; omega
                          case rel => exact ⟨nx, fr, A5, c5, ys, by omega, rfl, rfl, rfl, HT2, oY6, by rw [HNx.out]; exact oN6, hap, hB6⟩
            · have hat : a = tn := by have := Hag.out; omega
              subst hat
              have hT := HT.out
              rw [Nat.sub_self, runG] at hT
              by_cases hfr : 0 ≤ fr
              · have d1 : decide (0 ≤ fr) = true := decide_eq_true hfr
                rw [if_pos hfr] at hT
                have HTe := Lib.hid (show TT = ys ++ [mkOut k cu' (fr, (a : Int))] from hT)
                have hbx := (hB.block _ hwz).trans Hbox.out
                have n0 : wa.cell? ⟨w.heap.size, 0, none⟩ = some (.slice (some ⟨b, off, none⟩) ns.length c1) := by rw [cell_of_row wa _ 0 _ _ _ hbx]; rfl
                have n1 : wa.cell? ⟨w.heap.size, 1, none⟩ = some (.slice A2 ds.length c2) := by rw [cell_of_row wa _ 1 _ _ _ hbx]; rfl
                have HO1 := Lib.hid (HO.out wa hB fr a)
                clear hT hbx HT
                go_wp2_with (fail)
                refine HO1.out.mono ?_
                clear HO1 n0 n1
                rintro e w7 ⟨rfl, hb7⟩
                have hB7 := hB.trans (hb7.mono hB.size)
                have oY7 : OO w7 (fun g => w1.heap.size ≤ g) A5 c5 ys := OV.keep oY (Kept.of_below hb7)
                have oYa := OV.keep oY7 (Kept.alloc _ w7 (.cells (outV (mkOut k cu' (fr, (a : Int)))).toArray 141))
                have hz7 := hB7.size
                have Hy2 := Lib.hid (show (ys ++ [mkOut k cu' (fr, (a : Int))]).length = ys.length + 1 by simp)
                clear oY oN oY7 hb7
                go_wp2_with (at_builtin; go_must (refine wpList_pushRec outV_len (by decide) (B := w1.heap.size) 83 141 _ 32 Tryd.underlying83 outInfo rfl (by decide) rfl (.tmp 140) (.tmp 146) rfl (xs := ys) (mkOut k cu' (fr, (a : Int))) (outV_one _) rfl rfl rfl oYa (out_cells _ _ rfl _) (by omega) (by simp; omega) ?_); intro A7 c7 w8 ho8 hb8 hg8 ha8)
                go_roundg (gko - 1)
                case measure => have := Hk.out; omega
                case rel => exact ⟨k + 1, A7, c7, by have := Hk.out; omega, by go_num, by rw [HTT.out, HTe.out, Hy2.out], by rw [HTT.out, HTe.out]; exact ho8, (hB7.alloc hB7.size _).trans hb8⟩
              · have d1 : decide (0 ≤ fr) = false := decide_eq_false hfr
                rw [if_neg hfr] at hT
                have HTe := Lib.hid (show TT = ys from by rw [hT]; simp)
                clear hT HT
                go_wp2_with (fail)
                go_roundg (gko - 1)
                case measure => have := Hk.out; omega
                case rel => exact ⟨k + 1, A5, c5, by have := Hk.out; omega, by go_num, by rw [HTT.out, HTe.out], by rw [HTT.out, HTe.out]; exact oY, hB⟩
      · have hkn : k = ns.length := by have := Hk.out; omega
        subst hkn
        go_wp2_with (fail)
        go_ret2
        rw [HE.out]
        exact ⟨A', c', rfl, OV.mono ho (fun g _ hg => by have hg : w1.heap.size ≤ g := hg; have := hbA.size; show w.heap.size ≤ g; omega), hbA.trans (hB.mono hbA.size)⟩
end Go.Proofs.YtgpcojmdfmngeaaDoor

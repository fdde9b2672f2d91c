/-
  The law NetworkLimits, walked.
-/
import Derived.Test.YtpeifmkodoignaaDoorL03a
import Derived.Test.YtpeifmkodoignaaDoorExt3
import Derived.Deep.DeepCutAuto
namespace Go.Proofs.YtpeifmkodoignaaDoor
open Go.RowKit
set_option maxHeartbeats 400000
set_option maxRecDepth 100000

/-- What is kept while nodes are added: nothing that was there has changed; the devices. -/
structure LM (w W : World) (gx : Nat) (A2 : Option Addr) (c2 : Nat) (ds : List Dev) : Prop where
  bel : Below w.heap.size w W
  gxw : w.heap.size ≤ gx
  gxl : gx < W.heap.size
  devs : OV W (fun g => gx < g) 43 5 A2 ds.length c2 (devsV ds)

/-- What is kept while devices are added. -/
structure LN (w W : World) (gx : Nat) (A1 : Option Addr) (k c1 : Nat) (ns : List Node) : Prop where
  bel : Below w.heap.size w W
  gxw : w.heap.size ≤ gx
  gxl : gx < W.heap.size
  nodes : OV W (fun g => gx < g) 41 3 A1 k c1 (nodesV ns)
theorem LN.keep {w W W' : World} {gx : Nat} {A1 : Option Addr} {k c1 : Nat} {ns : List Node} (h : LN w W gx A1 k c1 ns) (hb : Below w.heap.size W W') (hk : ∀ g, blockOf A1 = some g → W'.heap[g]? = W.heap[g]?) : LN w W' gx A1 k c1 ns := ⟨h.bel.trans hb, h.gxw, Nat.lt_of_lt_of_le h.gxl hb.size, h.nodes.keep1 hk⟩
theorem LN.alloc {w W : World} {gx : Nat} {A1 : Option Addr} {k c1 : Nat} {ns : List Node} (h : LN w W gx A1 k c1 ns) (o : Obj) : LN w (W.alloc o) gx A1 k c1 ns := h.keep ((Below.refl _ _).alloc h.bel.size _) (fun g hg => Below.heap_alloc _ _ _ (h.nodes.block g hg).2)
theorem bfalse {b c : Bool} (h : b = true → c = true) (hc : c = false) : b = false := by
  cases b
  · rfl
  · rw [h rfl] at hc; cases hc
section
variable {w W W' : World} {gx : Nat} {A2 : Option Addr} {c2 : Nat} {ds : List Dev}
theorem LM.keep (h : LM w W gx A2 c2 ds) (hb : Below w.heap.size W W') (hk : ∀ g, blockOf A2 = some g → W'.heap[g]? = W.heap[g]?) : LM w W' gx A2 c2 ds := ⟨h.bel.trans hb, h.gxw, Nat.lt_of_lt_of_le h.gxl hb.size, h.devs.keep1 hk⟩
theorem LM.alloc (h : LM w W gx A2 c2 ds) (o : Obj) : LM w (W.alloc o) gx A2 c2 ds := h.keep ((Below.refl _ _).alloc h.bel.size _) (fun g hg => Below.heap_alloc _ _ _ (h.devs.block g hg).2)
end
def limN (lt : ByteArray) (j : Nat) : Node := ⟨⟨#[78]⟩ ++ lt.extract j (j + 1), 0, 0⟩
def limD (lt : ByteArray) (j : Nat) : Dev := ⟨(⟨#[69]⟩ ++ lt.extract (j / 8) (j / 8 + 1)) ++ lt.extract (j % 8) (j % 8 + 1), 4, (j % 5 : Nat), -1, 0⟩

theorem limN_size (lt : ByteArray) (k : Nat) : ∀ x ∈ (List.range k).map (limN lt), x.name.size ≤ maxLen := by
  intro x hx
  obtain ⟨i, _, rfl⟩ := List.mem_map.1 hx
  simp only [limN, ByteArray.size_append, ByteArray.size_extract, maxLen]
  have : (ByteArray.mk #[78]).size = 1 := rfl
  omega
theorem limD_size (lt : ByteArray) (k : Nat) : ∀ x ∈ (List.range k).map (limD lt), x.name.size ≤ maxLen := by
  intro x hx
  obtain ⟨i, _, rfl⟩ := List.mem_map.1 hx
  simp only [limD, ByteArray.size_append, ByteArray.size_extract, maxLen]
  have : (ByteArray.mk #[69]).size = 1 := rfl
  omega
theorem lim_ok : ∀ k, k < 2 → ∀ m, m < 2 → checkL ((List.range (31 + k)).map (limN ⟨#[97, 98, 99, 100, 101, 102, 103, 104, 105, 106, 107, 108, 109, 110, 111, 112, 113, 114, 115, 116, 117, 118, 119, 120, 121, 122, 65, 66, 67, 68, 69, 70, 71, 72, 73, 74, 75, 76, 77, 78, 79, 80, 81, 82, 83, 84, 85, 86, 87, 88, 89, 90]⟩)) ((List.range (63 + m)).map (limD ⟨#[97, 98, 99, 100, 101, 102, 103, 104, 105, 106, 107, 108, 109, 110, 111, 112, 113, 114, 115, 116, 117, 118, 119, 120, 121, 122, 65, 66, 67, 68, 69, 70, 71, 72, 73, 74, 75, 76, 77, 78, 79, 80, 81, 82, 83, 84, 85, 86, 87, 88, 89, 90]⟩)) = 0 := by decide +kernel
theorem lim_check (k m : Nat) (h1 : 31 ≤ k) (h2 : k ≤ 33) (h3 : 63 ≤ m) (h4 : m ≤ 65) : checkL ((List.range k).map (limN ⟨#[97, 98, 99, 100, 101, 102, 103, 104, 105, 106, 107, 108, 109, 110, 111, 112, 113, 114, 115, 116, 117, 118, 119, 120, 121, 122, 65, 66, 67, 68, 69, 70, 71, 72, 73, 74, 75, 76, 77, 78, 79, 80, 81, 82, 83, 84, 85, 86, 87, 88, 89, 90]⟩)) ((List.range m).map (limD ⟨#[97, 98, 99, 100, 101, 102, 103, 104, 105, 106, 107, 108, 109, 110, 111, 112, 113, 114, 115, 116, 117, 118, 119, 120, 121, 122, 65, 66, 67, 68, 69, 70, 71, 72, 73, 74, 75, 76, 77, 78, 79, 80, 81, 82, 83, 84, 85, 86, 87, 88, 89, 90]⟩)) = if k ≤ 32 ∧ m ≤ 64 then 0 else 1 := by
  by_cases h : k ≤ 32 ∧ m ≤ 64
  · rw [if_pos h]
    have := lim_ok (k - 31) (by omega) (m - 63) (by omega)
    rw [show 31 + (k - 31) = k by omega, show 63 + (m - 63) = m by omega] at this
    exact this
  · rw [if_neg h]
    unfold checkL
    rw [if_pos (by simp; omega)]

set_option maxHeartbeats 4000000 in
theorem networkLimits_row (w : World) (h : TabC w) (a b : Nat) :
    Calls Tryd.prog 5 #[.int .u8 a, .int .u8 b] w (RetT w) := by
  go_enter Tryd.func5, Tryd.ntmps5
  go_wp2_with (fail)
  have hkk : ∃ kk : Nat, (31 : Int) + (a : Int) % 3 = kk ∧ 31 ≤ kk ∧ kk ≤ 33 := ⟨31 + a % 3, by omega, by omega, by omega⟩
  have hmm : ∃ mm : Nat, (63 : Int) + (b : Int) % 3 = mm ∧ 63 ≤ mm ∧ mm ≤ 65 := ⟨63 + b % 3, by omega, by omega, by omega⟩
  obtain ⟨kk, hk0, hk1, hk2⟩ := hkk
  obtain ⟨mm, hm0, hm1, hm2⟩ := hmm
  rw [hk0, hm0]
  clear hk0 hm0
  generalize hlt : (⟨#[97, 98, 99, 100, 101, 102, 103, 104, 105, 106, 107, 108, 109, 110, 111, 112, 113, 114, 115, 116, 117, 118, 119, 120, 121, 122, 65, 66, 67, 68, 69, 70, 71, 72, 73, 74, 75, 76, 77, 78, 79, 80, 81, 82, 83, 84, 85, 86, 87, 88, 89, 90]⟩ : ByteArray) = lt
  have hsz : lt.size = 52 := by rw [← hlt]; rfl
  have Hlt := Lib.hid hlt
  have Hsz := Lib.hid hsz
  clear hlt hsz
  go_loopg [9] kk (fun g i wr => ∃ (j : Nat) (A1 : Option Addr) (c1 : Nat), j + g = kk ∧ i = .int .i64 j ∧ wr.heap[w.heap.size]? = some (.cells #[.slice A1 j c1, .slice none 0 0] 30 (0, 0)) ∧ OV wr (fun g => w.heap.size < g) 41 3 A1 j c1 (nodesV ((List.range j).map (limN lt))) ∧ LM w wr w.heap.size none 0 [])
  case atStart => exact ⟨0, none, 0, by omega, rfl, heap_alloc_new w _, OV.nil _ _ _ _, ⟨(Below.refl _ _).alloc (Nat.le_refl _) _, Nat.le_refl _, by simp, OV.nil _ _ _ _⟩⟩
  case round =>
    obtain ⟨j, A1, c1, hj, rfl, hbox, hown, M⟩ := hrel
    have Hj := Lib.hid hj
    have Hbox := Lib.hid hbox
    clear hj hbox
    have hj33 : j ≤ 33 := by have := Hj.out; omega
    by_cases hlt : j < kk
    · obtain ⟨ns, hns⟩ : ∃ ns, ns = (List.range j).map (limN lt) := ⟨_, rfl⟩
      have hnl : ns.length = j := by rw [hns]; simp
      rw [← hns] at hown
      obtain ⟨x, hx⟩ : ∃ x, x = limN lt j := ⟨_, rfl⟩
      have Hns := Lib.hid hns
      have Hnl := Lib.hid hnl
      have Hx := Lib.hid hx
      clear hns hnl hx
      have HA1 := Lib.hid (fun g hg => hown.block g hg)
      have Hown := Lib.hid hown
      have HM := Lib.hid M
      clear hown M
      go_upto_region 7 with (fail)
      refine wp_region_ext2X (by kernel_rfl) 13 [24, 25, 26, 27, 28, 29, 30, 31, 32, 33, 34, 35] (fun a b => a.heap.size ≤ b.heap.size ∧ ∀ k, k < a.heap.size → k ≠ w.heap.size → some k ≠ blockOf A1 → b.heap[k]? = a.heap[k]?) (fun d v w' => if d = 24 then v = .pointer (some ⟨w.heap.size, 0, none⟩) else if d = 25 then v = .slice A1 j c1 else if d = 26 then v = .string lt else if d = 27 then v = .int .i64 (j : Nat) else if d = 28 then v = .int .i64 (j : Nat) else if d = 29 then v = .int .i64 ((j : Nat) + 1) else if d = 30 then v = .string (lt.extract j (j + 1)) else if d = 31 then v = .string x.name else if d = 32 then v = .agg #[.string x.name, .int .i64 0, .int .i64 0] else if d = 35 then v = .pointer (some ⟨w.heap.size, 0, none⟩) else if d = 33 then ∃ b, v = .slice (some ⟨b, 0, none⟩) 1 1 ∧ b ≠ w.heap.size ∧ some b ≠ blockOf A1 ∧ w'.heap[b]? = some (.cells (nodeCells x).toArray 41 (0, 0)) else if d = 34 then ∃ A' c', v = .slice A' (j + 1) c' else False) (fun dn f W' => (LM w W' w.heap.size none 0 [] ∧ wr.heap.size ≤ W'.heap.size) ∧ (dn 10 = false → OV W' (fun g => w.heap.size < g) 41 3 A1 j c1 (nodesV ns)) ∧ (dn 10 = true → dn 1 = true ∧ ∃ A' c', f 34 = .slice A' (j + 1) c' ∧ OV W' (fun g => w.heap.size < g) 41 3 A' (j + 1) c' (nodesV (ns ++ [x]))) ∧ (dn 12 = false → W'.heap[w.heap.size]? = some (.cells #[.slice A1 j c1, .slice none 0 0] 30 (0, 0))) ∧ (dn 12 = true → dn 10 = true ∧ ∃ A' c', f 34 = .slice A' (j + 1) c' ∧ W'.heap[w.heap.size]? = some (.cells #[.slice A' (j + 1) c', .slice none 0 0] 30 (0, 0)))) (by kernel_rfl) (⟨⟨HM.out.keep ((Below.refl _ _).drew) (fun _ _ => rfl), Nat.le_refl _⟩, fun _ => Hown.out.keep (Kept.drew _ _), fun h => (by cases h), fun _ => Hbox.out, fun h => (by cases h)⟩) (fun d v w1 w2 hE hT => by
          by_cases h33 : d = 33
          · subst h33
            obtain ⟨b, e1, e2, e3, e4⟩ : ∃ b, v = .slice (some ⟨b, 0, none⟩) 1 1 ∧ b ≠ w.heap.size ∧ some b ≠ blockOf A1 ∧ w1.heap[b]? = some (.cells (nodeCells x).toArray 41 (0, 0)) := hT
            exact (show ∃ b, v = .slice (some ⟨b, 0, none⟩) 1 1 ∧ b ≠ w.heap.size ∧ some b ≠ blockOf A1 ∧ w2.heap[b]? = some (.cells (nodeCells x).toArray 41 (0, 0)) from ⟨b, e1, e2, e3, (hE.2 b (Array.getElem?_eq_some_iff.1 e4).1 e2 e3).trans e4⟩)
          · simp only [if_neg h33] at hT ⊢
            exact hT) ?_ ?_
      · intro i o hi ho dn f w1 hX hT hni hdn K hK
        have hi' : i = 0 ∨ i = 1 ∨ i = 2 ∨ i = 3 ∨ i = 4 ∨ i = 5 ∨ i = 6 ∨ i = 7 ∨ i = 8 ∨ i = 9 ∨ i = 10 ∨ i = 11 ∨ i = 12 := by omega
        rcases hi' with rfl | rfl | rfl | rfl | rfl | rfl | rfl | rfl | rfl | rfl | rfl | rfl | rfl
        · simp only [List.getElem?_toArray, List.getElem?_cons_zero, Option.some.injEq] at ho
          subst ho
          generalize hA : fr _ _ _ f = A at hK ⊢
          have e7 : A.tmps[7]?.getD undef = .pointer (some ⟨w.heap.size, 0, none⟩) := by rw [← hA]; exact fr_out _ _ _ _ 7 _ (by decide) rfl
          clear hA
          have HX := Lib.hid hX
          have HT := Lib.hid hT
          have HN := Lib.hid hni
          have HDN := Lib.hid hdn
          clear hX hT hni hdn
          go_simp
          exact hK _ _ ⟨Nat.le_refl _, fun _ _ _ _ => rfl⟩ (fun d hd => by injection hd with hd; subst hd; rfl) (by simpa [nextF] using HX.out)
        · simp only [List.getElem?_toArray, List.getElem?_cons_zero, List.getElem?_cons_succ, Option.some.injEq] at ho
          subst ho
          have h24 : f 24 = .pointer (some ⟨w.heap.size, 0, none⟩) := hT 0 24 (by decide) rfl (hdn { on := 0, ground := .data } (by simp) rfl)
          generalize hA : fr _ _ _ f = A at hK ⊢
          have e24 : A.tmps[24]?.getD undef = f 24 := by rw [← hA]; exact fr_in _ _ _ _ 24 (by decide) (by simp)
          clear hA
          have HX := Lib.hid hX
          have HT := Lib.hid hT
          have HN := Lib.hid hni
          have HDN := Lib.hid hdn
          clear hX hT hni hdn
          have Hf24 := Lib.hid h24
          rw [h24] at e24
          clear h24
          have hx := HX.out
          have hn := HN.out
          have h10 : dn 10 = false := bfalse (fun h => (hx.2.2.1 h).1) hn
          have h12 : dn 12 = false := bfalse (fun h => (hx.2.2.2.2 h).1) h10
          have hcell : w1.cell? ⟨w.heap.size, 0, none⟩ = some (.slice A1 j c1) := by rw [cell_of_row w1 w.heap.size 0 _ _ _ (hx.2.2.2.1 h12)]; rfl
          clear hx hn
          go_simp
          have hx := HX.out
          exact hK _ _ ⟨Nat.le_refl _, fun _ _ _ _ => rfl⟩ (fun d hd => by injection hd with hd; subst hd; rfl) ⟨hx.1, by simpa [nextF] using hx.2.1, fun h => by simp [h10] at h, by simpa [nextF] using hx.2.2.2.1, fun h => by simp [h12] at h⟩
        · simp only [List.getElem?_toArray, List.getElem?_cons_zero, List.getElem?_cons_succ, Option.some.injEq] at ho
          subst ho
          generalize hA : fr _ _ _ f = A at hK ⊢
          have e8 : A.tmps[8]?.getD undef = .string lt := by rw [← hA]; exact fr_out _ _ _ _ 8 _ (by decide) rfl
          clear hA
          have HX := Lib.hid hX
          have HT := Lib.hid hT
          have HN := Lib.hid hni
          have HDN := Lib.hid hdn
          clear hX hT hni hdn
          go_simp
          exact hK _ _ ⟨Nat.le_refl _, fun _ _ _ _ => rfl⟩ (fun d hd => by injection hd with hd; subst hd; rfl) (by simpa [nextF] using HX.out)
        · simp only [List.getElem?_toArray, List.getElem?_cons_zero, List.getElem?_cons_succ, Option.some.injEq] at ho
          subst ho
          generalize hA : fr _ _ _ f = A at hK ⊢
          have e9 : A.tmps[9]?.getD undef = .int .i64 (j : Nat) := by rw [← hA]; exact fr_out _ _ _ _ 9 _ (by decide) rfl
          clear hA
          have HX := Lib.hid hX
          have HT := Lib.hid hT
          have HN := Lib.hid hni
          have HDN := Lib.hid hdn
          clear hX hT hni hdn
          go_simp
          exact hK _ _ ⟨Nat.le_refl _, fun _ _ _ _ => rfl⟩ (fun d hd => by injection hd with hd; subst hd; rfl) (by simpa [nextF] using HX.out)
        · simp only [List.getElem?_toArray, List.getElem?_cons_zero, List.getElem?_cons_succ, Option.some.injEq] at ho
          subst ho
          generalize hA : fr _ _ _ f = A at hK ⊢
          have e9 : A.tmps[9]?.getD undef = .int .i64 (j : Nat) := by rw [← hA]; exact fr_out _ _ _ _ 9 _ (by decide) rfl
          clear hA
          have HX := Lib.hid hX
          have HT := Lib.hid hT
          have HN := Lib.hid hni
          have HDN := Lib.hid hdn
          clear hX hT hni hdn
          go_simp
          exact hK _ _ ⟨Nat.le_refl _, fun _ _ _ _ => rfl⟩ (fun d hd => by injection hd with hd; subst hd; rfl) (by simpa [nextF] using HX.out)
        · simp only [List.getElem?_toArray, List.getElem?_cons_zero, List.getElem?_cons_succ, Option.some.injEq] at ho
          subst ho
          have h28 : f 28 = .int .i64 (j : Nat) := hT 4 28 (by decide) rfl (hdn { on := 4, ground := .data } (by simp) rfl)
          generalize hA : fr _ _ _ f = A at hK ⊢
          have e28 : A.tmps[28]?.getD undef = f 28 := by rw [← hA]; exact fr_in _ _ _ _ 28 (by decide) (by simp)
          clear hA
          have HX := Lib.hid hX
          have HT := Lib.hid hT
          have HN := Lib.hid hni
          have HDN := Lib.hid hdn
          clear hX hT hni hdn
          have Hf28 := Lib.hid h28
          rw [h28] at e28
          clear h28
          have hwr : IntKind.i64.wrap ((j : Int) + 1) = (j : Int) + 1 := IntWalk.i64_in _ ⟨by omega, by omega⟩
          go_simp
          exact hK _ _ ⟨Nat.le_refl _, fun _ _ _ _ => rfl⟩ (fun d hd => by injection hd with hd; subst hd; rfl) (by simpa [nextF] using HX.out)
        · simp only [List.getElem?_toArray, List.getElem?_cons_zero, List.getElem?_cons_succ, Option.some.injEq] at ho
          subst ho
          have h26 : f 26 = .string lt := hT 2 26 (by decide) rfl (hdn { on := 2, ground := .data } (by simp) rfl)
          have h27 : f 27 = .int .i64 (j : Nat) := hT 3 27 (by decide) rfl (hdn { on := 3, ground := .data } (by simp) rfl)
          have h29 : f 29 = .int .i64 ((j : Nat) + 1) := hT 5 29 (by decide) rfl (hdn { on := 5, ground := .data } (by simp) rfl)
          generalize hA : fr _ _ _ f = A at hK ⊢
          have e26 : A.tmps[26]?.getD undef = f 26 := by rw [← hA]; exact fr_in _ _ _ _ 26 (by decide) (by simp)
          have e27 : A.tmps[27]?.getD undef = f 27 := by rw [← hA]; exact fr_in _ _ _ _ 27 (by decide) (by simp)
          have e29 : A.tmps[29]?.getD undef = f 29 := by rw [← hA]; exact fr_in _ _ _ _ 29 (by decide) (by simp)
          clear hA
          have HX := Lib.hid hX
          have HT := Lib.hid hT
          have HN := Lib.hid hni
          have HDN := Lib.hid hdn
          clear hX hT hni hdn
          have Hf26 := Lib.hid h26
          rw [h26] at e26
          clear h26
          have Hf27 := Lib.hid h27
          rw [h27] at e27
          clear h27
          have Hf29 := Lib.hid h29
          rw [h29] at e29
          clear h29
          go_simp
          have hsz := Hsz.out
          rw [if_pos ⟨by omega, by omega⟩, if_pos (by omega)]
          clear hsz
          go_simp
          exact hK _ _ ⟨Nat.le_refl _, fun _ _ _ _ => rfl⟩ (fun d hd => by injection hd with hd; subst hd; rfl) (by simpa [nextF] using HX.out)
        · simp only [List.getElem?_toArray, List.getElem?_cons_zero, List.getElem?_cons_succ, Option.some.injEq] at ho
          subst ho
          have h30 : f 30 = .string (lt.extract j (j + 1)) := hT 6 30 (by decide) rfl (hdn { on := 6, ground := .data } (by simp) rfl)
          generalize hA : fr _ _ _ f = A at hK ⊢
          have e30 : A.tmps[30]?.getD undef = f 30 := by rw [← hA]; exact fr_in _ _ _ _ 30 (by decide) (by simp)
          clear hA
          have HX := Lib.hid hX
          have HT := Lib.hid hT
          have HN := Lib.hid hni
          have HDN := Lib.hid hdn
          clear hX hT hni hdn
          have Hf30 := Lib.hid h30
          rw [h30] at e30
          clear h30
          go_simp
          have hsz := Hsz.out
          rw [if_neg (by omega)]
          clear hsz
          go_simp
          exact hK _ _ ⟨Nat.le_refl _, fun _ _ _ _ => rfl⟩ (fun d hd => by injection hd with hd; subst hd; exact congrArg Value.string (by rw [Hx.out]; rfl)) (by simpa [nextF] using HX.out)
        · simp only [List.getElem?_toArray, List.getElem?_cons_zero, List.getElem?_cons_succ, Option.some.injEq] at ho
          subst ho
          have h31 : f 31 = .string x.name := hT 7 31 (by decide) rfl (hdn { on := 7, ground := .data } (by simp) rfl)
          generalize hA : fr _ _ _ f = A at hK ⊢
          have e31 : A.tmps[31]?.getD undef = f 31 := by rw [← hA]; exact fr_in _ _ _ _ 31 (by decide) (by simp)
          clear hA
          have HX := Lib.hid hX
          have HT := Lib.hid hT
          have HN := Lib.hid hni
          have HDN := Lib.hid hdn
          clear hX hT hni hdn
          have Hf31 := Lib.hid h31
          rw [h31] at e31
          clear h31
          go_simp
          exact hK _ _ ⟨Nat.le_refl _, fun _ _ _ _ => rfl⟩ (fun d hd => by injection hd with hd; subst hd; rfl) (by simpa [nextF] using HX.out)
        · simp only [List.getElem?_toArray, List.getElem?_cons_zero, List.getElem?_cons_succ, Option.some.injEq] at ho
          subst ho
          have h32 : f 32 = .agg #[.string x.name, .int .i64 0, .int .i64 0] := hT 8 32 (by decide) rfl (hdn { on := 8, ground := .data } (by simp) rfl)
          generalize hA : fr _ _ _ f = A at hK ⊢
          have e32 : A.tmps[32]?.getD undef = f 32 := by rw [← hA]; exact fr_in _ _ _ _ 32 (by decide) (by simp)
          clear hA
          have HX := Lib.hid hX
          have HT := Lib.hid hT
          have HN := Lib.hid hni
          have HDN := Lib.hid hdn
          clear hX hT hni hdn
          have Hf32 := Lib.hid h32
          rw [h32] at e32
          clear h32
          go_simp
          have hx := HX.out
          have hgl := hx.1.1.gxl
          have hal : ∀ o : Obj, ∀ k, k < w1.heap.size → (w1.alloc o).heap[k]? = w1.heap[k]? := fun o k hk => Below.heap_alloc _ _ _ hk
          refine hK _ _ ⟨by simp, fun k hk _ _ => hal _ k hk⟩ (fun d hd => by injection hd with hd; subst hd; exact ⟨w1.heap.size, rfl, by omega, fun e => by have := (HA1.out _ e.symm).2; have := hx.1.2; omega, by rw [Hx.out]; exact heap_alloc_new w1 _⟩) ?_
          refine ⟨⟨hx.1.1.alloc _, by simp; have := hx.1.2; omega⟩, fun h => (hx.2.1 (by simpa using h)).keep (Kept.alloc _ _ _), fun h => ?_, fun h => (hal _ w.heap.size hgl).trans (hx.2.2.2.1 (by simpa using h)), fun h => ?_⟩
          · obtain ⟨p1, A', c', p2, p3⟩ := hx.2.2.1 (by simpa using h)
            exact ⟨by simp [p1], A', c', by simpa [nextF] using p2, p3.keep (Kept.alloc _ _ _)⟩
          · obtain ⟨p1, A', c', p2, p3⟩ := hx.2.2.2.2 (by simpa using h)
            exact ⟨by simp [p1], A', c', by simpa [nextF] using p2, (hal _ w.heap.size hgl).trans p3⟩
        · simp only [List.getElem?_toArray, List.getElem?_cons_zero, List.getElem?_cons_succ, Option.some.injEq] at ho
          subst ho
          have h25 : f 25 = .slice A1 j c1 := hT 1 25 (by decide) rfl (hdn { on := 1, ground := .data } (by simp) rfl)
          have h33 : ∃ b, f 33 = .slice (some ⟨b, 0, none⟩) 1 1 ∧ b ≠ w.heap.size ∧ some b ≠ blockOf A1 ∧ w1.heap[b]? = some (.cells (nodeCells x).toArray 41 (0, 0)) := hT 9 33 (by decide) rfl (hdn { on := 9, ground := .data } (by simp) rfl)
          have hd1 : dn 1 = true := hdn { on := 1, ground := .data } (by simp) rfl
          generalize hA : fr _ _ _ f = A at hK ⊢
          have e25 : A.tmps[25]?.getD undef = f 25 := by rw [← hA]; exact fr_in _ _ _ _ 25 (by decide) (by simp)
          have e33 : A.tmps[33]?.getD undef = f 33 := by rw [← hA]; exact fr_in _ _ _ _ 33 (by decide) (by simp)
          clear hA
          have HX := Lib.hid hX
          have HT := Lib.hid hT
          have HN := Lib.hid hni
          have HDN := Lib.hid hdn
          clear hX hT hni hdn
          have Hf25 := Lib.hid h25
          rw [h25] at e25
          clear h25
          obtain ⟨b33, h33, n33, m33, k33⟩ := h33
          have Hf33 := Lib.hid h33
          rw [h33] at e33
          clear h33
          have hx := HX.out
          have hn := HN.out
          have h12 : dn 12 = false := bfalse (fun h => (hx.2.2.2.2 h).1) hn
          have ho := hx.2.1 hn
          obtain ⟨i0, hi0, hz0, hz1, hz2⟩ := info_parts nodeInfo
          obtain ⟨A', c', w', hr, h2, h3, h4⟩ := run_append_OV (P := Tryd.prog) w1 (fun g => w.heap.size < g) 27 27 41 i0 _ 3 32 Tryd.underlying27 hi0 hz0 hz1 hz2 rfl (by decide) A1 j c1 (nodesV ns) ho (fun _ => True) (some ⟨b33, 0, none⟩) 1 1 (nodeCells x) rfl (SV.block k33) (by rw [Hx.out]; intro u hu; simp [nodeCells, limN] at hu; rcases hu with rfl | rfl | rfl <;> rfl) (by simp only [maxLen]; omega) (by omega)
          have hgl := hx.1.1.gxl
          have hgxA : some w.heap.size ≠ blockOf A1 := fun e => by have := (HA1.out _ e.symm).1; omega
          refine wp_append (.tmp 25) (.tmp 33) 27 rfl (show A.eval (.tmp 25) = _ by simpa [Act.eval] using e25) (show A.eval (.tmp 33) = _ by simpa [Act.eval] using e33) hr ?_
          refine hK _ _ ⟨h3.size, fun k hk _ hne => h3.block k hk hne⟩ (fun d hd => by injection hd with hd; subst hd; exact ⟨A', c', rfl⟩) ?_
          refine ⟨⟨hx.1.1.keep ((Below.refl _ _).grown h3 hx.1.1.bel.size (fun g hg => by have := (HA1.out g hg).1; omega)) (fun g hg => by cases hg), Nat.le_trans hx.1.2 h3.size⟩, fun h => by simp at h, fun _ => ⟨by simp [hd1], A', c', rfl, ?_⟩, fun _ => (h3.block w.heap.size hgl hgxA).trans (hx.2.2.2.1 h12), fun h => by simp [h12] at h⟩
          have := h2.mono (T := fun g => w.heap.size < g) (fun g _ hg => by rcases hg with hg | hg <;> omega)
          rw [nodesV_snoc]
          exact this
        · simp only [List.getElem?_toArray, List.getElem?_cons_zero, List.getElem?_cons_succ, Option.some.injEq] at ho
          subst ho
          generalize hA : fr _ _ _ f = A at hK ⊢
          have e7 : A.tmps[7]?.getD undef = .pointer (some ⟨w.heap.size, 0, none⟩) := by rw [← hA]; exact fr_out _ _ _ _ 7 _ (by decide) rfl
          clear hA
          have HX := Lib.hid hX
          have HT := Lib.hid hT
          have HN := Lib.hid hni
          have HDN := Lib.hid hdn
          clear hX hT hni hdn
          go_simp
          exact hK _ _ ⟨Nat.le_refl _, fun _ _ _ _ => rfl⟩ (fun d hd => by injection hd with hd; subst hd; rfl) (by simpa [nextF] using HX.out)
        · simp only [List.getElem?_toArray, List.getElem?_cons_zero, List.getElem?_cons_succ, Option.some.injEq] at ho
          subst ho
          have h35 : f 35 = .pointer (some ⟨w.heap.size, 0, none⟩) := hT 11 35 (by decide) rfl (hdn { on := 11, ground := .data } (by simp) rfl)
          have h34 : ∃ A' c', f 34 = .slice A' (j + 1) c' := hT 10 34 (by decide) rfl (hdn { on := 10, ground := .data } (by simp) rfl)
          have hd10 : dn 10 = true := hdn { on := 10, ground := .data } (by simp) rfl
          generalize hA : fr _ _ _ f = A at hK ⊢
          have e35 : A.tmps[35]?.getD undef = f 35 := by rw [← hA]; exact fr_in _ _ _ _ 35 (by decide) (by simp)
          have e34 : A.tmps[34]?.getD undef = f 34 := by rw [← hA]; exact fr_in _ _ _ _ 34 (by decide) (by simp)
          clear hA
          have HX := Lib.hid hX
          have HT := Lib.hid hT
          have HN := Lib.hid hni
          have HDN := Lib.hid hdn
          clear hX hT hni hdn
          have Hf35 := Lib.hid h35
          rw [h35] at e35
          clear h35
          obtain ⟨A34, c34, h34⟩ := h34
          have Hf34 := Lib.hid h34
          rw [h34] at e34
          clear h34
          have hx := HX.out
          have hn := HN.out
          obtain ⟨p1, A', c', p2, p3⟩ := hx.2.2.1 hd10
          have hbx := hx.2.2.2.1 hn
          have hcell : w1.cell? ⟨w.heap.size, 0, none⟩ = some (.slice A1 j c1) := by rw [cell_of_row w1 w.heap.size 0 _ _ _ hbx]; rfl
          have hfz : w1.frozen? ⟨w.heap.size, 0, none⟩ = false := by simp [World.frozen?, hbx]
          have Hbx := Lib.hid hbx
          have HP := Lib.hid (And.intro p2 p3)
          clear hx hn p1 p2 p3 hbx
          go_simp
          have hx := HX.out
          have hst : ∀ k, k ≠ w.heap.size → (w1.setCell ⟨w.heap.size, 0, none⟩ (.slice A34 (j + 1) c34)).heap[k]? = w1.heap[k]? := fun k hk => Below.heap_setCell _ _ _ _ hk
          refine hK undef _ ⟨by simp [World.setCell], fun k _ hk _ => hst k hk⟩ (fun d hd => by cases hd) ?_
          refine ⟨⟨hx.1.1.keep ((Below.refl _ _).setCell hx.1.1.gxw _) (fun g hg => by cases hg), by simpa [World.setCell] using hx.1.2⟩, fun h => by simp [hd10] at h, fun _ => ⟨by simp [(hx.2.2.1 hd10).1], A', c', HP.out.1, HP.out.2.keep1 (fun g hg => hst g (by have := (HP.out.2.block g hg).1; omega))⟩, fun h => by simp at h, fun _ => ⟨by simp [hd10], A34, c34, Hf34.out, ?_⟩⟩
          simp [World.setCell, Array.getElem?_modify, Hbx.out]
      · intro dn f w1 hX hall hT
        obtain ⟨_, A', c', p2, p3⟩ := hX.2.2.1 (hall 10 (by decide))
        obtain ⟨_, A5, c5, q2, q3⟩ := hX.2.2.2.2 (hall 12 (by decide))
        have HM1 := Lib.hid hX.1.1
        have HP := Lib.hid (And.intro p2 (And.intro p3 (And.intro q2 q3)))
        clear hall hT hX p2 p3 q2 q3
        simp only [fr, upd, List.mapIdx_cons, List.mapIdx_nil]
        simp
        go_wp2_with fail
        go_roundg (gk - 1)
        case measure => have := Hj.out; omega
        case rel =>
          obtain ⟨p2, p3, q2, q3⟩ := HP.out
          rw [p2] at q2
          injection q2 with q2 _ q4
          subst q2
          subst q4
          refine ⟨j + 1, A', c', by have := Hj.out; omega, by go_num, q3, ?_, HM1.out⟩
          have e : (List.range (j + 1)).map (limN lt) = ns ++ [x] := by rw [List.range_succ, List.map_append, ← Hns.out, Hx.out]; rfl
          rw [e]
          exact p3
    · have hjk : j = kk := by have := Hj.out; omega
      subst hjk
      obtain ⟨ns, hns⟩ : ∃ ns, ns = (List.range j).map (limN lt) := ⟨_, rfl⟩
      rw [← hns] at hown
      have hnl : ns.length = j := by rw [hns]; simp
      have N0 : LN w wr w.heap.size A1 j c1 ns := ⟨M.bel, M.gxw, M.gxl, hown⟩
      have HN0 := Lib.hid N0
      have Hns := Lib.hid hns
      have Hnl := Lib.hid hnl
      obtain ⟨kk, hkj⟩ : ∃ kk, kk = j := ⟨_, rfl⟩
      rw [← hkj] at HN0 Hbox
      have Hkj := Lib.hid hkj
      clear hns hnl hown M N0 Hj
      go_wp2_with (fail)
      rw [← Hkj.out]
      clear hkj hlt
      obtain ⟨wo, rfl⟩ : ∃ wo : World, wo = wr := ⟨_, rfl⟩
      go_loopg [10] mm (fun g i wr => ∃ (j : Nat) (A2 : Option Addr) (c2 : Nat), j + g = mm ∧ i = .int .i64 j ∧ wr.heap[w.heap.size]? = some (.cells #[.slice A1 kk c1, .slice A2 j c2] 30 (0, 0)) ∧ OV wr (fun g => w.heap.size < g) 43 5 A2 j c2 (devsV ((List.range j).map (limD lt))) ∧ LN w wr w.heap.size A1 kk c1 ns)
      case atStart => exact ⟨0, none, 0, by omega, rfl, Hbox.out, OV.nil _ _ _ _, HN0.out⟩
      case round =>
        clear HN0 Hbox
        obtain ⟨j, A2, c2, hj, rfl, hbox, hown, N⟩ := hrel
        have Hj := Lib.hid hj
        have Hbox := Lib.hid hbox
        have hj65 : j ≤ 65 := by omega
        clear hj hbox
        by_cases hlt : j < mm
        · obtain ⟨ds, hds⟩ : ∃ ds, ds = (List.range j).map (limD lt) := ⟨_, rfl⟩
          rw [← hds] at hown
          obtain ⟨x, hx⟩ : ∃ x, x = limD lt j := ⟨_, rfl⟩
          have Hcx := Lib.hid (show #[Value.string x.name, Value.int .i64 4, Value.int .i64 (j % 5 : Nat), Value.int .i64 (-1), Value.int .i64 0] = (devCells x).toArray by rw [hx]; rfl)
          obtain ⟨q8, hq⟩ : ∃ q8, q8 = j / 8 := ⟨_, rfl⟩
          obtain ⟨r8, hr⟩ : ∃ r8, r8 = j % 8 := ⟨_, rfl⟩
          obtain ⟨r5, hr5⟩ : ∃ r5, r5 = j % 5 := ⟨_, rfl⟩
          rw [← hr5] at Hcx
          have hq8 : q8 ≤ 8 := by omega
          have hr8 : r8 ≤ 8 := by omega
          have Hq1 := Lib.hid (show (j : Int).tdiv 8 = (q8 : Int) by rw [Int.tdiv_eq_ediv_of_nonneg (by omega)]; omega)
          have Hq2 := Lib.hid (show (j : Int) / 8 = (q8 : Int) by omega)
          have Hr1 := Lib.hid (show (j : Int).tmod 8 = (r8 : Int) by rw [Int.tmod_eq_emod_of_nonneg (by omega)]; omega)
          have Hr2 := Lib.hid (show (j : Int) % 8 = (r8 : Int) by omega)
          have Hs1 := Lib.hid (show (j : Int).tmod 5 = (r5 : Int) by rw [Int.tmod_eq_emod_of_nonneg (by omega)]; omega)
          have Hs2 := Lib.hid (show (j : Int) % 5 = (r5 : Int) by omega)
          have Hds := Lib.hid hds
          have Hx := Lib.hid hx
          have Hq0 := Lib.hid hq
          have Hr0 := Lib.hid hr
          have HA2 := Lib.hid (fun g hg => hown.block g hg)
          have Hown := Lib.hid hown
          have HN2 := Lib.hid N
          clear hds hx hq hr hr5 hown N
          go_upto_region 11 with (fail)
          refine wp_region_ext2X (by kernel_rfl) 25 [41, 42, 43, 44, 45, 46, 47, 48, 49, 50, 51, 52, 53, 54, 55, 56, 57, 58, 59, 60, 61, 62, 63, 64] (fun a b => a.heap.size ≤ b.heap.size ∧ ∀ k, k < a.heap.size → k ≠ w.heap.size → some k ≠ blockOf A2 → b.heap[k]? = a.heap[k]?) (fun d v w' => if d = 41 then v = .pointer (some ⟨w.heap.size, 1, none⟩) else if d = 42 then v = .slice A2 j c2 else if d = 43 then v = .string lt else if d = 44 then v = .int .i64 (j : Nat) else if d = 45 then v = .int .i64 (q8 : Nat) else if d = 46 then v = .int .i64 (j : Nat) else if d = 47 then v = .int .i64 (q8 : Nat) else if d = 48 then v = .int .i64 ((q8 : Nat) + 1) else if d = 49 then v = .string (lt.extract q8 (q8 + 1)) else if d = 50 then v = .string (⟨#[69]⟩ ++ lt.extract q8 (q8 + 1)) else if d = 51 then v = .string lt else if d = 52 then v = .int .i64 (j : Nat) else if d = 53 then v = .int .i64 (r8 : Nat) else if d = 54 then v = .int .i64 (j : Nat) else if d = 55 then v = .int .i64 (r8 : Nat) else if d = 56 then v = .int .i64 ((r8 : Nat) + 1) else if d = 57 then v = .string (lt.extract r8 (r8 + 1)) else if d = 58 then v = .string x.name else if d = 59 then v = .int .i64 (j : Nat) else if d = 60 then v = .int .i64 (r5 : Nat) else if d = 61 then v = .agg #[.string x.name, .int .i64 4, .int .i64 (r5 : Nat), .int .i64 (-1), .int .i64 0] else if d = 64 then v = .pointer (some ⟨w.heap.size, 1, none⟩) else if d = 62 then ∃ b, v = .slice (some ⟨b, 0, none⟩) 1 1 ∧ b ≠ w.heap.size ∧ some b ≠ blockOf A2 ∧ w'.heap[b]? = some (.cells (devCells x).toArray 43 (0, 0)) else if d = 63 then ∃ A' c', v = .slice A' (j + 1) c' else False) (fun dn f W' => (LN w W' w.heap.size A1 kk c1 ns ∧ wr.heap.size ≤ W'.heap.size) ∧ (dn 22 = false → OV W' (fun g => w.heap.size < g) 43 5 A2 j c2 (devsV ds)) ∧ (dn 22 = true → dn 1 = true ∧ ∃ A' c', f 63 = .slice A' (j + 1) c' ∧ OV W' (fun g => w.heap.size < g) 43 5 A' (j + 1) c' (devsV (ds ++ [x]))) ∧ (dn 24 = false → W'.heap[w.heap.size]? = some (.cells #[.slice A1 kk c1, .slice A2 j c2] 30 (0, 0))) ∧ (dn 24 = true → dn 22 = true ∧ ∃ A' c', f 63 = .slice A' (j + 1) c' ∧ W'.heap[w.heap.size]? = some (.cells #[.slice A1 kk c1, .slice A' (j + 1) c'] 30 (0, 0)))) (by kernel_rfl) (⟨⟨HN2.out.keep ((Below.refl _ _).drew) (fun _ _ => rfl), Nat.le_refl _⟩, fun _ => Hown.out.keep (Kept.drew _ _), fun h => (by cases h), fun _ => Hbox.out, fun h => (by cases h)⟩) (fun d v w1 w2 hE hT => by
          by_cases h62 : d = 62
          · subst h62
            obtain ⟨b, e1, e2, e3, e4⟩ : ∃ b, v = .slice (some ⟨b, 0, none⟩) 1 1 ∧ b ≠ w.heap.size ∧ some b ≠ blockOf A2 ∧ w1.heap[b]? = some (.cells (devCells x).toArray 43 (0, 0)) := hT
            exact (show ∃ b, v = .slice (some ⟨b, 0, none⟩) 1 1 ∧ b ≠ w.heap.size ∧ some b ≠ blockOf A2 ∧ w2.heap[b]? = some (.cells (devCells x).toArray 43 (0, 0)) from ⟨b, e1, e2, e3, (hE.2 b (Array.getElem?_eq_some_iff.1 e4).1 e2 e3).trans e4⟩)
          · simp only [if_neg h62] at hT ⊢
            exact hT) ?_ ?_
          · intro i o hi ho dn f w1 hX hT hni hdn K hK
            have hi' : i = 0 ∨ i = 1 ∨ i = 2 ∨ i = 3 ∨ i = 4 ∨ i = 5 ∨ i = 6 ∨ i = 7 ∨ i = 8 ∨ i = 9 ∨ i = 10 ∨ i = 11 ∨ i = 12 ∨ i = 13 ∨ i = 14 ∨ i = 15 ∨ i = 16 ∨ i = 17 ∨ i = 18 ∨ i = 19 ∨ i = 20 ∨ i = 21 ∨ i = 22 ∨ i = 23 ∨ i = 24 := by omega
            rcases hi' with rfl | rfl | rfl | rfl | rfl | rfl | rfl | rfl | rfl | rfl | rfl | rfl | rfl | rfl | rfl | rfl | rfl | rfl | rfl | rfl | rfl | rfl | rfl | rfl | rfl
            · simp only [List.getElem?_toArray, List.getElem?_cons_zero, Option.some.injEq] at ho
              subst ho
              generalize hA : fr _ _ _ f = A at hK ⊢
              have e7 : A.tmps[7]?.getD undef = .pointer (some ⟨w.heap.size, 0, none⟩) := by rw [← hA]; exact fr_out _ _ _ _ 7 _ (by decide) rfl
              clear hA
              have HX := Lib.hid hX
              have HT := Lib.hid hT
              have HN := Lib.hid hni
              have HDN := Lib.hid hdn
              clear hX hT hni hdn
              go_simp
              exact hK _ _ ⟨Nat.le_refl _, fun _ _ _ _ => rfl⟩ (fun d hd => by injection hd with hd; subst hd; rfl) (by simpa [nextF] using HX.out)
            · simp only [List.getElem?_toArray, List.getElem?_cons_zero, List.getElem?_cons_succ, Option.some.injEq] at ho
              subst ho
              have h41 : f 41 = .pointer (some ⟨w.heap.size, 1, none⟩) := hT 0 41 (by decide) rfl (hdn { on := 0, ground := .data } (by simp) rfl)
              generalize hA : fr _ _ _ f = A at hK ⊢
              have e41 : A.tmps[41]?.getD undef = f 41 := by rw [← hA]; exact fr_in _ _ _ _ 41 (by decide) (by simp)
              clear hA
              have HX := Lib.hid hX
              have HT := Lib.hid hT
              have HN := Lib.hid hni
              have HDN := Lib.hid hdn
              clear hX hT hni hdn
              have Hf41 := Lib.hid h41
              rw [h41] at e41
              clear h41
              have hx := HX.out
              have hn := HN.out
              have h10 : dn 22 = false := bfalse (fun h => (hx.2.2.1 h).1) hn
              have h12 : dn 24 = false := bfalse (fun h => (hx.2.2.2.2 h).1) h10
              have hcell : w1.cell? ⟨w.heap.size, 1, none⟩ = some (.slice A2 j c2) := by rw [cell_of_row w1 w.heap.size 1 _ _ _ (hx.2.2.2.1 h12)]; rfl
              clear hx hn
              go_simp
              have hx := HX.out
              exact hK _ _ ⟨Nat.le_refl _, fun _ _ _ _ => rfl⟩ (fun d hd => by injection hd with hd; subst hd; rfl) ⟨hx.1, by simpa [nextF] using hx.2.1, fun h => by simp [h10] at h, by simpa [nextF] using hx.2.2.2.1, fun h => by simp [h12] at h⟩
            · simp only [List.getElem?_toArray, List.getElem?_cons_zero, List.getElem?_cons_succ, Option.some.injEq] at ho
              subst ho
              generalize hA : fr _ _ _ f = A at hK ⊢
              have e8 : A.tmps[8]?.getD undef = .string lt := by rw [← hA]; exact fr_out _ _ _ _ 8 _ (by decide) rfl
              clear hA
              have HX := Lib.hid hX
              have HT := Lib.hid hT
              have HN := Lib.hid hni
              have HDN := Lib.hid hdn
              clear hX hT hni hdn
              go_simp
              exact hK _ _ ⟨Nat.le_refl _, fun _ _ _ _ => rfl⟩ (fun d hd => by injection hd with hd; subst hd; rfl) (by simpa [nextF] using HX.out)
            · simp only [List.getElem?_toArray, List.getElem?_cons_zero, List.getElem?_cons_succ, Option.some.injEq] at ho
              subst ho
              generalize hA : fr _ _ _ f = A at hK ⊢
              have e10 : A.tmps[10]?.getD undef = .int .i64 (j : Nat) := by rw [← hA]; exact fr_out _ _ _ _ 10 _ (by decide) rfl
              clear hA
              have HX := Lib.hid hX
              have HT := Lib.hid hT
              have HN := Lib.hid hni
              have HDN := Lib.hid hdn
              clear hX hT hni hdn
              go_simp
              exact hK _ _ ⟨Nat.le_refl _, fun _ _ _ _ => rfl⟩ (fun d hd => by injection hd with hd; subst hd; rfl) (by simpa [nextF] using HX.out)
            · simp only [List.getElem?_toArray, List.getElem?_cons_zero, List.getElem?_cons_succ, Option.some.injEq] at ho
              subst ho
              have h44 : f 44 = .int .i64 (j : Nat) := hT 3 44 (by decide) rfl (hdn { on := 3, ground := .data } (by simp) rfl)
              generalize hA : fr _ _ _ f = A at hK ⊢
              have e44 : A.tmps[44]?.getD undef = f 44 := by rw [← hA]; exact fr_in _ _ _ _ 44 (by decide) (by simp)
              clear hA
              have HX := Lib.hid hX
              have HT := Lib.hid hT
              have HN := Lib.hid hni
              have HDN := Lib.hid hdn
              clear hX hT hni hdn
              have Hf44 := Lib.hid h44
              rw [h44] at e44
              clear h44
              have hwq : IntKind.i64.wrap (q8 : Int) = (q8 : Int) := IntWalk.i64_in _ ⟨by omega, by omega⟩
              have d1 := Hq1.out
              have d2 := Hq2.out
              go_simp
              exact hK _ _ ⟨Nat.le_refl _, fun _ _ _ _ => rfl⟩ (fun d hd => by injection hd with hd; subst hd; rfl) (by simpa [nextF] using HX.out)
            · simp only [List.getElem?_toArray, List.getElem?_cons_zero, List.getElem?_cons_succ, Option.some.injEq] at ho
              subst ho
              generalize hA : fr _ _ _ f = A at hK ⊢
              have e10 : A.tmps[10]?.getD undef = .int .i64 (j : Nat) := by rw [← hA]; exact fr_out _ _ _ _ 10 _ (by decide) rfl
              clear hA
              have HX := Lib.hid hX
              have HT := Lib.hid hT
              have HN := Lib.hid hni
              have HDN := Lib.hid hdn
              clear hX hT hni hdn
              go_simp
              exact hK _ _ ⟨Nat.le_refl _, fun _ _ _ _ => rfl⟩ (fun d hd => by injection hd with hd; subst hd; rfl) (by simpa [nextF] using HX.out)
            · simp only [List.getElem?_toArray, List.getElem?_cons_zero, List.getElem?_cons_succ, Option.some.injEq] at ho
              subst ho
              have h46 : f 46 = .int .i64 (j : Nat) := hT 5 46 (by decide) rfl (hdn { on := 5, ground := .data } (by simp) rfl)
              generalize hA : fr _ _ _ f = A at hK ⊢
              have e46 : A.tmps[46]?.getD undef = f 46 := by rw [← hA]; exact fr_in _ _ _ _ 46 (by decide) (by simp)
              clear hA
              have HX := Lib.hid hX
              have HT := Lib.hid hT
              have HN := Lib.hid hni
              have HDN := Lib.hid hdn
              clear hX hT hni hdn
              have Hf46 := Lib.hid h46
              rw [h46] at e46
              clear h46
              have hwq : IntKind.i64.wrap (q8 : Int) = (q8 : Int) := IntWalk.i64_in _ ⟨by omega, by omega⟩
              have d1 := Hq1.out
              have d2 := Hq2.out
              go_simp
              exact hK _ _ ⟨Nat.le_refl _, fun _ _ _ _ => rfl⟩ (fun d hd => by injection hd with hd; subst hd; rfl) (by simpa [nextF] using HX.out)
            · simp only [List.getElem?_toArray, List.getElem?_cons_zero, List.getElem?_cons_succ, Option.some.injEq] at ho
              subst ho
              have h47 : f 47 = .int .i64 (q8 : Nat) := hT 6 47 (by decide) rfl (hdn { on := 6, ground := .data } (by simp) rfl)
              generalize hA : fr _ _ _ f = A at hK ⊢
              have e47 : A.tmps[47]?.getD undef = f 47 := by rw [← hA]; exact fr_in _ _ _ _ 47 (by decide) (by simp)
              clear hA
              have HX := Lib.hid hX
              have HT := Lib.hid hT
              have HN := Lib.hid hni
              have HDN := Lib.hid hdn
              clear hX hT hni hdn
              have Hf47 := Lib.hid h47
              rw [h47] at e47
              clear h47
              have hwr : IntKind.i64.wrap ((q8 : Int) + 1) = (q8 : Int) + 1 := IntWalk.i64_in _ ⟨by omega, by omega⟩
              go_simp
              exact hK _ _ ⟨Nat.le_refl _, fun _ _ _ _ => rfl⟩ (fun d hd => by injection hd with hd; subst hd; rfl) (by simpa [nextF] using HX.out)
            · simp only [List.getElem?_toArray, List.getElem?_cons_zero, List.getElem?_cons_succ, Option.some.injEq] at ho
              subst ho
              have h43 : f 43 = .string lt := hT 2 43 (by decide) rfl (hdn { on := 2, ground := .data } (by simp) rfl)
              have h45 : f 45 = .int .i64 (q8 : Nat) := hT 4 45 (by decide) rfl (hdn { on := 4, ground := .data } (by simp) rfl)
              have h48 : f 48 = .int .i64 ((q8 : Nat) + 1) := hT 7 48 (by decide) rfl (hdn { on := 7, ground := .data } (by simp) rfl)
              generalize hA : fr _ _ _ f = A at hK ⊢
              have e43 : A.tmps[43]?.getD undef = f 43 := by rw [← hA]; exact fr_in _ _ _ _ 43 (by decide) (by simp)
              have e45 : A.tmps[45]?.getD undef = f 45 := by rw [← hA]; exact fr_in _ _ _ _ 45 (by decide) (by simp)
              have e48 : A.tmps[48]?.getD undef = f 48 := by rw [← hA]; exact fr_in _ _ _ _ 48 (by decide) (by simp)
              clear hA
              have HX := Lib.hid hX
              have HT := Lib.hid hT
              have HN := Lib.hid hni
              have HDN := Lib.hid hdn
              clear hX hT hni hdn
              have Hf43 := Lib.hid h43
              rw [h43] at e43
              clear h43
              have Hf45 := Lib.hid h45
              rw [h45] at e45
              clear h45
              have Hf48 := Lib.hid h48
              rw [h48] at e48
              clear h48
              go_simp
              have hsz := Hsz.out
              rw [if_pos ⟨by omega, by omega⟩, if_pos (by omega)]
              clear hsz
              go_simp
              exact hK _ _ ⟨Nat.le_refl _, fun _ _ _ _ => rfl⟩ (fun d hd => by injection hd with hd; subst hd; rfl) (by simpa [nextF] using HX.out)
            · simp only [List.getElem?_toArray, List.getElem?_cons_zero, List.getElem?_cons_succ, Option.some.injEq] at ho
              subst ho
              have h49 : f 49 = .string (lt.extract q8 (q8 + 1)) := hT 8 49 (by decide) rfl (hdn { on := 8, ground := .data } (by simp) rfl)
              generalize hA : fr _ _ _ f = A at hK ⊢
              have e49 : A.tmps[49]?.getD undef = f 49 := by rw [← hA]; exact fr_in _ _ _ _ 49 (by decide) (by simp)
              clear hA
              have HX := Lib.hid hX
              have HT := Lib.hid hT
              have HN := Lib.hid hni
              have HDN := Lib.hid hdn
              clear hX hT hni hdn
              have Hf49 := Lib.hid h49
              rw [h49] at e49
              clear h49
              go_simp
              have hsz := Hsz.out
              rw [if_neg (by omega)]
              clear hsz
              go_simp
              exact hK _ _ ⟨Nat.le_refl _, fun _ _ _ _ => rfl⟩ (fun d hd => by injection hd with hd; subst hd; rfl) (by simpa [nextF] using HX.out)
            · simp only [List.getElem?_toArray, List.getElem?_cons_zero, List.getElem?_cons_succ, Option.some.injEq] at ho
              subst ho
              generalize hA : fr _ _ _ f = A at hK ⊢
              have e8 : A.tmps[8]?.getD undef = .string lt := by rw [← hA]; exact fr_out _ _ _ _ 8 _ (by decide) rfl
              clear hA
              have HX := Lib.hid hX
              have HT := Lib.hid hT
              have HN := Lib.hid hni
              have HDN := Lib.hid hdn
              clear hX hT hni hdn
              go_simp
              exact hK _ _ ⟨Nat.le_refl _, fun _ _ _ _ => rfl⟩ (fun d hd => by injection hd with hd; subst hd; rfl) (by simpa [nextF] using HX.out)
            · simp only [List.getElem?_toArray, List.getElem?_cons_zero, List.getElem?_cons_succ, Option.some.injEq] at ho
              subst ho
              generalize hA : fr _ _ _ f = A at hK ⊢
              have e10 : A.tmps[10]?.getD undef = .int .i64 (j : Nat) := by rw [← hA]; exact fr_out _ _ _ _ 10 _ (by decide) rfl
              clear hA
              have HX := Lib.hid hX
              have HT := Lib.hid hT
              have HN := Lib.hid hni
              have HDN := Lib.hid hdn
              clear hX hT hni hdn
              go_simp
              exact hK _ _ ⟨Nat.le_refl _, fun _ _ _ _ => rfl⟩ (fun d hd => by injection hd with hd; subst hd; rfl) (by simpa [nextF] using HX.out)
            · simp only [List.getElem?_toArray, List.getElem?_cons_zero, List.getElem?_cons_succ, Option.some.injEq] at ho
              subst ho
              have h52 : f 52 = .int .i64 (j : Nat) := hT 11 52 (by decide) rfl (hdn { on := 11, ground := .data } (by simp) rfl)
              generalize hA : fr _ _ _ f = A at hK ⊢
              have e52 : A.tmps[52]?.getD undef = f 52 := by rw [← hA]; exact fr_in _ _ _ _ 52 (by decide) (by simp)
              clear hA
              have HX := Lib.hid hX
              have HT := Lib.hid hT
              have HN := Lib.hid hni
              have HDN := Lib.hid hdn
              clear hX hT hni hdn
              have Hf52 := Lib.hid h52
              rw [h52] at e52
              clear h52
              have d1 := Hr1.out
              have d2 := Hr2.out
              go_simp
              exact hK _ _ ⟨Nat.le_refl _, fun _ _ _ _ => rfl⟩ (fun d hd => by injection hd with hd; subst hd; rfl) (by simpa [nextF] using HX.out)
            · simp only [List.getElem?_toArray, List.getElem?_cons_zero, List.getElem?_cons_succ, Option.some.injEq] at ho
              subst ho
              generalize hA : fr _ _ _ f = A at hK ⊢
              have e10 : A.tmps[10]?.getD undef = .int .i64 (j : Nat) := by rw [← hA]; exact fr_out _ _ _ _ 10 _ (by decide) rfl
              clear hA
              have HX := Lib.hid hX
              have HT := Lib.hid hT
              have HN := Lib.hid hni
              have HDN := Lib.hid hdn
              clear hX hT hni hdn
              go_simp
              exact hK _ _ ⟨Nat.le_refl _, fun _ _ _ _ => rfl⟩ (fun d hd => by injection hd with hd; subst hd; rfl) (by simpa [nextF] using HX.out)
            · simp only [List.getElem?_toArray, List.getElem?_cons_zero, List.getElem?_cons_succ, Option.some.injEq] at ho
              subst ho
              have h54 : f 54 = .int .i64 (j : Nat) := hT 13 54 (by decide) rfl (hdn { on := 13, ground := .data } (by simp) rfl)
              generalize hA : fr _ _ _ f = A at hK ⊢
              have e54 : A.tmps[54]?.getD undef = f 54 := by rw [← hA]; exact fr_in _ _ _ _ 54 (by decide) (by simp)
              clear hA
              have HX := Lib.hid hX
              have HT := Lib.hid hT
              have HN := Lib.hid hni
              have HDN := Lib.hid hdn
              clear hX hT hni hdn
              have Hf54 := Lib.hid h54
              rw [h54] at e54
              clear h54
              have d1 := Hr1.out
              have d2 := Hr2.out
              go_simp
              exact hK _ _ ⟨Nat.le_refl _, fun _ _ _ _ => rfl⟩ (fun d hd => by injection hd with hd; subst hd; rfl) (by simpa [nextF] using HX.out)
            · simp only [List.getElem?_toArray, List.getElem?_cons_zero, List.getElem?_cons_succ, Option.some.injEq] at ho
              subst ho
              have h55 : f 55 = .int .i64 (r8 : Nat) := hT 14 55 (by decide) rfl (hdn { on := 14, ground := .data } (by simp) rfl)
              generalize hA : fr _ _ _ f = A at hK ⊢
              have e55 : A.tmps[55]?.getD undef = f 55 := by rw [← hA]; exact fr_in _ _ _ _ 55 (by decide) (by simp)
              clear hA
              have HX := Lib.hid hX
              have HT := Lib.hid hT
              have HN := Lib.hid hni
              have HDN := Lib.hid hdn
              clear hX hT hni hdn
              have Hf55 := Lib.hid h55
              rw [h55] at e55
              clear h55
              have hwr : IntKind.i64.wrap ((r8 : Int) + 1) = (r8 : Int) + 1 := IntWalk.i64_in _ ⟨by omega, by omega⟩
              go_simp
              exact hK _ _ ⟨Nat.le_refl _, fun _ _ _ _ => rfl⟩ (fun d hd => by injection hd with hd; subst hd; rfl) (by simpa [nextF] using HX.out)
            · simp only [List.getElem?_toArray, List.getElem?_cons_zero, List.getElem?_cons_succ, Option.some.injEq] at ho
              subst ho
              have h51 : f 51 = .string lt := hT 10 51 (by decide) rfl (hdn { on := 10, ground := .data } (by simp) rfl)
              have h53 : f 53 = .int .i64 (r8 : Nat) := hT 12 53 (by decide) rfl (hdn { on := 12, ground := .data } (by simp) rfl)
              have h56 : f 56 = .int .i64 ((r8 : Nat) + 1) := hT 15 56 (by decide) rfl (hdn { on := 15, ground := .data } (by simp) rfl)
              generalize hA : fr _ _ _ f = A at hK ⊢
              have e51 : A.tmps[51]?.getD undef = f 51 := by rw [← hA]; exact fr_in _ _ _ _ 51 (by decide) (by simp)
              have e53 : A.tmps[53]?.getD undef = f 53 := by rw [← hA]; exact fr_in _ _ _ _ 53 (by decide) (by simp)
              have e56 : A.tmps[56]?.getD undef = f 56 := by rw [← hA]; exact fr_in _ _ _ _ 56 (by decide) (by simp)
              clear hA
              have HX := Lib.hid hX
              have HT := Lib.hid hT
              have HN := Lib.hid hni
              have HDN := Lib.hid hdn
              clear hX hT hni hdn
              have Hf51 := Lib.hid h51
              rw [h51] at e51
              clear h51
              have Hf53 := Lib.hid h53
              rw [h53] at e53
              clear h53
              have Hf56 := Lib.hid h56
              rw [h56] at e56
              clear h56
              go_simp
              have hsz := Hsz.out
              rw [if_pos ⟨by omega, by omega⟩, if_pos (by omega)]
              clear hsz
              go_simp
              exact hK _ _ ⟨Nat.le_refl _, fun _ _ _ _ => rfl⟩ (fun d hd => by injection hd with hd; subst hd; rfl) (by simpa [nextF] using HX.out)
            · simp only [List.getElem?_toArray, List.getElem?_cons_zero, List.getElem?_cons_succ, Option.some.injEq] at ho
              subst ho
              have h50 : f 50 = .string (⟨#[69]⟩ ++ lt.extract q8 (q8 + 1)) := hT 9 50 (by decide) rfl (hdn { on := 9, ground := .data } (by simp) rfl)
              have h57 : f 57 = .string (lt.extract r8 (r8 + 1)) := hT 16 57 (by decide) rfl (hdn { on := 16, ground := .data } (by simp) rfl)
              generalize hA : fr _ _ _ f = A at hK ⊢
              have e50 : A.tmps[50]?.getD undef = f 50 := by rw [← hA]; exact fr_in _ _ _ _ 50 (by decide) (by simp)
              have e57 : A.tmps[57]?.getD undef = f 57 := by rw [← hA]; exact fr_in _ _ _ _ 57 (by decide) (by simp)
              clear hA
              have HX := Lib.hid hX
              have HT := Lib.hid hT
              have HN := Lib.hid hni
              have HDN := Lib.hid hdn
              clear hX hT hni hdn
              have Hf50 := Lib.hid h50
              rw [h50] at e50
              clear h50
              have Hf57 := Lib.hid h57
              rw [h57] at e57
              clear h57
              go_simp
              have hsz := Hsz.out
              rw [if_neg (by omega)]
              clear hsz
              go_simp
              exact hK _ _ ⟨Nat.le_refl _, fun _ _ _ _ => rfl⟩ (fun d hd => by injection hd with hd; subst hd; exact congrArg Value.string (by rw [Hx.out]; unfold limD; rw [← Hq0.out, ← Hr0.out])) (by simpa [nextF] using HX.out)
            · simp only [List.getElem?_toArray, List.getElem?_cons_zero, List.getElem?_cons_succ, Option.some.injEq] at ho
              subst ho
              generalize hA : fr _ _ _ f = A at hK ⊢
              have e10 : A.tmps[10]?.getD undef = .int .i64 (j : Nat) := by rw [← hA]; exact fr_out _ _ _ _ 10 _ (by decide) rfl
              clear hA
              have HX := Lib.hid hX
              have HT := Lib.hid hT
              have HN := Lib.hid hni
              have HDN := Lib.hid hdn
              clear hX hT hni hdn
              go_simp
              exact hK _ _ ⟨Nat.le_refl _, fun _ _ _ _ => rfl⟩ (fun d hd => by injection hd with hd; subst hd; rfl) (by simpa [nextF] using HX.out)
            · simp only [List.getElem?_toArray, List.getElem?_cons_zero, List.getElem?_cons_succ, Option.some.injEq] at ho
              subst ho
              have h59 : f 59 = .int .i64 (j : Nat) := hT 18 59 (by decide) rfl (hdn { on := 18, ground := .data } (by simp) rfl)
              generalize hA : fr _ _ _ f = A at hK ⊢
              have e59 : A.tmps[59]?.getD undef = f 59 := by rw [← hA]; exact fr_in _ _ _ _ 59 (by decide) (by simp)
              clear hA
              have HX := Lib.hid hX
              have HT := Lib.hid hT
              have HN := Lib.hid hni
              have HDN := Lib.hid hdn
              clear hX hT hni hdn
              have Hf59 := Lib.hid h59
              rw [h59] at e59
              clear h59
              have d1 := Hs1.out
              have d2 := Hs2.out
              go_simp
              exact hK _ _ ⟨Nat.le_refl _, fun _ _ _ _ => rfl⟩ (fun d hd => by injection hd with hd; subst hd; rfl) (by simpa [nextF] using HX.out)
            · simp only [List.getElem?_toArray, List.getElem?_cons_zero, List.getElem?_cons_succ, Option.some.injEq] at ho
              subst ho
              have h58 : f 58 = .string x.name := hT 17 58 (by decide) rfl (hdn { on := 17, ground := .data } (by simp) rfl)
              have h60 : f 60 = .int .i64 (r5 : Nat) := hT 19 60 (by decide) rfl (hdn { on := 19, ground := .data } (by simp) rfl)
              generalize hA : fr _ _ _ f = A at hK ⊢
              have e58 : A.tmps[58]?.getD undef = f 58 := by rw [← hA]; exact fr_in _ _ _ _ 58 (by decide) (by simp)
              have e60 : A.tmps[60]?.getD undef = f 60 := by rw [← hA]; exact fr_in _ _ _ _ 60 (by decide) (by simp)
              clear hA
              have HX := Lib.hid hX
              have HT := Lib.hid hT
              have HN := Lib.hid hni
              have HDN := Lib.hid hdn
              clear hX hT hni hdn
              have Hf58 := Lib.hid h58
              rw [h58] at e58
              clear h58
              have Hf60 := Lib.hid h60
              rw [h60] at e60
              clear h60
              go_simp
              exact hK _ _ ⟨Nat.le_refl _, fun _ _ _ _ => rfl⟩ (fun d hd => by injection hd with hd; subst hd; rfl) (by simpa [nextF] using HX.out)
            · simp only [List.getElem?_toArray, List.getElem?_cons_zero, List.getElem?_cons_succ, Option.some.injEq] at ho
              subst ho
              have h61 : f 61 = .agg #[.string x.name, .int .i64 4, .int .i64 (r5 : Nat), .int .i64 (-1), .int .i64 0] := hT 20 61 (by decide) rfl (hdn { on := 20, ground := .data } (by simp) rfl)
              generalize hA : fr _ _ _ f = A at hK ⊢
              have e61 : A.tmps[61]?.getD undef = f 61 := by rw [← hA]; exact fr_in _ _ _ _ 61 (by decide) (by simp)
              clear hA
              have HX := Lib.hid hX
              have HT := Lib.hid hT
              have HN := Lib.hid hni
              have HDN := Lib.hid hdn
              clear hX hT hni hdn
              have Hf61 := Lib.hid h61
              rw [h61] at e61
              clear h61
              go_simp
              have hx := HX.out
              have hgl := hx.1.1.gxl
              have hal : ∀ o : Obj, ∀ k, k < w1.heap.size → (w1.alloc o).heap[k]? = w1.heap[k]? := fun o k hk => Below.heap_alloc _ _ _ hk
              refine hK _ _ ⟨by simp, fun k hk _ _ => hal _ k hk⟩ (fun d hd => by injection hd with hd; subst hd; exact ⟨w1.heap.size, rfl, by omega, fun e => by have := (HA2.out _ e.symm).2; have := hx.1.2; omega, Hcx.out ▸ heap_alloc_new w1 _⟩) ?_
              refine ⟨⟨hx.1.1.alloc _, by simp; have := hx.1.2; omega⟩, fun h => (hx.2.1 (by simpa using h)).keep (Kept.alloc _ _ _), fun h => ?_, fun h => (hal _ w.heap.size hgl).trans (hx.2.2.2.1 (by simpa using h)), fun h => ?_⟩
              · obtain ⟨p1, A', c', p2, p3⟩ := hx.2.2.1 (by simpa using h)
                exact ⟨by simp [p1], A', c', by simpa [nextF] using p2, p3.keep (Kept.alloc _ _ _)⟩
              · obtain ⟨p1, A', c', p2, p3⟩ := hx.2.2.2.2 (by simpa using h)
                exact ⟨by simp [p1], A', c', by simpa [nextF] using p2, (hal _ w.heap.size hgl).trans p3⟩
            · simp only [List.getElem?_toArray, List.getElem?_cons_zero, List.getElem?_cons_succ, Option.some.injEq] at ho
              subst ho
              have h42 : f 42 = .slice A2 j c2 := hT 1 42 (by decide) rfl (hdn { on := 1, ground := .data } (by simp) rfl)
              have h62 : ∃ b, f 62 = .slice (some ⟨b, 0, none⟩) 1 1 ∧ b ≠ w.heap.size ∧ some b ≠ blockOf A2 ∧ w1.heap[b]? = some (.cells (devCells x).toArray 43 (0, 0)) := hT 21 62 (by decide) rfl (hdn { on := 21, ground := .data } (by simp) rfl)
              have hd1 : dn 1 = true := hdn { on := 1, ground := .data } (by simp) rfl
              generalize hA : fr _ _ _ f = A at hK ⊢
              have e42 : A.tmps[42]?.getD undef = f 42 := by rw [← hA]; exact fr_in _ _ _ _ 42 (by decide) (by simp)
              have e62 : A.tmps[62]?.getD undef = f 62 := by rw [← hA]; exact fr_in _ _ _ _ 62 (by decide) (by simp)
              clear hA
              have HX := Lib.hid hX
              have HT := Lib.hid hT
              have HN := Lib.hid hni
              have HDN := Lib.hid hdn
              clear hX hT hni hdn
              have Hf42 := Lib.hid h42
              rw [h42] at e42
              clear h42
              obtain ⟨b33, h62, n33, m33, k33⟩ := h62
              have Hf62 := Lib.hid h62
              rw [h62] at e62
              clear h62
              have hx := HX.out
              have hn := HN.out
              have h12 : dn 24 = false := bfalse (fun h => (hx.2.2.2.2 h).1) hn
              have ho := hx.2.1 hn
              obtain ⟨i0, hi0, hz0, hz1, hz2⟩ := info_parts devInfo
              obtain ⟨A', c', w', hr, h2, h3, h4⟩ := run_append_OV (P := Tryd.prog) w1 (fun g => w.heap.size < g) 28 28 43 i0 _ 5 48 Tryd.underlying28 hi0 hz0 hz1 hz2 rfl (by decide) A2 j c2 (devsV ds) ho (fun _ => True) (some ⟨b33, 0, none⟩) 1 1 (devCells x) rfl (SV.block k33) (by intro u hu; simp [devCells] at hu; rcases hu with rfl | rfl | rfl | rfl | rfl <;> rfl) (by simp only [maxLen]; omega) (by omega)
              have hgl := hx.1.1.gxl
              have hgxA : some w.heap.size ≠ blockOf A2 := fun e => by have := (HA2.out _ e.symm).1; omega
              have hnA : ∀ g, blockOf A1 = some g → some g ≠ blockOf A2 := fun g hg e => by obtain ⟨_, u1, t1⟩ := hx.1.1.nodes.type g hg; obtain ⟨_, u2, t2⟩ := ho.type g e.symm; exact ne_of_type t1 t2 (by decide) rfl
              refine wp_append (.tmp 42) (.tmp 62) 28 rfl (show A.eval (.tmp 42) = _ by simpa [Act.eval] using e42) (show A.eval (.tmp 62) = _ by simpa [Act.eval] using e62) hr ?_
              refine hK _ _ ⟨h3.size, fun k hk _ hne => h3.block k hk hne⟩ (fun d hd => by injection hd with hd; subst hd; exact ⟨A', c', rfl⟩) ?_
              refine ⟨⟨hx.1.1.keep ((Below.refl _ _).grown h3 hx.1.1.bel.size (fun g hg => by have := (HA2.out g hg).1; omega)) (fun g hg => h3.block g (hx.1.1.nodes.block g hg).2 (hnA g hg)), Nat.le_trans hx.1.2 h3.size⟩, fun h => by simp at h, fun _ => ⟨by simp [hd1], A', c', rfl, ?_⟩, fun _ => (h3.block w.heap.size hgl hgxA).trans (hx.2.2.2.1 h12), fun h => by simp [h12] at h⟩
              have := h2.mono (T := fun g => w.heap.size < g) (fun g _ hg => by rcases hg with hg | hg <;> omega)
              rw [devsV_snoc]
              exact this
            · simp only [List.getElem?_toArray, List.getElem?_cons_zero, List.getElem?_cons_succ, Option.some.injEq] at ho
              subst ho
              generalize hA : fr _ _ _ f = A at hK ⊢
              have e7 : A.tmps[7]?.getD undef = .pointer (some ⟨w.heap.size, 0, none⟩) := by rw [← hA]; exact fr_out _ _ _ _ 7 _ (by decide) rfl
              clear hA
              have HX := Lib.hid hX
              have HT := Lib.hid hT
              have HN := Lib.hid hni
              have HDN := Lib.hid hdn
              clear hX hT hni hdn
              go_simp
              exact hK _ _ ⟨Nat.le_refl _, fun _ _ _ _ => rfl⟩ (fun d hd => by injection hd with hd; subst hd; rfl) (by simpa [nextF] using HX.out)
            · simp only [List.getElem?_toArray, List.getElem?_cons_zero, List.getElem?_cons_succ, Option.some.injEq] at ho
              subst ho
              have h64 : f 64 = .pointer (some ⟨w.heap.size, 1, none⟩) := hT 23 64 (by decide) rfl (hdn { on := 23, ground := .data } (by simp) rfl)
              have h63 : ∃ A' c', f 63 = .slice A' (j + 1) c' := hT 22 63 (by decide) rfl (hdn { on := 22, ground := .data } (by simp) rfl)
              have hd10 : dn 22 = true := hdn { on := 22, ground := .data } (by simp) rfl
              generalize hA : fr _ _ _ f = A at hK ⊢
              have e64 : A.tmps[64]?.getD undef = f 64 := by rw [← hA]; exact fr_in _ _ _ _ 64 (by decide) (by simp)
              have e63 : A.tmps[63]?.getD undef = f 63 := by rw [← hA]; exact fr_in _ _ _ _ 63 (by decide) (by simp)
              clear hA
              have HX := Lib.hid hX
              have HT := Lib.hid hT
              have HN := Lib.hid hni
              have HDN := Lib.hid hdn
              clear hX hT hni hdn
              have Hf64 := Lib.hid h64
              rw [h64] at e64
              clear h64
              obtain ⟨A34, c34, h63⟩ := h63
              have Hf63 := Lib.hid h63
              rw [h63] at e63
              clear h63
              have hx := HX.out
              have hn := HN.out
              obtain ⟨p1, A', c', p2, p3⟩ := hx.2.2.1 hd10
              have hbx := hx.2.2.2.1 hn
              have hcell : w1.cell? ⟨w.heap.size, 1, none⟩ = some (.slice A2 j c2) := by rw [cell_of_row w1 w.heap.size 1 _ _ _ hbx]; rfl
              have hfz : w1.frozen? ⟨w.heap.size, 1, none⟩ = false := by simp [World.frozen?, hbx]
              have Hbx := Lib.hid hbx
              have HP := Lib.hid (And.intro p2 p3)
              clear hx hn p1 p2 p3 hbx
              go_simp
              have hx := HX.out
              have hst : ∀ k, k ≠ w.heap.size → (w1.setCell ⟨w.heap.size, 1, none⟩ (.slice A34 (j + 1) c34)).heap[k]? = w1.heap[k]? := fun k hk => Below.heap_setCell _ _ _ _ hk
              refine hK undef _ ⟨by simp [World.setCell], fun k _ hk _ => hst k hk⟩ (fun d hd => by cases hd) ?_
              refine ⟨⟨hx.1.1.keep ((Below.refl _ _).setCell hx.1.1.gxw _) (fun g hg => hst g (by have := (hx.1.1.nodes.block g hg).1; omega)), by simpa [World.setCell] using hx.1.2⟩, fun h => by simp [hd10] at h, fun _ => ⟨by simp [(hx.2.2.1 hd10).1], A', c', HP.out.1, HP.out.2.keep1 (fun g hg => hst g (by have := (HP.out.2.block g hg).1; omega))⟩, fun h => by simp at h, fun _ => ⟨by simp [hd10], A34, c34, Hf63.out, ?_⟩⟩
              simp [World.setCell, Array.getElem?_modify, Hbx.out]
          · intro dn f w1 hX hall hT
            obtain ⟨_, A', c', p2, p3⟩ := hX.2.2.1 (hall 22 (by decide))
            obtain ⟨_, A5, c5, q2, q3⟩ := hX.2.2.2.2 (hall 24 (by decide))
            have HM1 := Lib.hid hX.1.1
            have HP := Lib.hid (And.intro p2 (And.intro p3 (And.intro q2 q3)))
            clear hall hT hX p2 p3 q2 q3
            simp only [fr, upd, List.mapIdx_cons, List.mapIdx_nil]
            simp
            go_wp2_with fail
            go_roundg (gk - 1)
            case measure => have := Hj.out; omega
            case rel =>
              obtain ⟨p2, p3, q2, q3⟩ := HP.out
              rw [p2] at q2
              injection q2 with q2 _ q4
              subst q2
              subst q4
              refine ⟨j + 1, A', c', by have := Hj.out; omega, by go_num, q3, ?_, HM1.out⟩
              have e : (List.range (j + 1)).map (limD lt) = ds ++ [x] := by rw [List.range_succ, List.map_append, ← Hds.out, Hx.out]; rfl
              rw [e]
              exact p3
        · have hjm : j = mm := by have := Hj.out; omega
          subst hjm
          obtain ⟨ds, hds⟩ : ∃ ds, ds = (List.range j).map (limD lt) := ⟨_, rfl⟩
          rw [← hds] at hown
          have hdl : ds.length = j := by rw [hds]; simp
          have hkk2 : kk ≤ 33 := by have := Hkj.out; omega
          have hkk1 : 31 ≤ kk := by have := Hkj.out; omega
          have hnl : ns.length = kk := by rw [Hnl.out, Hkj.out]
          have hin : NetIn wr (fun _ => True) A1 A2 ns ds := ⟨N.nodes.sv.mono (fun _ _ _ => trivial), hown.sv.mono (fun _ _ _ => trivial), by rw [Hns.out]; exact limN_size lt _, by rw [hds]; exact limD_size lt _⟩
          have hce : checkL ns ds = if kk ≤ 32 ∧ j ≤ 64 then 0 else 1 := by
            rw [Hns.out, hds, ← Hkj.out, ← Hlt.out]
            exact lim_check kk j hkk1 hkk2 hm1 hm2
          have HC : ∀ W, Below wr.heap.size wr W → Calls Tryd.prog 24 #[.agg #[.slice A1 kk c1, .slice A2 j c2]] W fun e w' => e = .returned (.int .i64 (checkL ns ds)) ∧ Below W.heap.size W w' := fun W hW => by
            have := check_any W (h.below (N.bel.trans (hW.mono N.bel.size))) _ A1 A2 c1 c2 ns ds (hin.below hW) (by omega) (by omega)
            rw [hnl, hdl] at this
            exact this
          have HCell : Hid (∀ W, Below wr.heap.size wr W → W.cell? ⟨w.heap.size, 0, none⟩ = some (.slice A1 kk c1) ∧ W.cell? ⟨w.heap.size, 1, none⟩ = some (.slice A2 j c2)) := Lib.hid (fun W hW => by
            have hbx := (hW.block w.heap.size N.gxl).trans Hbox.out
            exact ⟨by rw [cell_of_row W _ 0 _ _ _ hbx]; rfl, by rw [cell_of_row W _ 1 _ _ _ hbx]; rfl⟩)
          have HNW := Lib.hid N
          clear hds hdl hnl hin hown N Hbox Hj
          by_cases hk : kk ≤ 32
          · by_cases hm : j ≤ 64
            · rw [if_pos ⟨hk, hm⟩] at hce
              have HC2 : Hid (∀ W, Below wr.heap.size wr W → Calls Tryd.prog 24 #[.agg #[.slice A1 kk c1, .slice A2 j c2]] W fun e w' => e = .returned (.int .i64 0) ∧ Below W.heap.size W w') := Lib.hid (by rw [hce] at HC; exact HC)
              clear hce HC
              have B0 := Below.refl wr.heap.size wr
              obtain ⟨c0a, c0b⟩ := HCell.out _ B0
              go_wp2_with (fail)
              refine (HC2.out _ B0).mono ?_
              rintro e w1 ⟨rfl, hb1⟩
              have B1 := B0.trans (hb1.mono B0.size)
              clear c0a c0b
              obtain ⟨c1a, c1b⟩ := HCell.out _ B1
              go_wp2_with (fail)
              refine (HC2.out _ B1).mono ?_
              rintro e w2 ⟨rfl, hb2⟩
              have B2 := B1.trans (hb2.mono B1.size)
              clear c1a c1b
              go_wp2_with (fail)
              have Bf := HNW.out.bel.trans (B2.mono HNW.out.bel.size)
              refine (awake03 _ (h.below Bf)).mono ?_
              rintro e w9 ⟨rfl, hb9⟩
              go_wp2_with (fail)
              go_ret
              exact ⟨rfl, Bf.trans (hb9.mono Bf.size)⟩
            · rw [if_neg (fun h => hm h.2)] at hce
              have hmd : decide ((j : Int) ≤ 64) = false := decide_eq_false (by omega)
              have HC2 : Hid (∀ W, Below wr.heap.size wr W → Calls Tryd.prog 24 #[.agg #[.slice A1 kk c1, .slice A2 j c2]] W fun e w' => e = .returned (.int .i64 1) ∧ Below W.heap.size W w') := Lib.hid (by rw [hce] at HC; exact HC)
              clear hce HC
              have B0 := Below.refl wr.heap.size wr
              obtain ⟨c0a, c0b⟩ := HCell.out _ B0
              go_wp2_with (fail)
              refine (HC2.out _ B0).mono ?_
              rintro e w1 ⟨rfl, hb1⟩
              have B1 := B0.trans (hb1.mono B0.size)
              clear c0a c0b
              obtain ⟨c1a, c1b⟩ := HCell.out _ B1
              go_wp2_with (fail)
              refine (HC2.out _ B1).mono ?_
              rintro e w2 ⟨rfl, hb2⟩
              have B2 := B1.trans (hb2.mono B1.size)
              clear c1a c1b
              obtain ⟨c2a, c2b⟩ := HCell.out _ B2
              go_wp2_with (fail)
              refine (HC2.out _ B2).mono ?_
              rintro e w3 ⟨rfl, hb3⟩
              have B3 := B2.trans (hb3.mono B2.size)
              clear c2a c2b
              go_wp2_with (fail)
              have Bf := HNW.out.bel.trans (B3.mono HNW.out.bel.size)
              refine (awake03 _ (h.below Bf)).mono ?_
              rintro e w9 ⟨rfl, hb9⟩
              go_wp2_with (fail)
              go_ret
              exact ⟨rfl, Bf.trans (hb9.mono Bf.size)⟩
          · rw [if_neg (fun h => hk h.1)] at hce
            have HC2 : Hid (∀ W, Below wr.heap.size wr W → Calls Tryd.prog 24 #[.agg #[.slice A1 kk c1, .slice A2 j c2]] W fun e w' => e = .returned (.int .i64 1) ∧ Below W.heap.size W w') := Lib.hid (by rw [hce] at HC; exact HC)
            clear hce HC
            have B0 := Below.refl wr.heap.size wr
            obtain ⟨c0a, c0b⟩ := HCell.out _ B0
            go_wp2_with (fail)
            refine (HC2.out _ B0).mono ?_
            rintro e w1 ⟨rfl, hb1⟩
            have B1 := B0.trans (hb1.mono B0.size)
            clear c0a c0b
            obtain ⟨c1a, c1b⟩ := HCell.out _ B1
            go_wp2_with (fail)
            refine (HC2.out _ B1).mono ?_
            rintro e w2 ⟨rfl, hb2⟩
            have B2 := B1.trans (hb2.mono B1.size)
            clear c1a c1b
            obtain ⟨c2a, c2b⟩ := HCell.out _ B2
            go_wp2_with (fail)
            refine (HC2.out _ B2).mono ?_
            rintro e w3 ⟨rfl, hb3⟩
            have B3 := B2.trans (hb3.mono B2.size)
            clear c2a c2b
            go_wp2_with (fail)
            have Bf := HNW.out.bel.trans (B3.mono HNW.out.bel.size)
            refine (awake03 _ (h.below Bf)).mono ?_
            rintro e w9 ⟨rfl, hb9⟩
            go_wp2_with (fail)
            go_ret
            exact ⟨rfl, Bf.trans (hb9.mono Bf.size)⟩

theorem networkLimits_rowI (w : World) (h : TabC w) (a : Int) (ha : (Lit.int .u8 a).wf = true) (b : Int) (hb : (Lit.int .u8 b).wf = true) :
    Calls Tryd.prog 5 #[.int .u8 a, .int .u8 b] w (RetT w) := by
  have h1 : 0 ≤ a ∧ a ≤ 255 := by simp [Lit.wf, IntKind.min, IntKind.max, IntKind.signed, IntKind.bits] at ha; exact ha
  have h2 : 0 ≤ b ∧ b ≤ 255 := by simp [Lit.wf, IntKind.min, IntKind.max, IntKind.signed, IntKind.bits] at hb; exact hb
  obtain ⟨n, rfl⟩ := Int.eq_ofNat_of_zero_le h1.1
  obtain ⟨m, rfl⟩ := Int.eq_ofNat_of_zero_le h2.1
  exact networkLimits_row w h n m
end Go.Proofs.YtpeifmkodoignaaDoor

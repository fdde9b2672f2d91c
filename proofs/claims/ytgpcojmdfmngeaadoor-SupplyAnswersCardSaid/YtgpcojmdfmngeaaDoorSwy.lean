/-
  Walks of supply.source and supply.Way.
-/
import Derived.Test.YtgpcojmdfmngeaaDoorGe
import Derived.Test.YtgpcojmdfmngeaaDoorGk
import Derived.Test.YtgpcojmdfmngeaaDoorGa
import Derived.Test.YtgpcojmdfmngeaaDoorGf
namespace Go.Proofs.YtgpcojmdfmngeaaDoor
open Go.RowKit
set_option maxHeartbeats 400000
set_option maxRecDepth 100000

def srcB (d : Dev) (p : Int) : Bool := (p == 2) && ((d.kind == 5) || (d.kind == 6))
/-- the nodes of closed sources, each once -/
def goalsZ : List (Dev × Int) → List Nat → List Nat
  | [], g => g
  | z :: zs, g => goalsZ zs (if srcB z.1 z.2 && !g.contains z.1.a.toNat then g ++ [z.1.a.toNat] else g)
/-- the first closed source at a node -/
def firstS (e : Nat) : List (Dev × Int) → Nat → Option Nat
  | [], _ => none
  | z :: zs, i => if srcB z.1 z.2 && (z.1.a == (e : Int)) then some i else firstS e zs (i + 1)
def swayD (ds : List Dev) (st : List Int) : List Int := distL ds (useOf st) (goalsZ (ds.zip st) [])
def swayT (ds : List Dev) (st : List Int) (v : Nat) : List Nat × Nat := trailZ (swayD ds st) (ds.zip (useOf st)) (PO.at_ (swayD ds st) v).toNat v
def swayL (ns : List Node) (ds : List Dev) (st : List Int) (v : Int) : List Nat × Bool × Int :=
  if maskC isPos ns ds st ≠ 0 then ([], false, maskC isPos ns ds st)
  else if existsB ns.length v = false then ([], false, 7)
  else if PO.at_ (swayD ds st) v.toNat < 0 then ([], false, 0)
  else match firstS (swayT ds st v.toNat).2 (ds.zip st) 0 with
    | some i => ((swayT ds st v.toNat).1 ++ [i], true, 0)
    | none => ([], false, 0)
theorem goalsZ_drop (zs : List (Dev × Int)) (k : Nat) (h : k < zs.length) (g : List Nat) : goalsZ (zs.drop k) g = goalsZ (zs.drop (k + 1)) (if srcB zs[k].1 zs[k].2 && !g.contains zs[k].1.a.toNat then g ++ [zs[k].1.a.toNat] else g) := by
  rw [List.drop_eq_getElem_cons h]; rfl
theorem firstS_drop (e : Nat) (zs : List (Dev × Int)) (k : Nat) (h : k < zs.length) (i : Nat) : firstS e (zs.drop k) i = if srcB zs[k].1 zs[k].2 && (zs[k].1.a == (e : Int)) then some i else firstS e (zs.drop (k + 1)) (i + 1) := by
  rw [List.drop_eq_getElem_cons h]; rfl
theorem goalsZ_in {n : Nat} : ∀ (zs : List (Dev × Int)) (g : List Nat), (∀ z ∈ zs, 0 ≤ z.1.a ∧ z.1.a < n) → (∀ x ∈ g, x < n) → ∀ x ∈ goalsZ zs g, x < n
  | [], _, _, h => h
  | z :: zs, g, hz, h => by
    rw [goalsZ]
    refine goalsZ_in zs _ (fun y hy => hz y (by simp [hy])) ?_
    split
    · intro x hx
      rcases List.mem_append.1 hx with hx | hx
      · exact h x hx
      · have := hz z (by simp)
        simp at hx
        omega
    · exact h
theorem goalsZ_len : ∀ (zs : List (Dev × Int)) (g : List Nat), (goalsZ zs g).length ≤ g.length + zs.length
  | [], g => by simp [goalsZ]
  | z :: zs, g => by
    rw [goalsZ]
    have h1 : (if srcB z.1 z.2 && !g.contains z.1.a.toNat then g ++ [z.1.a.toNat] else g).length ≤ g.length + 1 := by split <;> simp
    have := goalsZ_len zs (if srcB z.1 z.2 && !g.contains z.1.a.toNat then g ++ [z.1.a.toNat] else g)
    rw [List.length_cons]
    omega

theorem source_any (w : World) (d : Dev) (p : Int) : Calls Tryd.prog 141 #[devAgg d, .int .i64 p] w fun e w' => e = .returned (.bool (srcB d p)) ∧ Below w.heap.size w w' := by
  have hb := (Below.refl w.heap.size w).alloc (Nat.le_refl _) (.cells #[.string d.name, .int .i64 d.kind, .int .i64 d.a, .int .i64 d.b, .int .i64 d.comp] 78)
  by_cases h1 : (p == 2) = true
  · by_cases h5 : (d.kind == 5) = true
    · have e : srcB d p = true := by simp only [srcB, h1, h5]; rfl
      rw [e]
      clear e
      go_enter Tryd.func141, Tryd.ntmps141
      go_wp2_with (fail)
      go_ret
      exact ⟨rfl, hb⟩
    · have h5 : (d.kind == 5) = false := by simpa using h5
      by_cases h6 : (d.kind == 6) = true
      · have e : srcB d p = true := by simp only [srcB, h1, h5, h6]; rfl
        rw [e]
        clear e
        go_enter Tryd.func141, Tryd.ntmps141
        go_wp2_with (fail)
        go_ret
        exact ⟨rfl, hb⟩
      · have h6 : (d.kind == 6) = false := by simpa using h6
        have e : srcB d p = false := by simp only [srcB, h1, h5, h6]; rfl
        rw [e]
        clear e
        go_enter Tryd.func141, Tryd.ntmps141
        go_wp2_with (fail)
        go_ret
        exact ⟨rfl, hb⟩
  · have h1 : (p == 2) = false := by simpa using h1
    have e : srcB d p = false := by simp only [srcB, h1]; rfl
    rw [e]
    clear e
    go_enter Tryd.func141, Tryd.ntmps141
    go_wp2_with (fail)
    go_ret
    exact ⟨rfl, hb⟩

theorem containsN_any (y : Int) (w : World) (S : Nat → Prop) (A : Option Addr) (c : Nat) (gl : List Nat) (hs : SI w S A (nats gl)) (hl : gl.length ≤ 65536) :
    Calls Tryd.prog 132 #[.slice A gl.length c, .int .i64 y] w fun e w' => e = .returned (.bool ((nats gl).any (fun x => y == x))) ∧ w = w' := by
  have := contains_any y w S A c (nats gl) hs (by rw [nats_len]; exact hl)
  rw [nats_len] at this
  exact this
theorem nats_any (gl : List Nat) (a : Nat) : (nats gl).any (fun x => (a : Int) == x) = gl.contains a := by
  rw [Bool.eq_iff_iff, List.any_eq_true, List.contains_iff_mem]
  constructor
  · rintro ⟨x, hx, e⟩
    obtain ⟨y, hy, rfl⟩ := List.mem_map.1 hx
    have : (a : Int) = y := by simpa using e
    obtain rfl : a = y := by omega
    exact hy
  · intro h
    exact ⟨a, List.mem_map.2 ⟨a, h, rfl⟩, by simp⟩
theorem useOf_len (st : List Int) : (useOf st).length = st.length := by simp [useOf]
theorem useOf_get (st : List Int) (k : Nat) (h : k < st.length) : (useOf st)[k]'(by rw [useOf_len]; exact h) = (st[k] == 2) := by simp [useOf]

set_option maxHeartbeats 16000000 in
theorem sway_any (w : World) (h : TabC w) (ht : Tab w) (S : Nat → Prop) (A1 A2 : Option Addr) (c1 c2 : Nat) (ns : List Node) (ds : List Dev) (hn : NetIn w S A1 A2 ns ds) (hl1 : ns.length ≤ 65536) (hl2 : ds.length ≤ 65536)
    (U : Option Addr) (cu : Nat) (st : List Int) (hs : SI w S U st) (hsl : st.length ≤ 65536) (v : Int) :
    Calls Tryd.prog 78 #[.agg #[.slice A1 ns.length c1, .slice A2 ds.length c2], .slice U st.length cu, .int .i64 v] w (RetWay w (swayL ns ds st v)) := by
  have hb := (Below.refl w.heap.size w).alloc (Nat.le_refl _) (.cells #[.slice A1 ns.length c1, .slice A2 ds.length c2] 26)
  have HC := Lib.hid (mstate_any _ (h.below hb) (ht.below hb) S A1 A2 c1 c2 ns ds (hn.below hb) hl1 hl2 U cu st (hs.keep (Kept.of_below hb)) hsl)
  have HZ := Lib.hid (@maskC_zero isPos ns ds st)
  have HE := Lib.hid (show swayL ns ds st v = (if maskC isPos ns ds st ≠ 0 then ([], false, maskC isPos ns ds st) else if existsB ns.length v = false then ([], false, 7) else if PO.at_ (swayD ds st) v.toNat < 0 then ([], false, 0) else match firstS (swayT ds st v.toNat).2 (ds.zip st) 0 with | some i => ((swayT ds st v.toNat).1 ++ [i], true, 0) | none => ([], false, 0)) from rfl)
  have HX := fun w => exists_any A1 A2 ns.length c1 ds.length c2 v w
  have Xa := Lib.hid (@exists_pos ns.length v)
  generalize maskC isPos ns ds st = ce at *
  by_cases h0 : (ce != 0) = true
  · have H0 := Lib.hid (show ¬ ce = 0 by simpa using h0)
    clear HX
    go_enter Tryd.func78, Tryd.ntmps78
    go_wp2_with (fail)
    refine (HC.out).mono ?_
    rintro e w1 ⟨rfl, hb1⟩
    go_wp2_with (fail)
    go_ret3
    rw [HE.out, if_pos H0.out]
    exact ⟨none, 0, rfl, OI.nil _ _, hb.trans (hb1.mono hb.size)⟩
  · have h0' : (ce != 0) = false := by simpa using h0
    have hz : ce = 0 := by simpa using h0
    obtain ⟨z1, z2, z3⟩ := HZ.out hz
    have hD := checkL_zero z1
    rw [if_neg (by simpa using hz)] at HE
    rw [hz] at HC
    have Z2 := Lib.hid z2
    have HD := Lib.hid hD
    have hl1 := hD.few
    have hl2 := hD.dev
    generalize existsB ns.length v = ea at *
    have HX := Lib.hid HX
    clear h0 hz z1 z2 z3 HZ h0' hD
    go_enter Tryd.func78, Tryd.ntmps78
    go_wp2_with (fail)
    refine (HC.out).mono ?_
    rintro e w1 ⟨rfl, hb1⟩
    have hbA := hb.trans (hb1.mono hb.size)
    have Hbox := Lib.hid (box_at hb1)
    have n0 : w1.cell? ⟨w.heap.size, 0, none⟩ = some (.slice A1 ns.length c1) := by rw [cell_of_row w1 _ 0 _ _ _ Hbox.out]; rfl
    have n1 : w1.cell? ⟨w.heap.size, 1, none⟩ = some (.slice A2 ds.length c2) := by rw [cell_of_row w1 _ 1 _ _ _ Hbox.out]; rfl
    go_wp2_with (fail)
    refine (HX.out w1).mono ?_
    rintro e w2 ⟨rfl, hb2⟩
    have hbB := hbA.trans (hb2.mono hbA.size)
    have n0' : w2.cell? ⟨w.heap.size, 0, none⟩ = some (.slice A1 ns.length c1) := (hb2.cell (p := ⟨w.heap.size, 0, none⟩) (World.block_lt_of_cell? _ _ n0)).trans n0
    have n1' : w2.cell? ⟨w.heap.size, 1, none⟩ = some (.slice A2 ds.length c2) := (hb2.cell (p := ⟨w.heap.size, 1, none⟩) (World.block_lt_of_cell? _ _ n1)).trans n1
    clear n0 n1 Hbox HC hb1 hb2 hb
    cases ea
    · go_wp2_with (fail)
      go_ret3
      rw [HE.out, if_pos trivial]
      exact ⟨none, 0, rfl, OI.nil _ _, hbB⟩
    · rw [if_neg (by decide)] at HE
      obtain ⟨kv, rfl, hkv⟩ := Xa.out rfl
      rw [Int.toNat_natCast] at HE
      have hnl1 : 1 ≤ ns.length := by omega
      obtain ⟨w3, hmk, ho3, hb3, hz3⟩ := make_bools w2 ds.length (by omega)
      have hwz : w.heap.size < w2.heap.size := World.block_lt_of_cell? _ _ n0'
      have m1 : w3.cell? ⟨w.heap.size, 1, none⟩ = some (.slice A2 ds.length c2) := (hb3.cell (p := ⟨w.heap.size, 1, none⟩) (World.block_lt_of_cell? _ _ n1')).trans n1'
      have hn2 := hn.below hbB
      have hs2 := hs.keep (Kept.of_below hbB)
      have o0 : OB w3 w2.heap.size ds.length (filled (useOf st) false 0) := by rw [filled_zero, useOf_len, Z2.out]; exact ho3
      have Hg0 := Lib.hid (show goalsZ (ds.zip st) [] = goalsZ ((ds.zip st).drop 0) [] from rfl)
      clear hn hs ho3 hz3 Xa HX hbA
      go_wp2_with (fail)
      clear hmk
      obtain ⟨gu, hgu⟩ : ∃ x, x = w2.heap.size := ⟨_, rfl⟩
      have hgu1 : gu ≤ w2.heap.size := by omega
      have hgu2 : w2.heap.size ≤ gu := by omega
      rw [← hgu] at o0 ⊢
      clear hgu
      go_loopg [11, 36] ds.length (fun g vg i wr => ∃ (k : Nat) (A' : Option Addr) (c' : Nat) (gl : List Nat), k + g = ds.length ∧ i = .int .i64 k ∧ vg = .slice A' gl.length c' ∧ gl.length ≤ k ∧ goalsZ (ds.zip st) [] = goalsZ ((ds.zip st).drop k) gl ∧ OI wr (fun g => gu < g) A' c' (nats gl) ∧ OB wr gu ds.length (filled (useOf st) false k) ∧ Below w2.heap.size w2 wr ∧ gu < wr.heap.size)
      case atStart => exact ⟨0, none, 0, [], by omega, rfl, rfl, by simp, Hg0.out, OI.nil _ _, o0, hb3, by have := (OB.at_ (k := 0) o0); exact (OV.block o0 gu rfl).2⟩
      case round =>
        clear o0 hb3 m1
        obtain ⟨k, A', c', gl, hk, rfl, rfl, hgk, hgz, oG, oU, hB, hgz2⟩ := hrel
        have Hk := Lib.hid hk
        have Hgz := Lib.hid hgz
        clear hk hgz
        by_cases hlt : k < ds.length
        · obtain ⟨b', off, rfl, _, _, q0, q1, q2, q3, q4⟩ := (hn2.below hB).dev hlt
          have hks : k < st.length := by have := Z2.out; omega
          have hku : k < (useOf st).length := by rw [useOf_len]; exact hks
          have hkz : k < (ds.zip st).length := by simp; omega
          have hgd := goalsZ_drop (ds.zip st) k hkz gl
          rw [List.getElem_zip] at hgd
          simp only at hgd
          have hda := HD.out.first ds[k] (List.getElem_mem hlt)
          obtain ⟨bs, os, rfl, _, hblt, hcs0⟩ := hs2.at_ hks
          have hcs := (hB.cell (p := ⟨bs, os + k, none⟩) hblt).trans hcs0
          have hblr : bs < wr.heap.size := by have := hB.size; omega
          obtain ⟨u1, u2, _⟩ := oU.at_ (k := k) (by rw [filled_len _ _ _ (by omega)]; exact hku)
          have Hfs := Lib.hid (show (filled (useOf st) false k).set k (st[k] == 2) = filled (useOf st) false (k + 1) by rw [← filled_step _ _ k hku, useOf_get st k hks])
          have hbX := (Below.refl wr.heap.size wr).alloc (Nat.le_refl _) (.cells #[.string ds[k].name, .int .i64 ds[k].kind, .int .i64 ds[k].a, .int .i64 ds[k].b, .int .i64 ds[k].comp] 78)
          have box := heap_alloc_new wr (.cells #[.string ds[k].name, .int .i64 ds[k].kind, .int .i64 ds[k].a, .int .i64 ds[k].b, .int .i64 ds[k].comp] 78)
          generalize ds[k] = dv at *
          generalize st[k] = sm at *
          obtain ⟨ka, hka⟩ := Int.eq_ofNat_of_zero_le hda.1
          have hdt : dv.a.toNat = ka := by omega
          rw [hdt] at hgd
          have Hka := Lib.hid hka
          clear hdt hka hda
          have hne4 : ¬ gu = wr.heap.size := by omega
          obtain ⟨wo, rfl⟩ : ∃ x : World, x = wr := ⟨_, rfl⟩
          obtain ⟨wi, hwi⟩ : ∃ x, x = (wo.setCell ⟨gu, k, none⟩ (.bool (sm == 2))).alloc (.cells #[.string dv.name, .int .i64 dv.kind, .int .i64 dv.a, .int .i64 dv.b, .int .i64 dv.comp] 78) := ⟨_, rfl⟩
          have hzs : (wo.setCell ⟨gu, k, none⟩ (.bool (sm == 2))).heap.size = wo.heap.size := by simp [World.setCell]
          have box := heap_alloc_new (wo.setCell ⟨gu, k, none⟩ (.bool (sm == 2))) (.cells #[.string dv.name, .int .i64 dv.kind, .int .i64 dv.a, .int .i64 dv.b, .int .i64 dv.comp] 78)
          rw [hzs, ← hwi] at box
          have hBi : Below w2.heap.size w2 wi := by rw [hwi]; exact (hB.setCell (p := ⟨gu, k, none⟩) (by show w2.heap.size ≤ gu; omega) _).alloc (by rw [hzs]; exact hB.size) _
          have oGi : OI wi (fun g => gu < g) A' c' (nats gl) := by rw [hwi]; exact (oG.keep (Kept.setCell (p := ⟨gu, k, none⟩) (by show ¬ gu < gu; omega) _)).keep (Kept.alloc _ _ _)
          have oUi : OB wi gu ds.length (filled (useOf st) false (k + 1)) := by rw [hwi, ← Hfs.out]; exact (oU.set k (sm == 2)).fr (Below.heap_alloc _ _ _ (by rw [hzs]; exact hgz2))
          have hzi : wi.heap.size = wo.heap.size + 1 := by rw [hwi]; simp [World.setCell]
          have x0 : wi.cell? ⟨wo.heap.size, 0, none⟩ = some (.string dv.name) := by rw [cell_of_row wi _ 0 _ _ _ box]; rfl
          have x1 : wi.cell? ⟨wo.heap.size, 1, none⟩ = some (.int .i64 dv.kind) := by rw [cell_of_row wi _ 1 _ _ _ box]; rfl
          have x2 : wi.cell? ⟨wo.heap.size, 2, none⟩ = some (.int .i64 dv.a) := by rw [cell_of_row wi _ 2 _ _ _ box]; rfl
          have x3 : wi.cell? ⟨wo.heap.size, 3, none⟩ = some (.int .i64 dv.b) := by rw [cell_of_row wi _ 3 _ _ _ box]; rfl
          have x4 : wi.cell? ⟨wo.heap.size, 4, none⟩ = some (.int .i64 dv.comp) := by rw [cell_of_row wi _ 4 _ _ _ box]; rfl
          have xs : wi.cell? ⟨bs, os + k, none⟩ = some (.int .i64 sm) := by
            exact (hBi.cell (p := ⟨bs, os + k, none⟩) hblt).trans hcs0
          have sG := oGi.si
          have Hwi := Lib.hid hwi
          have HgD := Lib.hid hgd
          clear hbX box hwi hgd Hfs
          have hcb : (nats gl).any (fun x => dv.a == x) = gl.contains ka := by rw [Hka.out]; exact nats_any gl ka
          obtain ⟨cb, hcbe⟩ : ∃ cb, cb = gl.contains ka := ⟨_, rfl⟩
          rw [← hcbe] at hcb HgD
          have Hsl := Lib.hid (show srcB dv sm = true ∨ srcB dv sm = false by cases srcB dv sm <;> simp)
          go_upto_region 12 with (fail)
          rw [← Hwi.out]
          clear hcbe q0 q1 q2 q3 q4 u1 u2 hcs hcs0 oG oU hB
          go_cut [61] (fun v wx => v = .bool (srcB dv sm && !cb) ∧ Below wi.heap.size wi wx)
          case first =>
            rcases Hsl.out with hsrc | hsrc
            · skip
              refine wp_region_extG (by kernel_rfl) 13 [49, 50, 51, 52, 53, 54, 55, 56, 57, 58, 59, 60, 61] [(55, true)] [] (fun w' => Below wi.heap.size wi w') (fun a b => Below a.heap.size a b) (fun d vv w' => if d = 49 then vv = devAgg dv else if d = 50 then vv = .slice (some ⟨bs, os, none⟩) st.length cu else if d = 51 then vv = .int .i64 (k : Nat) else if d = 52 then vv = .pointer (some ⟨bs, os + k, none⟩) else if d = 53 then vv = .int .i64 sm else if d = 54 then vv = .bool true else if d = 55 then vv = .bool true else if d = 61 then vv = .bool (!cb) else if d = 56 then vv = .slice A' gl.length c' else if d = 57 then vv = .pointer (some ⟨wo.heap.size, 2, none⟩) else if d = 58 then vv = .int .i64 dv.a else if d = 59 then vv = .bool cb else if d = 60 then vv = .bool (!cb) else False) (by kernel_rfl) (by kernel_rfl) (by simp) ((Below.refl _ _).drew) (fun w => Below.refl _ _) (by simp) (by simp) (fun _ _ _ _ _ _ h => h) ?_ ?_
              · intro i o d hi hwt ho hd f w1 hC hdep K hK
                have hi' : i = 0 ∨ i = 1 ∨ i = 2 ∨ i = 3 ∨ i = 4 ∨ i = 5 ∨ i = 6 ∨ i = 7 ∨ i = 8 ∨ i = 9 ∨ i = 10 ∨ i = 11 ∨ i = 12 := by omega
                rcases hi' with rfl | rfl | rfl | rfl | rfl | rfl | rfl | rfl | rfl | rfl | rfl | rfl | rfl
                · simp only [List.getElem?_toArray, List.getElem?_cons_zero, Option.some.injEq] at ho
                  clear hwt
                  subst ho
                  simp only [Option.some.injEq] at hd
                  subst hd
                  generalize hA : fr _ _ _ f = A at hK ⊢
                  have e13 : A.tmps[13]?.getD undef = .pointer (some ⟨wo.heap.size, 0, none⟩) := by rw [← hA]; exact fr_out _ _ _ _ 13 _ (by decide) rfl
                  clear hA hdep
                  have hcx0 := (hC.cell (World.block_lt_of_cell? _ _ x0)).trans x0
                  have hcx1 := (hC.cell (World.block_lt_of_cell? _ _ x1)).trans x1
                  have hcx2 := (hC.cell (World.block_lt_of_cell? _ _ x2)).trans x2
                  have hcx3 := (hC.cell (World.block_lt_of_cell? _ _ x3)).trans x3
                  have hcx4 := (hC.cell (World.block_lt_of_cell? _ _ x4)).trans x4
                  go_simp
                  exact hK _ _ (Below.refl _ _) hC rfl
                · simp only [List.getElem?_toArray, List.getElem?_cons_zero, List.getElem?_cons_succ, Option.some.injEq] at ho
                  clear hwt
                  subst ho
                  simp only [Option.some.injEq] at hd
                  subst hd
                  generalize hA : fr _ _ _ f = A at hK ⊢
                  have e1 : A.tmps[1]?.getD undef = .slice (some ⟨bs, os, none⟩) st.length cu := by rw [← hA]; exact fr_out _ _ _ _ 1 _ (by decide) rfl
                  clear hA hdep
                  go_simp
                  exact hK _ _ (Below.refl _ _) hC rfl
                · simp only [List.getElem?_toArray, List.getElem?_cons_zero, List.getElem?_cons_succ, Option.some.injEq] at ho
                  clear hwt
                  subst ho
                  simp only [Option.some.injEq] at hd
                  subst hd
                  generalize hA : fr _ _ _ f = A at hK ⊢
                  have e12 : A.tmps[12]?.getD undef = .int .i64 (k : Nat) := by rw [← hA]; exact fr_out _ _ _ _ 12 _ (by decide) rfl
                  clear hA hdep
                  go_simp
                  exact hK _ _ (Below.refl _ _) hC rfl
                · simp only [List.getElem?_toArray, List.getElem?_cons_zero, List.getElem?_cons_succ, Option.some.injEq] at ho
                  clear hwt
                  subst ho
                  simp only [Option.some.injEq] at hd
                  subst hd
                  have h50 : f 50 = .slice (some ⟨bs, os, none⟩) st.length cu := hdep { on := 1, ground := .data } (by simp) rfl 50 rfl
                  have h51 : f 51 = .int .i64 (k : Nat) := hdep { on := 2, ground := .data } (by simp) rfl 51 rfl
                  generalize hA : fr _ _ _ f = A at hK ⊢
                  have e50 : A.tmps[50]?.getD undef = f 50 := by rw [← hA]; exact fr_in _ _ _ _ 50 (by decide) (by simp)
                  have e51 : A.tmps[51]?.getD undef = f 51 := by rw [← hA]; exact fr_in _ _ _ _ 51 (by decide) (by simp)
                  clear hA hdep
                  rw [h50] at e50
                  clear h50
                  rw [h51] at e51
                  clear h51
                  go_simp
                  exact hK _ _ (Below.refl _ _) hC rfl
                · simp only [List.getElem?_toArray, List.getElem?_cons_zero, List.getElem?_cons_succ, Option.some.injEq] at ho
                  clear hwt
                  subst ho
                  simp only [Option.some.injEq] at hd
                  subst hd
                  have h52 : f 52 = .pointer (some ⟨bs, os + k, none⟩) := hdep { on := 3, ground := .data } (by simp) rfl 52 rfl
                  generalize hA : fr _ _ _ f = A at hK ⊢
                  have e52 : A.tmps[52]?.getD undef = f 52 := by rw [← hA]; exact fr_in _ _ _ _ 52 (by decide) (by simp)
                  clear hA hdep
                  rw [h52] at e52
                  clear h52
                  have hcxs := (hC.cell (World.block_lt_of_cell? _ _ xs)).trans xs
                  go_simp
                  exact hK _ _ (Below.refl _ _) hC rfl
                · simp only [List.getElem?_toArray, List.getElem?_cons_zero, List.getElem?_cons_succ, Option.some.injEq] at ho
                  clear hwt
                  subst ho
                  simp only [Option.some.injEq] at hd
                  subst hd
                  have h49 : f 49 = devAgg dv := hdep { on := 0, ground := .data } (by simp) rfl 49 rfl
                  have h53 : f 53 = .int .i64 sm := hdep { on := 4, ground := .data } (by simp) rfl 53 rfl
                  generalize hA : fr _ _ _ f = A at hK ⊢
                  have e49 : A.tmps[49]?.getD undef = f 49 := by rw [← hA]; exact fr_in _ _ _ _ 49 (by decide) (by simp)
                  have e53 : A.tmps[53]?.getD undef = f 53 := by rw [← hA]; exact fr_in _ _ _ _ 53 (by decide) (by simp)
                  clear hA hdep
                  rw [h49] at e49
                  clear h49
                  rw [h53] at e53
                  clear h53
                  go_simp
                  refine (source_any w1 dv sm).mono ?_
                  rw [hsrc]
                  rintro e' w2 ⟨rfl, hb2⟩
                  exact hK _ _ hb2 (hC.trans (hb2.mono hC.size)) rfl
                · simp only [List.getElem?_toArray, List.getElem?_cons_zero, List.getElem?_cons_succ, Option.some.injEq] at ho
                  clear hwt
                  subst ho
                  simp only [Option.some.injEq] at hd
                  subst hd
                  have h54 : f 54 = .bool true := hdep { on := 5, ground := .data } (by simp) rfl 54 rfl
                  generalize hA : fr _ _ _ f = A at hK ⊢
                  have e54 : A.tmps[54]?.getD undef = f 54 := by rw [← hA]; exact fr_in _ _ _ _ 54 (by decide) (by simp)
                  clear hA hdep
                  rw [h54] at e54
                  clear h54
                  go_simp
                  exact hK _ _ (Below.refl _ _) hC rfl
                · simp only [List.getElem?_toArray, List.getElem?_cons_zero, List.getElem?_cons_succ, Option.some.injEq] at ho
                  clear hwt
                  subst ho
                  simp only [Option.some.injEq] at hd
                  subst hd
                  generalize hA : fr _ _ _ f = A at hK ⊢
                  have e11 : A.tmps[11]?.getD undef = .slice A' gl.length c' := by rw [← hA]; exact fr_out _ _ _ _ 11 _ (by decide) rfl
                  clear hA hdep
                  go_simp
                  exact hK _ _ (Below.refl _ _) hC rfl
                · simp only [List.getElem?_toArray, List.getElem?_cons_zero, List.getElem?_cons_succ, Option.some.injEq] at ho
                  clear hwt
                  subst ho
                  simp only [Option.some.injEq] at hd
                  subst hd
                  generalize hA : fr _ _ _ f = A at hK ⊢
                  have e13 : A.tmps[13]?.getD undef = .pointer (some ⟨wo.heap.size, 0, none⟩) := by rw [← hA]; exact fr_out _ _ _ _ 13 _ (by decide) rfl
                  clear hA hdep
                  go_simp
                  exact hK _ _ (Below.refl _ _) hC rfl
                · simp only [List.getElem?_toArray, List.getElem?_cons_zero, List.getElem?_cons_succ, Option.some.injEq] at ho
                  clear hwt
                  subst ho
                  simp only [Option.some.injEq] at hd
                  subst hd
                  have h57 : f 57 = .pointer (some ⟨wo.heap.size, 2, none⟩) := hdep { on := 8, ground := .data } (by simp) rfl 57 rfl
                  generalize hA : fr _ _ _ f = A at hK ⊢
                  have e57 : A.tmps[57]?.getD undef = f 57 := by rw [← hA]; exact fr_in _ _ _ _ 57 (by decide) (by simp)
                  clear hA hdep
                  rw [h57] at e57
                  clear h57
                  have hcx2 := (hC.cell (World.block_lt_of_cell? _ _ x2)).trans x2
                  go_simp
                  exact hK _ _ (Below.refl _ _) hC rfl
                · simp only [List.getElem?_toArray, List.getElem?_cons_zero, List.getElem?_cons_succ, Option.some.injEq] at ho
                  clear hwt
                  subst ho
                  simp only [Option.some.injEq] at hd
                  subst hd
                  have h56 : f 56 = .slice A' gl.length c' := hdep { on := 7, ground := .data } (by simp) rfl 56 rfl
                  have h58 : f 58 = .int .i64 dv.a := hdep { on := 9, ground := .data } (by simp) rfl 58 rfl
                  generalize hA : fr _ _ _ f = A at hK ⊢
                  have e56 : A.tmps[56]?.getD undef = f 56 := by rw [← hA]; exact fr_in _ _ _ _ 56 (by decide) (by simp)
                  have e58 : A.tmps[58]?.getD undef = f 58 := by rw [← hA]; exact fr_in _ _ _ _ 58 (by decide) (by simp)
                  clear hA hdep
                  rw [h56] at e56
                  clear h56
                  rw [h58] at e58
                  clear h58
                  go_simp
                  refine (containsN_any dv.a w1 _ A' c' gl (sG.keep (Kept.of_below hC)) (by omega)).mono ?_
                  rw [hcb]
                  rintro e' w2 ⟨rfl, rfl⟩
                  exact hK _ _ (Below.refl _ _) hC rfl
                · simp only [List.getElem?_toArray, List.getElem?_cons_zero, List.getElem?_cons_succ, Option.some.injEq] at ho
                  clear hwt
                  subst ho
                  simp only [Option.some.injEq] at hd
                  subst hd
                  have h59 : f 59 = .bool cb := hdep { on := 10, ground := .data } (by simp) rfl 59 rfl
                  generalize hA : fr _ _ _ f = A at hK ⊢
                  have e59 : A.tmps[59]?.getD undef = f 59 := by rw [← hA]; exact fr_in _ _ _ _ 59 (by decide) (by simp)
                  clear hA hdep
                  rw [h59] at e59
                  clear h59
                  go_simp
                  exact hK _ _ (Below.refl _ _) hC rfl
                · simp only [List.getElem?_toArray, List.getElem?_cons_zero, List.getElem?_cons_succ, Option.some.injEq] at ho
                  clear hwt
                  subst ho
                  simp only [Option.some.injEq] at hd
                  subst hd
                  have h55 : f 55 = .bool true := hdep { on := 6, ground := .data } (by simp) rfl 55 rfl
                  have h60 : f 60 = .bool (!cb) := hdep { on := 11, ground := .data } (by simp) rfl 60 rfl
                  generalize hA : fr _ _ _ f = A at hK ⊢
                  have e55 : A.tmps[55]?.getD undef = f 55 := by rw [← hA]; exact fr_in _ _ _ _ 55 (by decide) (by simp)
                  have e60 : A.tmps[60]?.getD undef = f 60 := by rw [← hA]; exact fr_in _ _ _ _ 60 (by decide) (by simp)
                  clear hA hdep
                  rw [h55] at e55
                  clear h55
                  rw [h60] at e60
                  clear h60
                  go_simp
                  exact hK _ _ (Below.refl _ _) hC rfl
              · intro f w1 hC hall
                have q0 : f 61 = .bool (!cb) := hall 12 61 (by decide) rfl
                have H0 := Lib.hid q0
                clear hall q0
                simp only [fr, upd, List.mapIdx_cons, List.mapIdx_nil]
                simp
                go_wp2_with fail
                go_meet
                case rel => exact ⟨by rw [H0.out, hsrc]; rfl, hC⟩
            · skip
              refine wp_region_extG (by kernel_rfl) 13 [49, 50, 51, 52, 53, 54, 55, 56, 57, 58, 59, 60, 61] [(55, false)] [56, 57, 58, 59, 60] (fun w' => Below wi.heap.size wi w') (fun a b => Below a.heap.size a b) (fun d vv w' => if d = 49 then vv = devAgg dv else if d = 50 then vv = .slice (some ⟨bs, os, none⟩) st.length cu else if d = 51 then vv = .int .i64 (k : Nat) else if d = 52 then vv = .pointer (some ⟨bs, os + k, none⟩) else if d = 53 then vv = .int .i64 sm else if d = 54 then vv = .bool false else if d = 55 then vv = .bool false else if d = 61 then vv = .bool (false) else if d = 56 then vv = undef else if d = 57 then vv = undef else if d = 58 then vv = undef else if d = 59 then vv = undef else if d = 60 then vv = undef else False) (by kernel_rfl) (by kernel_rfl) (by simp) ((Below.refl _ _).drew) (fun w => Below.refl _ _) (by simp) (by simp) (fun _ _ _ _ _ _ h => h) ?_ ?_
              · intro i o d hi hwt ho hd f w1 hC hdep K hK
                have hi' : i = 0 ∨ i = 1 ∨ i = 2 ∨ i = 3 ∨ i = 4 ∨ i = 5 ∨ i = 6 ∨ i = 7 ∨ i = 8 ∨ i = 9 ∨ i = 10 ∨ i = 11 ∨ i = 12 := by omega
                rcases hi' with rfl | rfl | rfl | rfl | rfl | rfl | rfl | rfl | rfl | rfl | rfl | rfl | rfl
                · simp only [List.getElem?_toArray, List.getElem?_cons_zero, Option.some.injEq] at ho
                  clear hwt
                  subst ho
                  simp only [Option.some.injEq] at hd
                  subst hd
                  generalize hA : fr _ _ _ f = A at hK ⊢
                  have e13 : A.tmps[13]?.getD undef = .pointer (some ⟨wo.heap.size, 0, none⟩) := by rw [← hA]; exact fr_out _ _ _ _ 13 _ (by decide) rfl
                  clear hA hdep
                  have hcx0 := (hC.cell (World.block_lt_of_cell? _ _ x0)).trans x0
                  have hcx1 := (hC.cell (World.block_lt_of_cell? _ _ x1)).trans x1
                  have hcx2 := (hC.cell (World.block_lt_of_cell? _ _ x2)).trans x2
                  have hcx3 := (hC.cell (World.block_lt_of_cell? _ _ x3)).trans x3
                  have hcx4 := (hC.cell (World.block_lt_of_cell? _ _ x4)).trans x4
                  go_simp
                  exact hK _ _ (Below.refl _ _) hC rfl
                · simp only [List.getElem?_toArray, List.getElem?_cons_zero, List.getElem?_cons_succ, Option.some.injEq] at ho
                  clear hwt
                  subst ho
                  simp only [Option.some.injEq] at hd
                  subst hd
                  generalize hA : fr _ _ _ f = A at hK ⊢
                  have e1 : A.tmps[1]?.getD undef = .slice (some ⟨bs, os, none⟩) st.length cu := by rw [← hA]; exact fr_out _ _ _ _ 1 _ (by decide) rfl
                  clear hA hdep
                  go_simp
                  exact hK _ _ (Below.refl _ _) hC rfl
                · simp only [List.getElem?_toArray, List.getElem?_cons_zero, List.getElem?_cons_succ, Option.some.injEq] at ho
                  clear hwt
                  subst ho
                  simp only [Option.some.injEq] at hd
                  subst hd
                  generalize hA : fr _ _ _ f = A at hK ⊢
                  have e12 : A.tmps[12]?.getD undef = .int .i64 (k : Nat) := by rw [← hA]; exact fr_out _ _ _ _ 12 _ (by decide) rfl
                  clear hA hdep
                  go_simp
                  exact hK _ _ (Below.refl _ _) hC rfl
                · simp only [List.getElem?_toArray, List.getElem?_cons_zero, List.getElem?_cons_succ, Option.some.injEq] at ho
                  clear hwt
                  subst ho
                  simp only [Option.some.injEq] at hd
                  subst hd
                  have h50 : f 50 = .slice (some ⟨bs, os, none⟩) st.length cu := hdep { on := 1, ground := .data } (by simp) rfl 50 rfl
                  have h51 : f 51 = .int .i64 (k : Nat) := hdep { on := 2, ground := .data } (by simp) rfl 51 rfl
                  generalize hA : fr _ _ _ f = A at hK ⊢
                  have e50 : A.tmps[50]?.getD undef = f 50 := by rw [← hA]; exact fr_in _ _ _ _ 50 (by decide) (by simp)
                  have e51 : A.tmps[51]?.getD undef = f 51 := by rw [← hA]; exact fr_in _ _ _ _ 51 (by decide) (by simp)
                  clear hA hdep
                  rw [h50] at e50
                  clear h50
                  rw [h51] at e51
                  clear h51
                  go_simp
                  exact hK _ _ (Below.refl _ _) hC rfl
                · simp only [List.getElem?_toArray, List.getElem?_cons_zero, List.getElem?_cons_succ, Option.some.injEq] at ho
                  clear hwt
                  subst ho
                  simp only [Option.some.injEq] at hd
                  subst hd
                  have h52 : f 52 = .pointer (some ⟨bs, os + k, none⟩) := hdep { on := 3, ground := .data } (by simp) rfl 52 rfl
                  generalize hA : fr _ _ _ f = A at hK ⊢
                  have e52 : A.tmps[52]?.getD undef = f 52 := by rw [← hA]; exact fr_in _ _ _ _ 52 (by decide) (by simp)
                  clear hA hdep
                  rw [h52] at e52
                  clear h52
                  have hcxs := (hC.cell (World.block_lt_of_cell? _ _ xs)).trans xs
                  go_simp
                  exact hK _ _ (Below.refl _ _) hC rfl
                · simp only [List.getElem?_toArray, List.getElem?_cons_zero, List.getElem?_cons_succ, Option.some.injEq] at ho
                  clear hwt
                  subst ho
                  simp only [Option.some.injEq] at hd
                  subst hd
                  have h49 : f 49 = devAgg dv := hdep { on := 0, ground := .data } (by simp) rfl 49 rfl
                  have h53 : f 53 = .int .i64 sm := hdep { on := 4, ground := .data } (by simp) rfl 53 rfl
                  generalize hA : fr _ _ _ f = A at hK ⊢
                  have e49 : A.tmps[49]?.getD undef = f 49 := by rw [← hA]; exact fr_in _ _ _ _ 49 (by decide) (by simp)
                  have e53 : A.tmps[53]?.getD undef = f 53 := by rw [← hA]; exact fr_in _ _ _ _ 53 (by decide) (by simp)
                  clear hA hdep
                  rw [h49] at e49
                  clear h49
                  rw [h53] at e53
                  clear h53
                  go_simp
                  refine (source_any w1 dv sm).mono ?_
                  rw [hsrc]
                  rintro e' w2 ⟨rfl, hb2⟩
                  exact hK _ _ hb2 (hC.trans (hb2.mono hC.size)) rfl
                · simp only [List.getElem?_toArray, List.getElem?_cons_zero, List.getElem?_cons_succ, Option.some.injEq] at ho
                  clear hwt
                  subst ho
                  simp only [Option.some.injEq] at hd
                  subst hd
                  have h54 : f 54 = .bool false := hdep { on := 5, ground := .data } (by simp) rfl 54 rfl
                  generalize hA : fr _ _ _ f = A at hK ⊢
                  have e54 : A.tmps[54]?.getD undef = f 54 := by rw [← hA]; exact fr_in _ _ _ _ 54 (by decide) (by simp)
                  clear hA hdep
                  rw [h54] at e54
                  clear h54
                  go_simp
                  exact hK _ _ (Below.refl _ _) hC rfl
                · exact absurd hwt (by decide)
                · exact absurd hwt (by decide)
                · exact absurd hwt (by decide)
                · exact absurd hwt (by decide)
                · exact absurd hwt (by decide)
                · simp only [List.getElem?_toArray, List.getElem?_cons_zero, List.getElem?_cons_succ, Option.some.injEq] at ho
                  clear hwt
                  subst ho
                  simp only [Option.some.injEq] at hd
                  subst hd
                  have h55 : f 55 = .bool false := hdep { on := 6, ground := .data } (by simp) rfl 55 rfl
                  have h60 : f 60 = undef := hdep { on := 11, ground := .data } (by simp) rfl 60 rfl
                  generalize hA : fr _ _ _ f = A at hK ⊢
                  have e55 : A.tmps[55]?.getD undef = f 55 := by rw [← hA]; exact fr_in _ _ _ _ 55 (by decide) (by simp)
                  have e60 : A.tmps[60]?.getD undef = f 60 := by rw [← hA]; exact fr_in _ _ _ _ 60 (by decide) (by simp)
                  clear hA hdep
                  rw [h55] at e55
                  clear h55
                  rw [h60] at e60
                  clear h60
                  go_simp
                  exact hK _ _ (Below.refl _ _) hC rfl
              · intro f w1 hC hall
                have q0 : f 61 = .bool (false) := hall 12 61 (by decide) rfl
                have H0 := Lib.hid q0
                clear hall q0
                simp only [fr, upd, List.mapIdx_cons, List.mapIdx_nil]
                simp
                go_wp2_with fail
                go_meet
                case rel => exact ⟨by rw [H0.out, hsrc]; rfl, hC⟩
          case rest =>
            obtain ⟨W1, rfl⟩ : ∃ x, x = wc := ⟨_, rfl⟩
            obtain ⟨rfl, hb1⟩ := hcut
            have hB1 := hBi.trans (hb1.mono hBi.size)
            have oG1 := oGi.keep (Kept.of_below hb1)
            have oU1 := oUi.fr (hb1.block gu (by omega))
            have hz1 := hb1.size
            have y2 := (hb1.cell (World.block_lt_of_cell? _ _ x2)).trans x2
            clear x0 x1 x2 x3 x4 xs sG hcb Hwi oGi oUi hBi
            cases hcc : (srcB dv sm && !cb)
            · rw [hcc] at HgD
              go_wp2_with (fail)
              go_roundg (gk - 1)
              case measure => have := Hk.out; omega
              case rel => exact ⟨k + 1, A', c', gl, by have := Hk.out; omega, by go_num, rfl, by omega, by rw [Hgz.out, HgD.out]; rfl, oG1, oU1, hB1, by omega⟩
            · rw [hcc] at HgD
              have oP := OI.keep oG1 (Kept.alloc _ W1 (.cells #[.int .i64 dv.a] 3))
              have hgz' : gu + 1 ≤ W1.heap.size := by omega
              have hnl := nats_len gl
              go_wp2_with (at_builtin; go_must (refine wpList_push (B := gu + 1) rfl (.tmp 62) (.tmp 65) rfl (xs := nats gl) (y := dv.a) rfl rfl hnl.symm oP (new_cell W1 _ _) (by rw [hnl]; omega) (by simp; omega) ?_); intro A5 c5 w5 ho5 hb5 _ _; rw [hnl])
              go_roundg (gk - 1)
              case measure => have := Hk.out; omega
              case rel =>
                have hb6 := ((Below.refl (gu + 1) W1).alloc hgz' (.cells #[.int .i64 dv.a] 3)).trans hb5
                refine ⟨k + 1, A5, c5, gl ++ [ka], by have := Hk.out; omega, by go_num, by simp, by simp; omega, by rw [Hgz.out, HgD.out]; rfl, ?_, oU1.fr (hb6.block gu (by omega)), hB1.trans (hb6.mono (by omega)), by have := hb6.size; omega⟩
                rw [show nats (gl ++ [ka]) = nats gl ++ [dv.a] by rw [Hka.out]; simp [nats]]
                exact ho5
        · have hgl : gl = goalsZ (ds.zip st) [] := by rw [Hgz.out, List.drop_of_length_le (by simp; omega)]; rfl
          rw [filled_all _ _ _ (by rw [useOf_len, Z2.out]; omega)] at oU
          have hkd : k ≤ ds.length := by have := Hk.out; omega
          have hgs : ∀ g ∈ gl, g < ns.length := by rw [hgl]; exact goalsZ_in _ _ (fun z hz => HD.out.first z.1 (List.of_mem_zip hz).1) (by simp)
          have hdl := (dist_ok HD.out hnl1 (useOf st) gl hgs).len
          have hfar := dist_far HD.out hnl1 (useOf st) gl hgs
          have hstep := dist_step HD.out hnl1 (useOf st) gl hgs
          have hul : (useOf st).length = ds.length := by rw [useOf_len, Z2.out]
          have hacr : ∀ d ∈ ds, ∀ v, acrossL d v < 32 := fun d hd v => by have := HD.out.across d hd v; omega
          have HE := Lib.hid (show swayL ns ds st kv = (if PO.at_ (distL ds (useOf st) gl) kv < 0 then ([], false, (0 : Int)) else match firstS (trailZ (distL ds (useOf st) gl) (ds.zip (useOf st)) (PO.at_ (distL ds (useOf st) gl) kv).toNat kv).2 (ds.zip st) 0 with | some i => ((trailZ (distL ds (useOf st) gl) (ds.zip (useOf st)) (PO.at_ (distL ds (useOf st) gl) kv).toNat kv).1 ++ [i], true, 0) | none => ([], false, 0)) by rw [HE.out]; unfold swayT swayD; rw [← hgl])
          obtain ⟨W3, rfl⟩ : ∃ x, x = wr := ⟨_, rfl⟩
          have m0 : W3.cell? ⟨w.heap.size, 0, none⟩ = some (.slice A1 ns.length c1) := (hB.cell (p := ⟨w.heap.size, 0, none⟩) (World.block_lt_of_cell? _ _ n0')).trans n0'
          have m1 : W3.cell? ⟨w.heap.size, 1, none⟩ = some (.slice A2 ds.length c2) := (hB.cell (p := ⟨w.heap.size, 1, none⟩) (World.block_lt_of_cell? _ _ n1')).trans n1'
          have hn3 := (hn2.below hB).mono (T := fun _ => True) (fun _ _ _ => trivial)
          have hs3 := (hs2.keep (Kept.of_below hB)).mono (T := fun _ => True) (fun _ _ _ => trivial)
          have sU := oU.sb
          have sG := oG.si.mono (T := fun _ => True) (fun _ _ _ => trivial)
          have HDi := distances_any W3 (fun _ => True) A1 A2 c1 c2 ns ds hn3 hl2 (some ⟨gu, 0, none⟩) ds.length (useOf st) sU hul A' c' gl sG (by omega) (fun g hg => by have := hgs g hg; omega) hacr
          rw [hul] at HDi
          have HDi := Lib.hid HDi
          have Hdl := Lib.hid hdl
          have Hfar := Lib.hid hfar
          have Hstep := Lib.hid hstep
          have Hacr := Lib.hid hacr
          have Hul := Lib.hid hul
          have hb3w := hbB.trans (hB.mono hbB.size)
          clear hdl hfar hstep hacr hgs hul hgl Hgz Hk oU oG hB n0' n1' Hg0 hn2 hs2
          generalize distL ds (useOf st) gl = dist at *
          go_wp2_with (fail)
          refine HDi.out.mono ?_
          rintro e w5 ⟨rfl, hb5⟩
          have hbE := hb3w.trans (hb5.mono hb3w.size)
          have S1 := Lib.hid (arr_size Hdl.out)
          have S2 := Lib.hid (show (32 : Nat) = (ints dist).toArray.size by simp [ints, Hdl.out])
          obtain ⟨w6, hw6⟩ : ∃ w6, w6 = w5.alloc (.cells (ints dist).toArray 120) := ⟨_, rfl⟩
          have hb36 : Below W3.heap.size W3 w6 := by rw [hw6]; exact hb5.alloc hb5.size _
          have hbF := hb3w.trans (hb36.mono hb3w.size)
          have hk32 : kv < 32 := by omega
          have hArr : Arr w6 w5.heap.size dist := by rw [hw6]; exact heap_alloc_new w5 _
          obtain ⟨a1, _⟩ := hArr.at_ (k := kv) (by rw [Hdl.out]; exact hk32)
          rw [← at_get (by rw [Hdl.out]; exact hk32)] at a1
          have r0 : w6.cell? ⟨w.heap.size, 0, none⟩ = some (.slice A1 ns.length c1) := (hb36.cell (p := ⟨w.heap.size, 0, none⟩) (World.block_lt_of_cell? _ _ m0)).trans m0
          have r1 : w6.cell? ⟨w.heap.size, 1, none⟩ = some (.slice A2 ds.length c2) := (hb36.cell (p := ⟨w.heap.size, 1, none⟩) (World.block_lt_of_cell? _ _ m1)).trans m1
          have HW6 := Lib.hid hw6
          clear hw6 m0 m1 hb5 hbE HDi
          by_cases hneg : PO.at_ dist kv < 0
          · rw [if_pos hneg] at HE
            go_wp2_with (refine wpList_store_row rfl 120 (.tmp 14) (.tmp 71) rfl w5.heap.size _ rfl rfl _ _ (heap_alloc_new w5 _) S1.out S2.out (ints_all _) ?_; rw [World.setRow_alloc_new, ← HW6.out])
            go_ret3
            rw [HE.out]
            exact ⟨none, 0, rfl, OI.nil _ _, hbF⟩
          · rw [if_neg hneg] at HE
            have hn6 := hn3.below hb36
            have hs6 := hs3.keep (Kept.of_below hb36)
            have HT := trail_any w6 (fun _ => True) A1 A2 c1 c2 ns ds hn6 hl2 (some ⟨gu, 0, none⟩) ds.length (useOf st) (sU.keep (Kept.of_below hb36)) Hul.out dist Hdl.out (fun v => by have := Hfar.out v; omega) kv hk32 Hacr.out Hstep.out
            rw [Hul.out] at HT
            have htl : (trailZ dist (ds.zip (useOf st)) (PO.at_ dist kv).toNat kv).1.length ≤ 32 := by
              rw [trailZ_len Hstep.out (PO.at_ dist kv).toNat kv (by omega)]
              have := Hfar.out kv
              omega
            generalize trailZ dist (ds.zip (useOf st)) (PO.at_ dist kv).toNat kv = rt at *
            obtain ⟨tl, en⟩ := rt
            simp only at HE htl
            have HT := Lib.hid HT
            go_wp2_with (first | (refine wpList_store_row rfl 120 (.tmp 14) (.tmp 71) rfl w5.heap.size _ rfl rfl _ _ (heap_alloc_new w5 _) S1.out S2.out (ints_all _) ?_; rw [World.setRow_alloc_new, ← HW6.out]) | (refine wpList_load_row rfl 120 (.tmp 14) rfl w5.heap.size rfl _ _ _ _ hArr Tryd.underlying120 rfl S1.out ?_) | fail)
            refine (HT.out).mono ?_
            rintro e w7 ⟨A7, c7, rfl, ho7, hb7⟩
            have hn7 := hn6.below hb7
            have hs7 := hs6.keep (Kept.of_below hb7)
            have hb7w := hbF.trans (hb7.mono hbF.size)
            have t1 : w7.cell? ⟨w.heap.size, 1, none⟩ = some (.slice A2 ds.length c2) := (hb7.cell (p := ⟨w.heap.size, 1, none⟩) (World.block_lt_of_cell? _ _ r1)).trans r1
            have hoT : OI w7 (fun g => w6.heap.size ≤ g) A7 c7 (nats tl) := ho7
            have hz7 := hb7.size
            clear r0 r1 a1 HT ho7 hb7 hn6 hs6 hn3 hs3 sU sG hArr hb36
            go_wp2_with (fail)
            go_loopg [87] ds.length (fun g i wr => ∃ k : Nat, k + g = ds.length ∧ i = .int .i64 k ∧ firstS en (ds.zip st) 0 = firstS en ((ds.zip st).drop k) k ∧ Below w7.heap.size w7 wr)
            case atStart => exact ⟨0, by omega, rfl, rfl, Below.refl _ _⟩
            case round =>
              clear t1
              obtain ⟨k, hk, rfl, hfz, hB⟩ := hrel
              have Hk := Lib.hid hk
              have Hfz := Lib.hid hfz
              clear hk hfz
              by_cases hlt : k < ds.length
              · obtain ⟨b', off, rfl, _, _, q0, q1, q2, q3, q4⟩ := (hn7.below hB).dev hlt
                have hks : k < st.length := by have := Z2.out; omega
                have hkz : k < (ds.zip st).length := by simp; omega
                have hfd := firstS_drop en (ds.zip st) k hkz k
                rw [List.getElem_zip] at hfd
                simp only at hfd
                obtain ⟨bs, os, rfl, _, hblt, hcs0⟩ := hs7.at_ hks
                have box := heap_alloc_new wr (.cells #[.string ds[k].name, .int .i64 ds[k].kind, .int .i64 ds[k].a, .int .i64 ds[k].b, .int .i64 ds[k].comp] 78)
                have hBi := hB.alloc hB.size (.cells #[.string ds[k].name, .int .i64 ds[k].kind, .int .i64 ds[k].a, .int .i64 ds[k].b, .int .i64 ds[k].comp] 78)
                generalize ds[k] = dv at *
                generalize st[k] = sm at *
                obtain ⟨wo, rfl⟩ : ∃ x : World, x = wr := ⟨_, rfl⟩
                obtain ⟨wi, hwi⟩ : ∃ x, x = wo.alloc (.cells #[.string dv.name, .int .i64 dv.kind, .int .i64 dv.a, .int .i64 dv.b, .int .i64 dv.comp] 78) := ⟨_, rfl⟩
                rw [← hwi] at box hBi
                have x0 : wi.cell? ⟨wo.heap.size, 0, none⟩ = some (.string dv.name) := by rw [cell_of_row wi _ 0 _ _ _ box]; rfl
                have x1 : wi.cell? ⟨wo.heap.size, 1, none⟩ = some (.int .i64 dv.kind) := by rw [cell_of_row wi _ 1 _ _ _ box]; rfl
                have x2 : wi.cell? ⟨wo.heap.size, 2, none⟩ = some (.int .i64 dv.a) := by rw [cell_of_row wi _ 2 _ _ _ box]; rfl
                have x3 : wi.cell? ⟨wo.heap.size, 3, none⟩ = some (.int .i64 dv.b) := by rw [cell_of_row wi _ 3 _ _ _ box]; rfl
                have x4 : wi.cell? ⟨wo.heap.size, 4, none⟩ = some (.int .i64 dv.comp) := by rw [cell_of_row wi _ 4 _ _ _ box]; rfl
                have xs : wi.cell? ⟨bs, os + k, none⟩ = some (.int .i64 sm) := (hBi.cell (p := ⟨bs, os + k, none⟩) hblt).trans hcs0
                have Hwi := Lib.hid hwi
                have Hfd := Lib.hid hfd
                have Hsl := Lib.hid (show srcB dv sm = true ∨ srcB dv sm = false by cases srcB dv sm <;> simp)
                clear box hwi hfd hcs0
                go_upto_region 22 with (fail)
                rw [← Hwi.out]
                clear q0 q1 q2 q3 q4 hB
                go_cut [103] (fun v wx => v = .bool (srcB dv sm && (dv.a == (en : Int))) ∧ Below wi.heap.size wi wx)
                case first =>
                  rcases Hsl.out with hsrc | hsrc
                  · skip
                    refine wp_region_extG (by kernel_rfl) 12 [92, 93, 94, 95, 96, 97, 98, 99, 100, 101, 102, 103] [(98, true)] [] (fun w' => Below wi.heap.size wi w') (fun a b => Below a.heap.size a b) (fun d vv w' => if d = 92 then vv = devAgg dv else if d = 93 then vv = .slice (some ⟨bs, os, none⟩) st.length cu else if d = 94 then vv = .int .i64 (k : Nat) else if d = 95 then vv = .pointer (some ⟨bs, os + k, none⟩) else if d = 96 then vv = .int .i64 sm else if d = 97 then vv = .bool true else if d = 98 then vv = .bool true else if d = 103 then vv = .bool (dv.a == (en : Int)) else if d = 99 then vv = .pointer (some ⟨wo.heap.size, 2, none⟩) else if d = 100 then vv = .int .i64 dv.a else if d = 101 then vv = .int .i64 (en : Nat) else if d = 102 then vv = .bool (dv.a == (en : Int)) else False) (by kernel_rfl) (by kernel_rfl) (by simp) ((Below.refl _ _).drew) (fun w => Below.refl _ _) (by simp) (by simp) (fun _ _ _ _ _ _ h => h) ?_ ?_
                    · intro i o d hi hwt ho hd f w1 hC hdep K hK
                      have hi' : i = 0 ∨ i = 1 ∨ i = 2 ∨ i = 3 ∨ i = 4 ∨ i = 5 ∨ i = 6 ∨ i = 7 ∨ i = 8 ∨ i = 9 ∨ i = 10 ∨ i = 11 := by omega
                      rcases hi' with rfl | rfl | rfl | rfl | rfl | rfl | rfl | rfl | rfl | rfl | rfl | rfl
                      · simp only [List.getElem?_toArray, List.getElem?_cons_zero, Option.some.injEq] at ho
                        clear hwt
                        subst ho
                        simp only [Option.some.injEq] at hd
                        subst hd
                        generalize hA : fr _ _ _ f = A at hK ⊢
                        have e18 : A.tmps[18]?.getD undef = .pointer (some ⟨wo.heap.size, 0, none⟩) := by rw [← hA]; exact fr_out _ _ _ _ 18 _ (by decide) rfl
                        clear hA hdep
                        have hcx0 := (hC.cell (World.block_lt_of_cell? _ _ x0)).trans x0
                        have hcx1 := (hC.cell (World.block_lt_of_cell? _ _ x1)).trans x1
                        have hcx2 := (hC.cell (World.block_lt_of_cell? _ _ x2)).trans x2
                        have hcx3 := (hC.cell (World.block_lt_of_cell? _ _ x3)).trans x3
                        have hcx4 := (hC.cell (World.block_lt_of_cell? _ _ x4)).trans x4
                        go_simp
                        exact hK _ _ (Below.refl _ _) hC rfl
                      · simp only [List.getElem?_toArray, List.getElem?_cons_zero, List.getElem?_cons_succ, Option.some.injEq] at ho
                        clear hwt
                        subst ho
                        simp only [Option.some.injEq] at hd
                        subst hd
                        generalize hA : fr _ _ _ f = A at hK ⊢
                        have e1 : A.tmps[1]?.getD undef = .slice (some ⟨bs, os, none⟩) st.length cu := by rw [← hA]; exact fr_out _ _ _ _ 1 _ (by decide) rfl
                        clear hA hdep
                        go_simp
                        exact hK _ _ (Below.refl _ _) hC rfl
                      · simp only [List.getElem?_toArray, List.getElem?_cons_zero, List.getElem?_cons_succ, Option.some.injEq] at ho
                        clear hwt
                        subst ho
                        simp only [Option.some.injEq] at hd
                        subst hd
                        generalize hA : fr _ _ _ f = A at hK ⊢
                        have e17 : A.tmps[17]?.getD undef = .int .i64 (k : Nat) := by rw [← hA]; exact fr_out _ _ _ _ 17 _ (by decide) rfl
                        clear hA hdep
                        go_simp
                        exact hK _ _ (Below.refl _ _) hC rfl
                      · simp only [List.getElem?_toArray, List.getElem?_cons_zero, List.getElem?_cons_succ, Option.some.injEq] at ho
                        clear hwt
                        subst ho
                        simp only [Option.some.injEq] at hd
                        subst hd
                        have h93 : f 93 = .slice (some ⟨bs, os, none⟩) st.length cu := hdep { on := 1, ground := .data } (by simp) rfl 93 rfl
                        have h94 : f 94 = .int .i64 (k : Nat) := hdep { on := 2, ground := .data } (by simp) rfl 94 rfl
                        generalize hA : fr _ _ _ f = A at hK ⊢
                        have e93 : A.tmps[93]?.getD undef = f 93 := by rw [← hA]; exact fr_in _ _ _ _ 93 (by decide) (by simp)
                        have e94 : A.tmps[94]?.getD undef = f 94 := by rw [← hA]; exact fr_in _ _ _ _ 94 (by decide) (by simp)
                        clear hA hdep
                        rw [h93] at e93
                        clear h93
                        rw [h94] at e94
                        clear h94
                        go_simp
                        exact hK _ _ (Below.refl _ _) hC rfl
                      · simp only [List.getElem?_toArray, List.getElem?_cons_zero, List.getElem?_cons_succ, Option.some.injEq] at ho
                        clear hwt
                        subst ho
                        simp only [Option.some.injEq] at hd
                        subst hd
                        have h95 : f 95 = .pointer (some ⟨bs, os + k, none⟩) := hdep { on := 3, ground := .data } (by simp) rfl 95 rfl
                        generalize hA : fr _ _ _ f = A at hK ⊢
                        have e95 : A.tmps[95]?.getD undef = f 95 := by rw [← hA]; exact fr_in _ _ _ _ 95 (by decide) (by simp)
                        clear hA hdep
                        rw [h95] at e95
                        clear h95
                        have hcxs := (hC.cell (World.block_lt_of_cell? _ _ xs)).trans xs
                        go_simp
                        exact hK _ _ (Below.refl _ _) hC rfl
                      · simp only [List.getElem?_toArray, List.getElem?_cons_zero, List.getElem?_cons_succ, Option.some.injEq] at ho
                        clear hwt
                        subst ho
                        simp only [Option.some.injEq] at hd
                        subst hd
                        have h92 : f 92 = devAgg dv := hdep { on := 0, ground := .data } (by simp) rfl 92 rfl
                        have h96 : f 96 = .int .i64 sm := hdep { on := 4, ground := .data } (by simp) rfl 96 rfl
                        generalize hA : fr _ _ _ f = A at hK ⊢
                        have e92 : A.tmps[92]?.getD undef = f 92 := by rw [← hA]; exact fr_in _ _ _ _ 92 (by decide) (by simp)
                        have e96 : A.tmps[96]?.getD undef = f 96 := by rw [← hA]; exact fr_in _ _ _ _ 96 (by decide) (by simp)
                        clear hA hdep
                        rw [h92] at e92
                        clear h92
                        rw [h96] at e96
                        clear h96
                        go_simp
                        refine (source_any w1 dv sm).mono ?_
                        rw [hsrc]
                        rintro e' w2 ⟨rfl, hb2⟩
                        exact hK _ _ hb2 (hC.trans (hb2.mono hC.size)) rfl
                      · simp only [List.getElem?_toArray, List.getElem?_cons_zero, List.getElem?_cons_succ, Option.some.injEq] at ho
                        clear hwt
                        subst ho
                        simp only [Option.some.injEq] at hd
                        subst hd
                        have h97 : f 97 = .bool true := hdep { on := 5, ground := .data } (by simp) rfl 97 rfl
                        generalize hA : fr _ _ _ f = A at hK ⊢
                        have e97 : A.tmps[97]?.getD undef = f 97 := by rw [← hA]; exact fr_in _ _ _ _ 97 (by decide) (by simp)
                        clear hA hdep
                        rw [h97] at e97
                        clear h97
                        go_simp
                        exact hK _ _ (Below.refl _ _) hC rfl
                      · simp only [List.getElem?_toArray, List.getElem?_cons_zero, List.getElem?_cons_succ, Option.some.injEq] at ho
                        clear hwt
                        subst ho
                        simp only [Option.some.injEq] at hd
                        subst hd
                        generalize hA : fr _ _ _ f = A at hK ⊢
                        have e18 : A.tmps[18]?.getD undef = .pointer (some ⟨wo.heap.size, 0, none⟩) := by rw [← hA]; exact fr_out _ _ _ _ 18 _ (by decide) rfl
                        clear hA hdep
                        go_simp
                        exact hK _ _ (Below.refl _ _) hC rfl
                      · simp only [List.getElem?_toArray, List.getElem?_cons_zero, List.getElem?_cons_succ, Option.some.injEq] at ho
                        clear hwt
                        subst ho
                        simp only [Option.some.injEq] at hd
                        subst hd
                        have h99 : f 99 = .pointer (some ⟨wo.heap.size, 2, none⟩) := hdep { on := 7, ground := .data } (by simp) rfl 99 rfl
                        generalize hA : fr _ _ _ f = A at hK ⊢
                        have e99 : A.tmps[99]?.getD undef = f 99 := by rw [← hA]; exact fr_in _ _ _ _ 99 (by decide) (by simp)
                        clear hA hdep
                        rw [h99] at e99
                        clear h99
                        have hcx2 := (hC.cell (World.block_lt_of_cell? _ _ x2)).trans x2
                        go_simp
                        exact hK _ _ (Below.refl _ _) hC rfl
                      · simp only [List.getElem?_toArray, List.getElem?_cons_zero, List.getElem?_cons_succ, Option.some.injEq] at ho
                        clear hwt
                        subst ho
                        simp only [Option.some.injEq] at hd
                        subst hd
                        generalize hA : fr _ _ _ f = A at hK ⊢
                        have e16 : A.tmps[16]?.getD undef = .int .i64 (en : Nat) := by rw [← hA]; exact fr_out _ _ _ _ 16 _ (by decide) rfl
                        clear hA hdep
                        go_simp
                        exact hK _ _ (Below.refl _ _) hC rfl
                      · simp only [List.getElem?_toArray, List.getElem?_cons_zero, List.getElem?_cons_succ, Option.some.injEq] at ho
                        clear hwt
                        subst ho
                        simp only [Option.some.injEq] at hd
                        subst hd
                        have h100 : f 100 = .int .i64 dv.a := hdep { on := 8, ground := .data } (by simp) rfl 100 rfl
                        have h101 : f 101 = .int .i64 (en : Nat) := hdep { on := 9, ground := .data } (by simp) rfl 101 rfl
                        generalize hA : fr _ _ _ f = A at hK ⊢
                        have e100 : A.tmps[100]?.getD undef = f 100 := by rw [← hA]; exact fr_in _ _ _ _ 100 (by decide) (by simp)
                        have e101 : A.tmps[101]?.getD undef = f 101 := by rw [← hA]; exact fr_in _ _ _ _ 101 (by decide) (by simp)
                        clear hA hdep
                        rw [h100] at e100
                        clear h100
                        rw [h101] at e101
                        clear h101
                        go_simp
                        exact hK _ _ (Below.refl _ _) hC rfl
                      · simp only [List.getElem?_toArray, List.getElem?_cons_zero, List.getElem?_cons_succ, Option.some.injEq] at ho
                        clear hwt
                        subst ho
                        simp only [Option.some.injEq] at hd
                        subst hd
                        have h98 : f 98 = .bool true := hdep { on := 6, ground := .data } (by simp) rfl 98 rfl
                        have h102 : f 102 = .bool (dv.a == (en : Int)) := hdep { on := 10, ground := .data } (by simp) rfl 102 rfl
                        generalize hA : fr _ _ _ f = A at hK ⊢
                        have e98 : A.tmps[98]?.getD undef = f 98 := by rw [← hA]; exact fr_in _ _ _ _ 98 (by decide) (by simp)
                        have e102 : A.tmps[102]?.getD undef = f 102 := by rw [← hA]; exact fr_in _ _ _ _ 102 (by decide) (by simp)
                        clear hA hdep
                        rw [h98] at e98
                        clear h98
                        rw [h102] at e102
                        clear h102
                        go_simp
                        exact hK _ _ (Below.refl _ _) hC rfl
                    · intro f w1 hC hall
                      have q0 : f 103 = .bool (dv.a == (en : Int)) := hall 11 103 (by decide) rfl
                      have H0 := Lib.hid q0
                      clear hall q0
                      simp only [fr, upd, List.mapIdx_cons, List.mapIdx_nil]
                      simp
                      go_wp2_with fail
                      go_meet
                      case rel => exact ⟨by rw [H0.out, hsrc]; rfl, hC⟩
                  · skip
                    refine wp_region_extG (by kernel_rfl) 12 [92, 93, 94, 95, 96, 97, 98, 99, 100, 101, 102, 103] [(98, false)] [99, 100, 101, 102] (fun w' => Below wi.heap.size wi w') (fun a b => Below a.heap.size a b) (fun d vv w' => if d = 92 then vv = devAgg dv else if d = 93 then vv = .slice (some ⟨bs, os, none⟩) st.length cu else if d = 94 then vv = .int .i64 (k : Nat) else if d = 95 then vv = .pointer (some ⟨bs, os + k, none⟩) else if d = 96 then vv = .int .i64 sm else if d = 97 then vv = .bool false else if d = 98 then vv = .bool false else if d = 103 then vv = .bool (false) else if d = 99 then vv = undef else if d = 100 then vv = undef else if d = 101 then vv = undef else if d = 102 then vv = undef else False) (by kernel_rfl) (by kernel_rfl) (by simp) ((Below.refl _ _).drew) (fun w => Below.refl _ _) (by simp) (by simp) (fun _ _ _ _ _ _ h => h) ?_ ?_
                    · intro i o d hi hwt ho hd f w1 hC hdep K hK
                      have hi' : i = 0 ∨ i = 1 ∨ i = 2 ∨ i = 3 ∨ i = 4 ∨ i = 5 ∨ i = 6 ∨ i = 7 ∨ i = 8 ∨ i = 9 ∨ i = 10 ∨ i = 11 := by omega
                      rcases hi' with rfl | rfl | rfl | rfl | rfl | rfl | rfl | rfl | rfl | rfl | rfl | rfl
                      · simp only [List.getElem?_toArray, List.getElem?_cons_zero, Option.some.injEq] at ho
                        clear hwt
                        subst ho
                        simp only [Option.some.injEq] at hd
                        subst hd
                        generalize hA : fr _ _ _ f = A at hK ⊢
                        have e18 : A.tmps[18]?.getD undef = .pointer (some ⟨wo.heap.size, 0, none⟩) := by rw [← hA]; exact fr_out _ _ _ _ 18 _ (by decide) rfl
                        clear hA hdep
                        have hcx0 := (hC.cell (World.block_lt_of_cell? _ _ x0)).trans x0
                        have hcx1 := (hC.cell (World.block_lt_of_cell? _ _ x1)).trans x1
                        have hcx2 := (hC.cell (World.block_lt_of_cell? _ _ x2)).trans x2
                        have hcx3 := (hC.cell (World.block_lt_of_cell? _ _ x3)).trans x3
                        have hcx4 := (hC.cell (World.block_lt_of_cell? _ _ x4)).trans x4
                        go_simp
                        exact hK _ _ (Below.refl _ _) hC rfl
                      · simp only [List.getElem?_toArray, List.getElem?_cons_zero, List.getElem?_cons_succ, Option.some.injEq] at ho
                        clear hwt
                        subst ho
                        simp only [Option.some.injEq] at hd
                        subst hd
                        generalize hA : fr _ _ _ f = A at hK ⊢
                        have e1 : A.tmps[1]?.getD undef = .slice (some ⟨bs, os, none⟩) st.length cu := by rw [← hA]; exact fr_out _ _ _ _ 1 _ (by decide) rfl
                        clear hA hdep
                        go_simp
                        exact hK _ _ (Below.refl _ _) hC rfl
                      · simp only [List.getElem?_toArray, List.getElem?_cons_zero, List.getElem?_cons_succ, Option.some.injEq] at ho
                        clear hwt
                        subst ho
                        simp only [Option.some.injEq] at hd
                        subst hd
                        generalize hA : fr _ _ _ f = A at hK ⊢
                        have e17 : A.tmps[17]?.getD undef = .int .i64 (k : Nat) := by rw [← hA]; exact fr_out _ _ _ _ 17 _ (by decide) rfl
                        clear hA hdep
                        go_simp
                        exact hK _ _ (Below.refl _ _) hC rfl
                      · simp only [List.getElem?_toArray, List.getElem?_cons_zero, List.getElem?_cons_succ, Option.some.injEq] at ho
                        clear hwt
                        subst ho
                        simp only [Option.some.injEq] at hd
                        subst hd
                        have h93 : f 93 = .slice (some ⟨bs, os, none⟩) st.length cu := hdep { on := 1, ground := .data } (by simp) rfl 93 rfl
                        have h94 : f 94 = .int .i64 (k : Nat) := hdep { on := 2, ground := .data } (by simp) rfl 94 rfl
                        generalize hA : fr _ _ _ f = A at hK ⊢
                        have e93 : A.tmps[93]?.getD undef = f 93 := by rw [← hA]; exact fr_in _ _ _ _ 93 (by decide) (by simp)
                        have e94 : A.tmps[94]?.getD undef = f 94 := by rw [← hA]; exact fr_in _ _ _ _ 94 (by decide) (by simp)
                        clear hA hdep
                        rw [h93] at e93
                        clear h93
                        rw [h94] at e94
                        clear h94
                        go_simp
                        exact hK _ _ (Below.refl _ _) hC rfl
                      · simp only [List.getElem?_toArray, List.getElem?_cons_zero, List.getElem?_cons_succ, Option.some.injEq] at ho
                        clear hwt
                        subst ho
                        simp only [Option.some.injEq] at hd
                        subst hd
                        have h95 : f 95 = .pointer (some ⟨bs, os + k, none⟩) := hdep { on := 3, ground := .data } (by simp) rfl 95 rfl
                        generalize hA : fr _ _ _ f = A at hK ⊢
                        have e95 : A.tmps[95]?.getD undef = f 95 := by rw [← hA]; exact fr_in _ _ _ _ 95 (by decide) (by simp)
                        clear hA hdep
                        rw [h95] at e95
                        clear h95
                        have hcxs := (hC.cell (World.block_lt_of_cell? _ _ xs)).trans xs
                        go_simp
                        exact hK _ _ (Below.refl _ _) hC rfl
                      · simp only [List.getElem?_toArray, List.getElem?_cons_zero, List.getElem?_cons_succ, Option.some.injEq] at ho
                        clear hwt
                        subst ho
                        simp only [Option.some.injEq] at hd
                        subst hd
                        have h92 : f 92 = devAgg dv := hdep { on := 0, ground := .data } (by simp) rfl 92 rfl
                        have h96 : f 96 = .int .i64 sm := hdep { on := 4, ground := .data } (by simp) rfl 96 rfl
                        generalize hA : fr _ _ _ f = A at hK ⊢
                        have e92 : A.tmps[92]?.getD undef = f 92 := by rw [← hA]; exact fr_in _ _ _ _ 92 (by decide) (by simp)
                        have e96 : A.tmps[96]?.getD undef = f 96 := by rw [← hA]; exact fr_in _ _ _ _ 96 (by decide) (by simp)
                        clear hA hdep
                        rw [h92] at e92
                        clear h92
                        rw [h96] at e96
                        clear h96
                        go_simp
                        refine (source_any w1 dv sm).mono ?_
                        rw [hsrc]
                        rintro e' w2 ⟨rfl, hb2⟩
                        exact hK _ _ hb2 (hC.trans (hb2.mono hC.size)) rfl
                      · simp only [List.getElem?_toArray, List.getElem?_cons_zero, List.getElem?_cons_succ, Option.some.injEq] at ho
                        clear hwt
                        subst ho
                        simp only [Option.some.injEq] at hd
                        subst hd
                        have h97 : f 97 = .bool false := hdep { on := 5, ground := .data } (by simp) rfl 97 rfl
                        generalize hA : fr _ _ _ f = A at hK ⊢
                        have e97 : A.tmps[97]?.getD undef = f 97 := by rw [← hA]; exact fr_in _ _ _ _ 97 (by decide) (by simp)
                        clear hA hdep
                        rw [h97] at e97
                        clear h97
                        go_simp
                        exact hK _ _ (Below.refl _ _) hC rfl
                      · exact absurd hwt (by decide)
                      · exact absurd hwt (by decide)
                      · exact absurd hwt (by decide)
                      · exact absurd hwt (by decide)
                      · simp only [List.getElem?_toArray, List.getElem?_cons_zero, List.getElem?_cons_succ, Option.some.injEq] at ho
                        clear hwt
                        subst ho
                        simp only [Option.some.injEq] at hd
                        subst hd
                        have h98 : f 98 = .bool false := hdep { on := 6, ground := .data } (by simp) rfl 98 rfl
                        have h102 : f 102 = undef := hdep { on := 10, ground := .data } (by simp) rfl 102 rfl
                        generalize hA : fr _ _ _ f = A at hK ⊢
                        have e98 : A.tmps[98]?.getD undef = f 98 := by rw [← hA]; exact fr_in _ _ _ _ 98 (by decide) (by simp)
                        have e102 : A.tmps[102]?.getD undef = f 102 := by rw [← hA]; exact fr_in _ _ _ _ 102 (by decide) (by simp)
                        clear hA hdep
                        rw [h98] at e98
                        clear h98
                        rw [h102] at e102
                        clear h102
                        go_simp
                        exact hK _ _ (Below.refl _ _) hC rfl
                    · intro f w1 hC hall
                      have q0 : f 103 = .bool (false) := hall 11 103 (by decide) rfl
                      have H0 := Lib.hid q0
                      clear hall q0
                      simp only [fr, upd, List.mapIdx_cons, List.mapIdx_nil]
                      simp
                      go_wp2_with fail
                      go_meet
                      case rel => exact ⟨by rw [H0.out, hsrc]; rfl, hC⟩
                case rest =>
                  obtain ⟨W1, rfl⟩ : ∃ x, x = wc := ⟨_, rfl⟩
                  obtain ⟨rfl, hb1⟩ := hcut
                  have hB1 := hBi.trans (hb1.mono hBi.size)
                  clear x0 x1 x2 x3 x4 xs Hwi hBi
                  cases hcc : (srcB dv sm && (dv.a == (en : Int)))
                  · rw [hcc] at Hfd
                    go_wp2_with (fail)
                    go_roundg (gk - 1)
                    case measure => have := Hk.out; omega
                    case rel => exact ⟨k + 1, by have := Hk.out; omega, by go_num, by rw [Hfz.out, Hfd.out]; rfl, hB1⟩
                  · rw [hcc] at Hfd
                    have hz1 := hB1.size
                    have oT := hoT.keep (Kept.of_below hB1)
                    have oP := OI.keep oT (Kept.alloc _ W1 (.cells #[.int .i64 k] 3))
                    have hnl := nats_len tl
                    have HE := Lib.hid (show swayL ns ds st kv = (tl ++ [k], true, 0) by rw [HE.out, Hfz.out, Hfd.out]; rfl)
                    go_wp2_with (at_builtin; go_must (refine wpList_push (B := w6.heap.size) rfl (.tmp 104) (.tmp 106) rfl (xs := nats tl) (y := (k : Int)) rfl rfl hnl.symm oP (new_cell W1 _ _) (by rw [hnl]; omega) (by simp; omega) ?_); intro A5 c5 w5' ho5 hb5 _ _; rw [hnl])
                    go_ret3
                    rw [HE.out]
                    have hb6 := ((Below.refl w6.heap.size W1).alloc (by omega) (.cells #[.int .i64 k] 3)).trans hb5
                    refine ⟨A5, c5, by simp, ?_, (hb7w.trans (hB1.mono hb7w.size)).trans (hb6.mono hbF.size)⟩
                    show OI _ _ _ _ (nats (tl ++ [k]))
                    rw [show nats (tl ++ [k]) = nats tl ++ [(k : Int)] by simp [nats]]
                    exact ho5.mono (fun g _ hg => by have hg : w6.heap.size ≤ g := hg; have := hbF.size; show w.heap.size ≤ g; omega)
              · have HE := Lib.hid (show swayL ns ds st kv = ([], false, 0) by rw [HE.out, Hfz.out, List.drop_of_length_le (by simp; omega)]; rfl)
                go_wp2_with (fail)
                go_ret3
                rw [HE.out]
                exact ⟨none, 0, rfl, OI.nil _ _, hb7w.trans (hB.mono hb7w.size)⟩
end Go.Proofs.YtgpcojmdfmngeaaDoor

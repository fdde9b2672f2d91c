/-
  The function that makes a network, walked: what it makes is a good network.
  Walks of the functions that make states and masks of a network.
  The walk of mk.Changes.
-/
import Derived.Test.YtgpcojmdfmngeaaDoorGa
namespace Go.Proofs.YtgpcojmdfmngeaaDoor
open Go.RowKit
set_option maxHeartbeats 400000
set_option maxRecDepth 100000

/-- What is known of the nodes that are made. -/
def NodesOK (ns : List Node) : Prop := ∀ i x, ns[i]? = some x → x.name = nm [78] i ∧ 0 ≤ x.cust ∧ x.cust ≤ 50 ∧ 0 ≤ x.comp ∧ x.comp ≤ 2
/-- What is known of the devices that are made, for k nodes. -/
def DevsOK (k : Nat) (ds : List Dev) : Prop := ∀ j d, ds[j]? = some d → d.name = nm (letter d.kind.toNat) j ∧ 1 ≤ d.kind ∧ d.kind ≤ 6 ∧ 0 ≤ d.comp ∧ d.comp ≤ 2 ∧ 0 ≤ d.a ∧ d.a < (k : Int) ∧
  (d.kind ≤ 3 → 0 ≤ d.b ∧ d.b < (k : Int) ∧ d.b ≠ d.a) ∧ (3 < d.kind → d.b = -1)
structure GoodNet (K D : Nat) (ns : List Node) (ds : List Dev) : Prop where
  two : 2 ≤ ns.length
  most : ns.length ≤ K
  nodes : NodesOK ns
  one : 1 ≤ ds.length
  few : ds.length ≤ D
  devs : DevsOK ns.length ds

/-- What the function hands back. -/
def RetNet (w : World) (bd K D : Nat) (e : Ending) (w' : World) : Prop :=
  ∃ A1 c1 A2 c2 ns ds, e = .returned (.agg #[.slice A1 ns.length c1, .slice A2 ds.length c2]) ∧ OV w' (fun g => w.heap.size ≤ g) 104 3 A1 ns.length c1 (nodesV ns) ∧ OV w' (fun g => w.heap.size ≤ g) 78 5 A2 ds.length c2 (devsV ds) ∧
    Deck w' bd ∧ w.grownBy w' (some bd) ∧ GoodNet K D ns ds

/-- The state of the making. -/
structure St (w1 W : World) (B gn gm gp bd D k : Nat) (ns : List Node) (ds : List Dev) : Prop where
  nb : NB W B gn gm gp bd D ns ds
  ok : DevsOK k ds
  few : ds.length ≤ D
  fr : Fr B bd w1 W

theorem NB.next {W W' : World} {B gn gm gp bd D : Nat} {ns : List Node} {ds : List Dev} (h : NB W B gn gm gp bd D ns ds) (hd : Deck W' bd) (hg : W.grownBy W' (some bd)) : NB W' B gn gm gp bd D ns ds := by
  obtain ⟨⟨A1, c1, A2, c2, hgn, ho1, ho2⟩, hgm, hgp, _, b1, b2, b3, b4⟩ := h
  have hk : ∀ k o, k ≠ bd → W.heap[k]? = some o → W'.heap[k]? = some o := fun k o hk ho => (hg.block k (Array.getElem?_eq_some_iff.1 ho).1 (by intro e; injection e with e; exact hk e)).trans ho
  have hk1 : ∀ k, k < W.heap.size → k ≠ bd → W'.heap[k]? = W.heap[k]? := fun k h1 h2 => hg.block k h1 (by intro e; injection e with e; exact h2 e)
  exact ⟨⟨A1, c1, A2, c2, hk _ _ (by omega) hgn, ho1.keep1 (fun k hk2 => by have := ho1.block k hk2; exact hk1 k this.2 (by have := this.1; omega)), ho2.keep1 (fun k hk2 => by have := ho2.block k hk2; exact hk1 k this.2 (by have := this.1; omega))⟩, hk _ _ b2 hgm, hk _ _ b3 hgp, hd, b1, b2, b3, b4⟩
theorem NB.gnlt {W : World} {B gn gm gp bd D : Nat} {ns : List Node} {ds : List Dev} (h : NB W B gn gm gp bd D ns ds) : gn < W.heap.size := by
  obtain ⟨⟨A1, c1, A2, c2, hgn, _⟩, _⟩ := h
  exact (Array.getElem?_eq_some_iff.1 hgn).1
theorem St.next {w1 W W' : World} {B gn gm gp bd D k : Nat} {ns : List Node} {ds : List Dev} (h : St w1 W B gn gm gp bd D k ns ds) (hd : Deck W' bd) (hg : W.grownBy W' (some bd)) : St w1 W' B gn gm gp bd D k ns ds :=
  ⟨h.nb.next hd hg, h.ok, h.few, h.fr.trans (Fr.of_grown hg (by have := h.nb.gnlt; have := h.nb.2.2.2.2.1; omega))⟩
theorem St.deck {w1 W : World} {B gn gm gp bd D k : Nat} {ns : List Node} {ds : List Dev} (h : St w1 W B gn gm gp bd D k ns ds) : Deck W bd := h.nb.2.2.2.1
theorem St.cell {w1 W : World} {B gn gm gp bd D k : Nat} {ns : List Node} {ds : List Dev} (h : St w1 W B gn gm gp bd D k ns ds) : W.cell? ⟨gp, 0, none⟩ = some (.pointer (some ⟨bd, 0, none⟩)) := by
  rw [cell_of_row W gp 0 _ _ _ h.nb.2.2.1]; rfl

theorem add_st {w1 W : World} {B gn gm gp bd D k : Nat} {ns : List Node} {ds : List Dev} (hD : 1 ≤ D) (hD2 : D ≤ 60) (h : St w1 W B gn gm gp bd D k ns ds) (kind : Nat) (hk : 1 ≤ kind) (hk6 : kind ≤ 6) (a b : Int) (ha : 0 ≤ a) (hak : a < k)
    (hb : kind ≤ 3 → 0 ≤ b ∧ b < k ∧ b ≠ a) (hb' : 3 < kind → b = -1) (kv : Int) (hkv : kv = kind) :
    Calls Tryd.prog 106 #[.int .i64 kv, .int .i64 a, .int .i64 b, .pointer (some ⟨gn, 0, none⟩), .pointer (some ⟨gm, 0, none⟩), .pointer (some ⟨gp, 0, none⟩)] W
      fun e w' => e = .returned (.tuple #[]) ∧ ∃ ds', St w1 w' B gn gm gp bd D k ns ds' ∧ 1 ≤ ds'.length := by
  subst hkv
  refine (add_any W B gn gm gp bd D ns ds hD2 h.nb kind hk hk6 a b).mono ?_
  rintro e w' ⟨rfl, hfr, hc⟩
  refine ⟨rfl, ?_⟩
  rcases hc with ⟨hfull, hnb⟩ | ⟨hroom, comp, hcomp, hnb⟩
  · exact ⟨ds, ⟨hnb, h.ok, h.few, h.fr.trans hfr⟩, by omega⟩
  · refine ⟨_, ⟨hnb, ?_, by simp; omega, h.fr.trans hfr⟩, by simp⟩
    intro j d hd
    rw [List.getElem?_append] at hd
    split at hd
    · exact h.ok j d hd
    · rename_i hj
      have hjl : j = ds.length := by
        have := (List.getElem?_eq_some_iff.1 hd).1
        simp at this; omega
      subst hjl
      rw [Nat.sub_self] at hd
      simp at hd
      subst hd
      refine ⟨by simp, by show (1 : Int) ≤ kind; omega, by show (kind : Int) ≤ 6; omega, by show (0 : Int) ≤ comp; omega, by show (comp : Int) ≤ 2; omega, ha, hak, fun h3 => hb (by have : (kind : Int) ≤ 3 := h3; omega), fun h3 => hb' (by have : (3 : Int) < kind := h3; omega)⟩

/-- Four new blocks. -/
theorem four (w : World) (o1 o2 o3 o4 : Obj) : let W := ((((w.alloc o1).alloc o2).alloc o3).alloc o4)
    W.heap[w.heap.size]? = some o1 ∧ W.heap[w.heap.size + 1]? = some o2 ∧ W.heap[w.heap.size + 1 + 1]? = some o3 ∧ W.heap[w.heap.size + 1 + 1 + 1]? = some o4 ∧ W.heap.size = w.heap.size + 4 ∧ Below w.heap.size w W := by
  refine ⟨?_, ?_, ?_, ?_, by simp, ?_⟩
  · rw [Below.heap_alloc _ _ _ (by simp <;> omega), Below.heap_alloc _ _ _ (by simp <;> omega), Below.heap_alloc _ _ _ (by simp)]; exact heap_alloc_new w o1
  · rw [Below.heap_alloc _ _ _ (by simp <;> omega), Below.heap_alloc _ _ _ (by simp)]
    have := heap_alloc_new (w.alloc o1) o2; simpa using this
  · rw [Below.heap_alloc _ _ _ (by simp)]
    have := heap_alloc_new ((w.alloc o1).alloc o2) o3; simpa using this
  · have := heap_alloc_new (((w.alloc o1).alloc o2).alloc o3) o4; simpa using this
  · exact ((((Below.refl _ _).alloc (Nat.le_refl _) _).alloc (by simp) _).alloc (by simp <;> omega) _).alloc (by simp <;> omega) _

set_option maxHeartbeats 8000000 in
theorem network_any (w : World) (bd : Nat) (h : Deck w bd) (K D : Nat) (hK : 3 ≤ K) (hK2 : K ≤ 60) (hD : 1 ≤ D) (hD2 : D ≤ 60) :
    Calls Tryd.prog 13 #[.pointer (some ⟨bd, 0, none⟩), .int .i64 K, .int .i64 D] w (RetNet w bd K D) := by
  have hbdl := h.lt
  have hK1 : (1 : Int) < K - 1 := by omega
  go_enter Tryd.func13, Tryd.ntmps13
  go_wp2_with (fail)
  obtain ⟨e1, e2, e3, e4, ez, eb⟩ := four w (.cells #[.pointer (some ⟨bd, 0, none⟩)] 31) (.cells #[.int .i64 D] 3) (.cells #[.slice none 0 0, .slice none 0 0] 26) (.cells #[.slice none 0 0, .slice none 0 0] 26)
  have hd0 := h.below eb
  generalize ((((w.alloc (.cells #[.pointer (some ⟨bd, 0, none⟩)] 31)).alloc (.cells #[.int .i64 D] 3)).alloc (.cells #[.slice none 0 0, .slice none 0 0] 26)).alloc (.cells #[.slice none 0 0, .slice none 0 0] 26)) = w0 at *
  refine (next_any _ _ hd0 _ (by omega)).mono ?_
  rintro e w1 ⟨r, rfl, hr, _, hd1, hg1, hz1⟩
  have hr' : (r : Int) < K - 1 := hr (by omega)
  have hf1 : Fr (w.heap.size + 1 + 1 + 1) bd w0 w1 := Fr.of_grown hg1 (by omega)
  have hk1 : ∀ k o, k ≠ bd → w0.heap[k]? = some o → w1.heap[k]? = some o := fun k o hk ho => (hg1.block k (Array.getElem?_eq_some_iff.1 ho).1 (by intro e; injection e with e; exact hk e)).trans ho
  have hnb : NB w1 (w.heap.size + 1 + 1 + 1) (w.heap.size + 1 + 1 + 1) (w.heap.size + 1) w.heap.size bd D [] [] :=
    ⟨⟨none, 0, none, 0, hk1 _ _ (by omega) e4, OV.nil _ _ _ _, OV.nil _ _ _ _⟩, hk1 _ _ (by omega) e2, hk1 _ _ (by omega) e1, hd1, Nat.le_refl _, by omega, by omega, by omega⟩
  have hgr : w1.heap[w.heap.size + 1 + 1]? = some (.cells #[.slice none 0 0, .slice none 0 0] 26 (0, 0)) := hk1 _ _ (by omega) e3
  have hfr : Fr w.heap.size bd w w1 := (Fr.of_below eb).trans ⟨hf1.os, hf1.tape, hf1.output, hf1.size, fun k h1 h2 => hf1.block k (by omega) h2⟩
  obtain ⟨k, hk⟩ : ∃ k : Nat, k = 2 + r := ⟨_, rfl⟩
  have hkK : k ≤ K := by omega
  have hk2 : 2 ≤ k := by omega
  have Hek := Lib.hid (show (2 : Int) + (r : Int) = (k : Int) by omega)
  have Hk := Lib.hid hk
  clear hk
  have Hnb := Lib.hid hnb
  have Hgr := Lib.hid hgr
  clear hnb hgr hk1 hf1 hz1 hg1 e1 e2 e3 e4 hr hd0
  go_wp2_with (fail)
  rw [Hek.out]
  clear hr' Hek Hk
  go_loopg [9] k (fun g i wr => ∃ (j : Nat) (ns : List Node), j + g = k ∧ i = .int .i64 j ∧ ns.length = j ∧ NodesOK ns ∧ NB wr (w.heap.size + 1 + 1 + 1) (w.heap.size + 1 + 1 + 1) (w.heap.size + 1) w.heap.size bd D ns [] ∧ Fr (w.heap.size + 1 + 1 + 1) bd w1 wr)
  case atStart => exact ⟨0, [], by omega, rfl, rfl, fun i x h => by simp at h, Hnb.out, Fr.refl _ _ _⟩
  case round =>
    obtain ⟨j, ns, hj, rfl, hnl, hok, hnb, hfrr⟩ := hrel
    have Hj := Lib.hid hj
    have Hnl := Lib.hid hnl
    have Hok := Lib.hid hok
    clear hj hnl hok
    by_cases hlt : j < k
    · obtain ⟨⟨A1, c1, A2, c2, hgn, ho1, ho2⟩, hgm, hgp, hdr, b1, b2, b3, b4⟩ := hnb
      have Hgn := Lib.hid hgn
      have Hgm := Lib.hid hgm
      have Hgp := Lib.hid hgp
      have hgnl : w.heap.size + 1 + 1 + 1 < wr.heap.size := (Array.getElem?_eq_some_iff.1 hgn).1
      clear hgn hgm hgp
      have cp : wr.cell? ⟨w.heap.size, 0, none⟩ = some (.pointer (some ⟨bd, 0, none⟩)) := by rw [cell_of_row wr w.heap.size 0 _ _ _ Hgp.out]; rfl
      go_wp2_with (fail)
      refine (name_any _ [78] j (by omega) (by decide)).mono ?_
      rintro e w2 ⟨rfl, hb2⟩
      go_upto_region 7 with fail
      have hbg : (w2.alloc (.cells #[.string (nm [78] j), .int .i64 0, .int .i64 0] 104)).heap[w2.heap.size]? = some (.cells #[.string (nm [78] j), .int .i64 0, .int .i64 0] 104 (0, 0)) := heap_alloc_new w2 _
      have hfx : Fr wr.heap.size bd wr (w2.alloc (.cells #[.string (nm [78] j), .int .i64 0, .int .i64 0] 104)) := Fr.of_below (hb2.alloc hb2.size _)
      have hdx := hdr.below (hb2.alloc hb2.size (.cells #[.string (nm [78] j), .int .i64 0, .int .i64 0] 104))
      obtain ⟨g, hg⟩ : ∃ g, g = w2.heap.size := ⟨_, rfl⟩
      have hgl : wr.heap.size ≤ g := by have := hb2.size; omega
      rw [← hg] at hbg
      rw [← hg]
      generalize w2.alloc (.cells #[.string (nm [78] j), .int .i64 0, .int .i64 0] 104) = wx at *
      clear hg hb2 w2 cp
      -- customers
      have cpx : wx.cell? ⟨w.heap.size, 0, none⟩ = some (.pointer (some ⟨bd, 0, none⟩)) := by rw [cell_of_row wx w.heap.size 0 _ _ _ ((hfx.block _ (by omega) (by omega)).trans Hgp.out)]; rfl
      have Hbg := Lib.hid hbg
      clear hbg
      go_upto_if 33 with (go_at_call 14; refine (one_any _ _ hdx _ (by decide)).mono ?_; rintro e w2 ⟨bb, rfl, hd2, hg2, hz2⟩)
      have hfr2 : Fr wr.heap.size bd wr w2 := hfx.trans (Fr.of_grown hg2 hfx.size)
      have hb2 : w2.heap[g]? = some (.cells #[.string (nm [78] j), .int .i64 0, .int .i64 0] 104 (0, 0)) := (hg2.block g (Array.getElem?_eq_some_iff.1 Hbg.out).1 (by intro e; injection e with e; omega)).trans Hbg.out
      have Hb2 := Lib.hid hb2
      clear hb2 Hbg cpx hdx hfx hg2 hz2 wx
      go_cut [] (fun wx => ∃ cust : Nat, cust ≤ 50 ∧ wx.heap[g]? = some (.cells #[.string (nm [78] j), .int .i64 cust, .int .i64 0] 104 (0, 0)) ∧ Deck wx bd ∧ Fr wr.heap.size bd wr wx)
      case first =>
        cases bb
        · go_wp2_with fail
          go_meet
          case rel => exact ⟨0, by omega, Hb2.out, hd2, hfr2⟩
        · have cp2 : w2.cell? ⟨w.heap.size, 0, none⟩ = some (.pointer (some ⟨bd, 0, none⟩)) := by rw [cell_of_row w2 w.heap.size 0 _ _ _ ((hfr2.block _ (by omega) (by omega)).trans Hgp.out)]; rfl
          go_wp2_with fail
          refine (next_any _ _ hd2 _ (by decide)).mono ?_
          rintro e w3 ⟨r3, rfl, hr1, _, hd3, hg3, hz3⟩
          have hr2 : r3 < 50 := by have := hr1 (by decide); omega
          clear hr1
          have hb3 : w3.heap[g]? = some (.cells #[.string (nm [78] j), .int .i64 0, .int .i64 0] 104 (0, 0)) := (hg3.block g (Array.getElem?_eq_some_iff.1 Hb2.out).1 (by intro e; injection e with e; omega)).trans Hb2.out
          have q4 : w3.cell? ⟨g, 1, none⟩ = some (.int .i64 0) := by rw [cell_of_row w3 g 1 _ _ _ hb3]; rfl
          have f4 : w3.frozen? ⟨g, 1, none⟩ = false := by simp [World.frozen?, hb3]
          have Hb3 := Lib.hid hb3
          clear hb3 cp2
          go_wp2_with fail
          go_meet
          case rel =>
            refine ⟨1 + r3, by omega, ?_, hd3.keep (fun b hb => Below.heap_setCell _ _ _ _ (by show b ≠ g; omega)) (by simp [World.setCell]), (hfr2.trans (Fr.of_grown hg3 (by have := hfr2.size; omega))).trans ⟨rfl, rfl, rfl, by simp [World.setCell], fun k hk _ => Below.heap_setCell _ _ _ _ (by show k ≠ g; omega)⟩⟩
            simp [World.setCell, Array.getElem?_modify, Hb3.out]
      case rest =>
        obtain ⟨cust, hcust, hbg, hdx, hfx⟩ := hcut
        obtain ⟨wx, rfl⟩ : ∃ wx : World, wx = wc := ⟨_, rfl⟩
        clear Hb2 hd2 hfr2
        have Hbg := Lib.hid hbg
        clear hbg
        have cpx : wx.cell? ⟨w.heap.size, 0, none⟩ = some (.pointer (some ⟨bd, 0, none⟩)) := by rw [cell_of_row wx w.heap.size 0 _ _ _ ((hfx.block _ (by omega) (by omega)).trans Hgp.out)]; rfl
        go_upto_if 39 with (go_at_call 14; refine (one_any _ _ hdx _ (by decide)).mono ?_; rintro e w2 ⟨b8, rfl, hd2, hg2, hz2⟩)
        have hfr2 : Fr wr.heap.size bd wr w2 := hfx.trans (Fr.of_grown hg2 hfx.size)
        have hb2 : w2.heap[g]? = some (.cells #[.string (nm [78] j), .int .i64 cust, .int .i64 0] 104 (0, 0)) := (hg2.block g (Array.getElem?_eq_some_iff.1 Hbg.out).1 (by intro e; injection e with e; omega)).trans Hbg.out
        have Hb2 := Lib.hid hb2
        clear hb2 Hbg cpx hdx hfx hg2 hz2 wx
        go_cut [] (fun wx => ∃ comp : Nat, comp ≤ 2 ∧ wx.heap[g]? = some (.cells #[.string (nm [78] j), .int .i64 cust, .int .i64 comp] 104 (0, 0)) ∧ Deck wx bd ∧ Fr wr.heap.size bd wr wx)
        case first =>
          cases b8
          · go_wp2_with fail
            go_meet
            case rel => exact ⟨0, by omega, Hb2.out, hd2, hfr2⟩
          · have cp2 : w2.cell? ⟨w.heap.size, 0, none⟩ = some (.pointer (some ⟨bd, 0, none⟩)) := by rw [cell_of_row w2 w.heap.size 0 _ _ _ ((hfr2.block _ (by omega) (by omega)).trans Hgp.out)]; rfl
            go_wp2_with fail
            refine (next_any _ _ hd2 _ (by decide)).mono ?_
            rintro e w3 ⟨r3, rfl, hr1, _, hd3, hg3, hz3⟩
            have hr2 : r3 < 2 := by have := hr1 (by decide); omega
            clear hr1
            have hb3 : w3.heap[g]? = some (.cells #[.string (nm [78] j), .int .i64 cust, .int .i64 0] 104 (0, 0)) := (hg3.block g (Array.getElem?_eq_some_iff.1 Hb2.out).1 (by intro e; injection e with e; omega)).trans Hb2.out
            have q4 : w3.cell? ⟨g, 2, none⟩ = some (.int .i64 0) := by rw [cell_of_row w3 g 2 _ _ _ hb3]; rfl
            have f4 : w3.frozen? ⟨g, 2, none⟩ = false := by simp [World.frozen?, hb3]
            have Hb3 := Lib.hid hb3
            clear hb3 cp2
            go_wp2_with fail
            go_meet
            case rel =>
              refine ⟨1 + r3, by omega, ?_, hd3.keep (fun b hb => Below.heap_setCell _ _ _ _ (by show b ≠ g; omega)) (by simp [World.setCell]), (hfr2.trans (Fr.of_grown hg3 (by have := hfr2.size; omega))).trans ⟨rfl, rfl, rfl, by simp [World.setCell], fun k hk _ => Below.heap_setCell _ _ _ _ (by show k ≠ g; omega)⟩⟩
              simp [World.setCell, Array.getElem?_modify, Hb3.out]
        case rest =>
          obtain ⟨comp, hcomp, hbg, hdx, hfx⟩ := hcut
          have hszc : wr.heap.size ≤ wc.heap.size := hfx.size
          have hgnx : wc.heap[w.heap.size + 1 + 1 + 1]? = some (.cells #[.slice A1 ns.length c1, .slice A2 ([] : List Dev).length c2] 26 (0, 0)) := (hfx.block _ (by omega) (by omega)).trans Hgn.out
          have n1 : wc.cell? ⟨w.heap.size + 1 + 1 + 1, 0, none⟩ = some (.slice A1 ns.length c1) := by rw [cell_of_row wc _ 0 _ _ _ hgnx]; rfl
          have q0 : wc.cell? ⟨g, 0, none⟩ = some (.string (nm [78] j)) := by rw [cell_of_row wc g 0 _ _ _ hbg]; rfl
          have q1 : wc.cell? ⟨g, 1, none⟩ = some (.int .i64 cust) := by rw [cell_of_row wc g 1 _ _ _ hbg]; rfl
          have q2 : wc.cell? ⟨g, 2, none⟩ = some (.int .i64 comp) := by rw [cell_of_row wc g 2 _ _ _ hbg]; rfl
          have ho1x : OV wc (fun g => w.heap.size + 1 + 1 + 1 ≤ g) 104 3 A1 ns.length c1 (nodesV ns) := ho1.keep1 (fun k hk => by
            have := (ho1.block k hk); exact hfx.block k this.2 (by have := this.1; omega))
          have hns : ns.length ≤ 65536 := by have := Hnl.out; omega
          clear hgnx hbg
          go_wp2_with (at_builtin; go_must (refine wpList_pushG (S := fun g => w.heap.size + 1 + 1 + 1 ≤ g) (ys := nodeCells ⟨nm [78] j, cust, comp⟩) rfl (.tmp 45) (.tmp 47) 23 104 _ 3 32 rfl Tryd.underlying23 nodeInfo rfl (by decide) rfl rfl (ho1x.keep (Kept.alloc _ _ _)) rfl (by intro u hu; simp [nodeCells] at hu; rcases hu with rfl | rfl | rfl <;> rfl) ?_ (by simp) hns (by decide) ?_))
          · exact Lie.new wc (nodeCells ⟨nm [78] j, cust, comp⟩) _
          · intro A' c' w5 ho5 hg5 hor5
            have hsz5 : wc.heap.size + 1 ≤ w5.heap.size := by have := hg5.size; simpa using this
            have hkeep : ∀ k, k < wr.heap.size → k ≠ bd → some k ≠ blockOf A1 → w5.heap[k]? = wr.heap[k]? := fun k h1 h2 h3 =>
              (hg5.block k (by simp; omega) h3).trans ((Below.heap_alloc _ _ k (by omega)).trans (hfx.block k h1 h2))
            have hne : ∀ k cs u, wr.heap[k]? = some (.cells cs u (0, 0)) → u ≠ 104 → some k ≠ blockOf A1 := fun k cs u hk hu e => by
              obtain ⟨_, cur, hcur⟩ := ho1.type k e.symm
              exact ne_of_type hk hcur hu rfl
            have hgn5 : w5.heap[w.heap.size + 1 + 1 + 1]? = some (.cells #[.slice A1 ns.length c1, .slice A2 ([] : List Dev).length c2] 26 (0, 0)) := (hkeep _ hgnl (by omega) (hne _ _ _ Hgn.out (by decide))).trans Hgn.out
            have n5 : w5.cell? ⟨w.heap.size + 1 + 1 + 1, 0, none⟩ = some (.slice A1 ns.length c1) := by rw [cell_of_row w5 _ 0 _ _ _ hgn5]; rfl
            have f5 : w5.frozen? ⟨w.heap.size + 1 + 1 + 1, 0, none⟩ = false := by simp [World.frozen?, hgn5]
            have Hgn5 := Lib.hid hgn5
            have Hho5 := Lib.hid ho5
            have Hkeep := Lib.hid hkeep
            have Hne := Lib.hid hne
            clear hgn5 ho5 hkeep hne n1 q0 q1 q2
            go_wp2_with fail
            go_roundg (gk - 1)
            case measure => have := Hj.out; omega
            case rel =>
              have hjj := Hj.out
              have hA1B : ∀ k, blockOf A1 = some k → w.heap.size + 1 + 1 + 1 ≤ k := fun k hk => (ho1.type k hk).1
              have hset : ∀ k, k ≠ w.heap.size + 1 + 1 + 1 → (w5.setCell ⟨w.heap.size + 1 + 1 + 1, 0, none⟩ (.slice A' (ns.length + 1) c')).heap[k]? = w5.heap[k]? := fun k hk => Below.heap_setCell _ _ _ _ hk
              have hgnk : ∀ k cs u, wr.heap[k]? = some (.cells cs u (0, 0)) → u ≠ 26 → k ≠ w.heap.size + 1 + 1 + 1 := fun k cs u hk hu => ne_of_type hk Hgn.out hu
              have hlen : (ns ++ [(⟨nm [78] j, cust, comp⟩ : Node)]).length = ns.length + 1 := by simp
              refine ⟨j + 1, ns ++ [⟨nm [78] j, cust, comp⟩], by omega, by go_num, by rw [hlen, Hnl.out], ?_, ⟨⟨A', c', A2, c2, ?_, ?_, ?_⟩, ?_, ?_, ?_, b1, b2, b3, b4⟩, hfrr.trans ⟨?_, ?_, ?_, ?_, ?_⟩⟩
              · intro i x hx
                rw [List.getElem?_append] at hx
                split at hx
                · exact Hok.out i x hx
                · rename_i hi
                  have hi2 : i = j := by
                    have := (List.getElem?_eq_some_iff.1 hx).1
                    simp at this; have := Hnl.out; omega
                  subst hi2
                  rw [Hnl.out, Nat.sub_self] at hx
                  simp at hx
                  subst hx
                  exact ⟨rfl, by show (0 : Int) ≤ cust; omega, by show (cust : Int) ≤ 50; omega, by show (0 : Int) ≤ comp; omega, by show (comp : Int) ≤ 2; omega⟩
              · rw [hlen]; simp [World.setCell, Array.getElem?_modify, Hgn5.out]
              · rw [hlen, nodesV_snoc]
                have h1 := Hho5.out.mono (T := fun g => w.heap.size + 1 + 1 + 1 ≤ g) (fun g _ hg => by
                  rcases hg with hg | hg
                  · exact hg
                  · have h2 : g = wc.heap.size + 1 := by simpa using hg
                    show w.heap.size + 1 + 1 + 1 ≤ g; omega)
                refine h1.keep1 (fun k hk => hset k ?_)
                rcases hor5 with e | e
                · rw [e] at hk
                  obtain ⟨_, cur, hcur⟩ := ho1.type k hk
                  exact hgnk k _ _ hcur (by decide)
                · rw [e] at hk
                  injection hk with hk
                  rw [← hk]; simp; omega
              · refine ho2.keep1 (fun k hk => ?_)
                obtain ⟨hBk, cur, hcur⟩ := ho2.type k hk
                rw [hset k (hgnk k _ _ hcur (by decide))]
                exact Hkeep.out k (Array.getElem?_eq_some_iff.1 hcur).1 (by omega) (Hne.out k _ _ hcur (by decide))
              · rw [hset _ (by omega)]
                exact (Hkeep.out _ (by omega) (by omega) (Hne.out _ _ _ Hgm.out (by decide))).trans Hgm.out
              · rw [hset _ (by omega)]
                exact (Hkeep.out _ (by omega) (by omega) (Hne.out _ _ _ Hgp.out (by decide))).trans Hgp.out
              · refine hdx.keep (fun k hk => ?_) (by simp [World.setCell]; omega)
                rw [hset k (by omega)]
                exact (hg5.block k (by simp; omega) (fun e => by have := hA1B k e.symm; omega)).trans (Below.heap_alloc _ _ k (by omega))
              · exact hg5.os.trans hfx.os
              · exact hg5.tape.trans hfx.tape
              · exact hg5.output.trans hfx.output
              · simp [World.setCell]; omega
              · intro k hk hkb
                rw [hset k (by omega)]
                exact Hkeep.out k (by omega) hkb (fun e => by have := hA1B k e.symm; omega)
    · have hjk : j = k := by have := Hj.out; omega
      subst hjk
      obtain ⟨wa, rfl⟩ : ∃ wa : World, wa = wr := ⟨_, rfl⟩
      have hnsj : 2 ≤ ns.length := by have := Hnl.out; omega
      have st0 : St w1 wa (w.heap.size + 1 + 1 + 1) (w.heap.size + 1 + 1 + 1) (w.heap.size + 1) w.heap.size bd D j ns [] := ⟨hnb, fun i d h => by simp at h, Nat.zero_le _, hfrr⟩
      clear hnb hfrr hlt
      go_wp2_with fail
      refine (add_st hD hD2 st0 5 (by decide) (by decide) 0 (-1) (by decide) (by omega) (by omega) (by omega) 5 rfl).mono ?_
      rintro e w2 ⟨rfl, ds, st, hd1l⟩
      clear st0
      go_wp2_with fail
      go_loopg [12] (j - 1) (fun g i wr => ∃ (x : Nat) (ds : List Dev), x + g = j ∧ 1 ≤ x ∧ i = .int .i64 x ∧ St w1 wr (w.heap.size + 1 + 1 + 1) (w.heap.size + 1 + 1 + 1) (w.heap.size + 1) w.heap.size bd D j ns ds ∧ 1 ≤ ds.length)
      case atStart => exact ⟨1, ds, by omega, by omega, rfl, st, hd1l⟩
      case round =>
        clear st hd1l ds
        obtain ⟨x, ds, hx, hx1, rfl, st, hd1l⟩ := hrel
        have Hx := Lib.hid hx
        clear hx
        by_cases hlt : x < j
        · obtain ⟨wb, rfl⟩ : ∃ wb : World, wb = wr := ⟨_, rfl⟩
          have cp := st.cell
          go_upto_if 61 with (go_at_call 14; refine (one_any _ _ st.deck _ (by decide)).mono ?_; rintro e w3 ⟨bb, rfl, hd3, hg3, hz3⟩)
          have st3 := st.next hd3 hg3
          clear st cp hg3 hd3 hz3
          go_cut [13] (fun s13 wx => ∃ a : Nat, a < x ∧ s13 = .int .i64 a ∧ St w1 wx (w.heap.size + 1 + 1 + 1) (w.heap.size + 1 + 1 + 1) (w.heap.size + 1) w.heap.size bd D j ns ds)
          case first =>
            cases bb
            · go_wp2_with fail
              go_meet
              case rel => exact ⟨x - 1, by omega, by congr 1; omega, st3⟩
            · have cp := st3.cell
              go_wp2_with fail
              refine (next_any _ _ st3.deck _ (by omega)).mono ?_
              rintro e w4 ⟨r4, rfl, hr1, _, hd4, hg4, hz4⟩
              have hr2 : r4 < x := by have := hr1 (by omega); omega
              have st4 := st3.next hd4 hg4
              clear hr1 cp hd4 hg4 hz4
              go_wp2_with fail
              go_meet
              case rel => exact ⟨r4, hr2, rfl, st4⟩
          case rest =>
            obtain ⟨a, hax, rfl, st4⟩ := hcut
            clear st3
            have cp := st4.cell
            go_wp2_with fail
            refine (next_any _ _ st4.deck _ (by decide)).mono ?_
            rintro e w5 ⟨r5, rfl, hr1, _, hd5, hg5, hz5⟩
            have hr2 : r5 < 3 := by have := hr1 (by decide); omega
            have st5 := st4.next hd5 hg5
            clear hr1 cp hd5 hg5 hz5 st4
            go_wp2_with fail
            refine (add_st hD hD2 st5 (1 + r5) (by omega) (by omega) a x (by omega) (by omega) (by omega) (by omega) _ (by omega)).mono ?_
            rintro e w6 ⟨rfl, ds6, st6, hd6⟩
            go_wp2_with fail
            go_roundg (gk - 1)
            case measure => have := Hx.out; omega
            case rel => have := Hx.out; exact ⟨x + 1, ds6, by omega, by omega, by go_num, st6, hd6⟩
        · have cp := st.cell
          go_wp2_with fail
          refine (next_any _ _ st.deck _ (by decide)).mono ?_
          rintro e w3 ⟨r3, rfl, hr1, _, hd3, hg3, hz3⟩
          have hr2 : r3 < 4 := by have := hr1 (by decide); omega
          have st3 := st.next hd3 hg3
          clear hr1 cp hd3 hg3 hz3 st
          go_wp2_with fail
          go_loopg [14] r3 (fun g i wr => ∃ (ds : List Dev), i = .int .i64 g ∧ g < 4 ∧ St w1 wr (w.heap.size + 1 + 1 + 1) (w.heap.size + 1 + 1 + 1) (w.heap.size + 1) w.heap.size bd D j ns ds ∧ 1 ≤ ds.length)
          case atStart => exact ⟨ds, rfl, hr2, st3, hd1l⟩
          case round =>
            clear st3 hd1l ds
            obtain ⟨ds, rfl, hg4, st, hd1l⟩ := hrel
            by_cases hpos : 0 < gk
            · have cp := st.cell
              go_wp2_with fail
              refine (next_any _ _ st.deck _ (by decide)).mono ?_
              rintro e w4 ⟨r4, rfl, hr1, _, hd4, hgr4, hz4⟩
              have hr2 : r4 = 0 ∨ r4 = 1 ∨ r4 = 2 ∨ r4 = 3 := by have := hr1 (by decide); omega
              have st4 := st.next hd4 hgr4
              clear hr1 cp hd4 hgr4 hz4 st
              have cp := st4.cell
              rcases hr2 with rfl | rfl | rfl | rfl
              · go_wp2_with fail
                refine (next_any _ _ st4.deck _ (by omega)).mono ?_
                rintro e w5 ⟨a, rfl, hr1, _, hd5, hg5, hz5⟩
                have haj : a < j := by have := hr1 (by omega); omega
                have st5 := st4.next hd5 hg5
                clear hr1 cp hd5 hg5 hz5 st4
                have cp := st5.cell
                go_wp2_with fail
                refine (next_any _ _ st5.deck _ (by omega)).mono ?_
                rintro e w6 ⟨c, rfl, hr1, _, hd6, hg6, hz6⟩
                have hcj : c + 1 < j := by have := hr1 (by omega); omega
                have st6 := st5.next hd6 hg6
                clear hr1 cp hd6 hg6 hz6 st5
                have cp := st6.cell
                go_wp2_with fail
                refine (next_any _ _ st6.deck _ (by decide)).mono ?_
                rintro e w7 ⟨q, rfl, hr1, _, hd7, hg7, hz7⟩
                have hq : q < 3 := by have := hr1 (by decide); omega
                have st7 := st6.next hd7 hg7
                clear hr1 cp hd7 hg7 hz7 st6
                have hb1 : (0 : Int) ≤ ((a : Int) + 1 + c) % j := Int.emod_nonneg _ (by omega)
                have hb2 : ((a : Int) + 1 + c) % j < j := Int.emod_lt_of_pos _ (by omega)
                have hb3 : ((a : Int) + 1 + c) % j ≠ a := by
                  intro he
                  by_cases hs : a + 1 + c < j
                  · rw [Int.emod_eq_of_lt (by omega) (by omega)] at he; omega
                  · have : ((a : Int) + 1 + c) % j = (a : Int) + 1 + c - j := by
                      rw [← Int.sub_emod_right, Int.emod_eq_of_lt (by omega) (by omega)]
                    omega
                have HB := Lib.hid (And.intro hb1 (And.intro hb2 hb3))
                clear hb1 hb2 hb3
                go_wp2_with fail
                refine (add_st hD hD2 st7 (1 + q) (by omega) (by omega) a (((a : Int) + 1 + c) % j) (by omega) (by omega) (fun _ => HB.out) (by omega) _ (by omega)).mono ?_
                rintro e w8 ⟨rfl, ds8, st8, hd8⟩
                go_wp2_with fail
                go_roundg (gk - 1)
                case measure => omega
                case rel => exact ⟨ds8, by congr 1; omega, by omega, st8, hd8⟩
              · go_wp2_with fail
                refine (next_any _ _ st4.deck _ (by omega)).mono ?_
                rintro e w5 ⟨a, rfl, hr1, _, hd5, hg5, hz5⟩
                have haj : a < j := by have := hr1 (by omega); omega
                have st5 := st4.next hd5 hg5
                clear hr1 cp hd5 hg5 hz5 st4
                go_wp2_with fail
                refine (add_st hD hD2 st5 5 (by decide) (by decide) a (-1) (by omega) (by omega) (by omega) (by omega) 5 rfl).mono ?_
                rintro e w8 ⟨rfl, ds8, st8, hd8⟩
                go_wp2_with fail
                go_roundg (gk - 1)
                case measure => omega
                case rel => exact ⟨ds8, by congr 1; omega, by omega, st8, hd8⟩
              · go_wp2_with fail
                refine (next_any _ _ st4.deck _ (by omega)).mono ?_
                rintro e w5 ⟨a, rfl, hr1, _, hd5, hg5, hz5⟩
                have haj : a < j := by have := hr1 (by omega); omega
                have st5 := st4.next hd5 hg5
                clear hr1 cp hd5 hg5 hz5 st4
                go_wp2_with fail
                refine (add_st hD hD2 st5 6 (by decide) (by decide) a (-1) (by omega) (by omega) (by omega) (by omega) 6 rfl).mono ?_
                rintro e w8 ⟨rfl, ds8, st8, hd8⟩
                go_wp2_with fail
                go_roundg (gk - 1)
                case measure => omega
                case rel => exact ⟨ds8, by congr 1; omega, by omega, st8, hd8⟩
              · go_wp2_with fail
                go_roundg (gk - 1)
                case measure => omega
                case rel => exact ⟨ds, by congr 1; omega, by omega, st4, hd1l⟩
            · have cp := st.cell
              go_wp2_with fail
              refine (next_any _ _ st.deck _ (by decide)).mono ?_
              rintro e w4 ⟨r4, rfl, hr1, _, hd4, hgr4, hz4⟩
              have hr4 : r4 < 3 := by have := hr1 (by decide); omega
              have st4 := st.next hd4 hgr4
              clear hr1 cp hd4 hgr4 hz4 st
              go_wp2_with fail
              go_loopg [17] (1 + r4) (fun g i wr => ∃ (ds : List Dev), i = .int .i64 g ∧ g < 4 ∧ St w1 wr (w.heap.size + 1 + 1 + 1) (w.heap.size + 1 + 1 + 1) (w.heap.size + 1) w.heap.size bd D j ns ds ∧ 1 ≤ ds.length)
              case atStart => exact ⟨ds, by congr 1, by omega, st4, hd1l⟩
              case round =>
                clear st4 hd1l ds hpos hg4
                obtain ⟨ds, rfl, hg4, st, hd1l⟩ := hrel
                by_cases hpos : 0 < gk
                · have cp := st.cell
                  go_wp2_with fail
                  refine (next_any _ _ st.deck _ (by omega)).mono ?_
                  rintro e w5 ⟨a, rfl, hr1, _, hd5, hg5, hz5⟩
                  have haj : a < j := by have := hr1 (by omega); omega
                  have st5 := st.next hd5 hg5
                  clear hr1 cp hd5 hg5 hz5 st
                  go_wp2_with fail
                  refine (add_st hD hD2 st5 4 (by decide) (by decide) a (-1) (by omega) (by omega) (by omega) (by omega) 4 rfl).mono ?_
                  rintro e w8 ⟨rfl, ds8, st8, hd8⟩
                  go_wp2_with fail
                  go_roundg (gk - 1)
                  case measure => omega
                  case rel => exact ⟨ds8, by congr 1; omega, by omega, st8, hd8⟩
                · obtain ⟨⟨⟨A1, c1, A2, c2, hgn, ho1, ho2⟩, hgm, hgp, hdk, b1, b2, b3, b4⟩, hdok, hfew, hfrz⟩ := st
                  have hgrx : wr.heap[w.heap.size + 1 + 1]? = some (.cells #[.slice none 0 0, .slice none 0 0] 26 (0, 0)) := (hfrz.block _ (by omega) (by omega)).trans Hgr.out
                  have n0 : wr.cell? ⟨w.heap.size + 1 + 1 + 1, 0, none⟩ = some (.slice A1 ns.length c1) := by rw [cell_of_row wr _ 0 _ _ _ hgn]; rfl
                  have n1 : wr.cell? ⟨w.heap.size + 1 + 1 + 1, 1, none⟩ = some (.slice A2 ds.length c2) := by rw [cell_of_row wr _ 1 _ _ _ hgn]; rfl
                  have g0 : wr.cell? ⟨w.heap.size + 1 + 1, 0, none⟩ = some (.slice none 0 0) := by rw [cell_of_row wr _ 0 _ _ _ hgrx]; rfl
                  have g1 : wr.cell? ⟨w.heap.size + 1 + 1, 1, none⟩ = some (.slice none 0 0) := by rw [cell_of_row wr _ 1 _ _ _ hgrx]; rfl
                  have gf : ∀ o, wr.frozen? ⟨w.heap.size + 1 + 1, o, none⟩ = false := fun o => by simp [World.frozen?, hgrx]
                  have Hgn := Lib.hid hgn
                  have Hgrx := Lib.hid hgrx
                  clear hgn hgrx hgm hgp
                  go_wp2_with fail
                  have hW : ((wr.setCell ⟨w.heap.size + 1 + 1, 0, none⟩ (.slice A1 ns.length c1)).setCell ⟨w.heap.size + 1 + 1, 1, none⟩ (.slice A2 ds.length c2)).heap[w.heap.size + 1 + 1]? = some (.cells #[.slice A1 ns.length c1, .slice A2 ds.length c2] 26 (0, 0)) := by
                    simp [World.setCell, Array.getElem?_modify, Hgrx.out]
                  have hset : ∀ k, k ≠ w.heap.size + 1 + 1 → ((wr.setCell ⟨w.heap.size + 1 + 1, 0, none⟩ (.slice A1 ns.length c1)).setCell ⟨w.heap.size + 1 + 1, 1, none⟩ (.slice A2 ds.length c2)).heap[k]? = wr.heap[k]? := fun k hk => by
                    rw [Below.heap_setCell _ _ _ _ hk, Below.heap_setCell _ _ _ _ hk]
                  have hsz : ((wr.setCell ⟨w.heap.size + 1 + 1, 0, none⟩ (.slice A1 ns.length c1)).setCell ⟨w.heap.size + 1 + 1, 1, none⟩ (.slice A2 ds.length c2)).heap.size = wr.heap.size := by simp [World.setCell]
                  have hoo : ((wr.setCell ⟨w.heap.size + 1 + 1, 0, none⟩ (.slice A1 ns.length c1)).setCell ⟨w.heap.size + 1 + 1, 1, none⟩ (.slice A2 ds.length c2)).os = wr.os ∧ ((wr.setCell ⟨w.heap.size + 1 + 1, 0, none⟩ (.slice A1 ns.length c1)).setCell ⟨w.heap.size + 1 + 1, 1, none⟩ (.slice A2 ds.length c2)).tape = wr.tape ∧ ((wr.setCell ⟨w.heap.size + 1 + 1, 0, none⟩ (.slice A1 ns.length c1)).setCell ⟨w.heap.size + 1 + 1, 1, none⟩ (.slice A2 ds.length c2)).output = wr.output := ⟨rfl, rfl, rfl⟩
                  generalize ((wr.setCell ⟨w.heap.size + 1 + 1, 0, none⟩ (.slice A1 ns.length c1)).setCell ⟨w.heap.size + 1 + 1, 1, none⟩ (.slice A2 ds.length c2)) = W at *
                  have r0 : W.cell? ⟨w.heap.size + 1 + 1, 0, none⟩ = some (.slice A1 ns.length c1) := by rw [cell_of_row W _ 0 _ _ _ hW]; rfl
                  have r1 : W.cell? ⟨w.heap.size + 1 + 1, 1, none⟩ = some (.slice A2 ds.length c2) := by rw [cell_of_row W _ 1 _ _ _ hW]; rfl
                  refine bodyPost_ret (v := .agg #[.slice A1 ns.length c1, .slice A2 ds.length c2]) (by simp [results, Tryd.results13, go_sem, r0, r1]) rfl ?_
                  have hnl := Hnl.out
                  refine ⟨A1, c1, A2, c2, ns, ds, rfl, (ho1.mono (T := fun g => w.heap.size ≤ g) (fun g _ hg => by omega)).keep1 (fun k hk => hset k (by have := (ho1.type k hk).1; omega)),
                    (ho2.mono (T := fun g => w.heap.size ≤ g) (fun g _ hg => by omega)).keep1 (fun k hk => hset k (by have := (ho2.type k hk).1; omega)), hdk.keep (fun k hk => hset k (by omega)) (by rw [hsz]; exact Nat.le_refl _),
                    ⟨hoo.1.trans (hfrz.os.trans hfr.os), hoo.2.1.trans (hfrz.tape.trans hfr.tape), hoo.2.2.trans (hfrz.output.trans hfr.output), by rw [hsz]; exact Nat.le_trans hfr.size hfrz.size, fun k hk hne => ?_⟩, ⟨by omega, by omega, Hok.out, hd1l, hfew, by rw [hnl]; exact hdok⟩⟩
                  have hkb : k ≠ bd := fun e => hne (by rw [e])
                  rw [hset k (by omega), hfrz.block k (by omega) hkb]
                  exact hfr.block k hk hkb
end Go.Proofs.YtgpcojmdfmngeaaDoor

namespace Go.Proofs.YtgpcojmdfmngeaaDoor
open Go.RowKit
set_option maxHeartbeats 400000

/-- What the slots hold. -/
def StT (gb b off : Nat) (ds : List Dev) (c2 j : Nat) (kd : Int) (bd : Nat) (d : Nat) (v : Value) : Prop :=
  match d with
  | 15 => v = .pointer (some ⟨gb, 1, none⟩)
  | 16 => v = .slice (some ⟨b, off, none⟩) ds.length c2
  | 17 => v = .int .i64 j
  | 18 => v = .pointer (some ⟨b, off + j * 5, none⟩)
  | 19 => v = .pointer (some ⟨b, off + j * 5 + 1, none⟩)
  | 20 => v = .int .i64 kd
  | 21 => ∃ b : Bool, v = .bool b
  | 22 => v = .pointer (some ⟨bd, 0, none⟩)
  | 23 => ∃ b : Bool, v = .bool b
  | 24 => ∃ b : Bool, v = .bool b
  | _ => True

/-- What making a state gives: places that are open or closed, one a device. -/
def RetState (w : World) (bd n : Nat) (p : Int → Prop) (e : Ending) (w' : World) : Prop :=
  ∃ A c xs, e = .returned (.slice A xs.length c) ∧ xs.length = n ∧ (∀ x ∈ xs, p x) ∧ OI w' (fun g => w.heap.size ≤ g) A c xs ∧ Deck w' bd ∧ Fr w.heap.size bd w w'

set_option maxHeartbeats 1000000 in
theorem state_any (w : World) (bd : Nat) (h : Deck w bd) (A1 : Option Addr) (n1 c1 : Nat) (A2 : Option Addr) (c2 : Nat) (ds : List Dev) (S : Nat → Prop) (hS : ∀ b, S b → b ≠ bd) (hv : SV w S A2 (devsV ds)) (hl : ds.length ≤ 60) :
    Calls Tryd.prog 64 #[.pointer (some ⟨bd, 0, none⟩), .agg #[.slice A1 n1 c1, .slice A2 ds.length c2]] w (RetState w bd ds.length (fun x => x = 1 ∨ x = 2)) := by
  have hbdl := h.lt
  go_enter Tryd.func64, Tryd.ntmps64
  go_wp2_with (fail)
  have hb0 : (w.alloc (.cells #[.slice A1 n1 c1, .slice A2 ds.length c2] 26)).heap[w.heap.size]? = some (.cells #[.slice A1 n1 c1, .slice A2 ds.length c2] 26 (0, 0)) := heap_alloc_new w _
  have hd0 := h.below ((Below.refl _ _).alloc (Nat.le_refl _) (.cells #[.slice A1 n1 c1, .slice A2 ds.length c2] 26))
  have hf0 : Fr w.heap.size bd w (w.alloc (.cells #[.slice A1 n1 c1, .slice A2 ds.length c2] 26)) := Fr.of_below ((Below.refl _ _).alloc (Nat.le_refl _) _)
  have hz0 : (w.alloc (.cells #[.slice A1 n1 c1, .slice A2 ds.length c2] 26)).heap.size = w.heap.size + 1 := by simp
  generalize w.alloc (.cells #[.slice A1 n1 c1, .slice A2 ds.length c2] 26) = w0 at *
  obtain ⟨gb, hgb⟩ : ∃ gb, gb = w.heap.size := ⟨_, rfl⟩
  rw [← hgb] at hb0
  rw [← hgb]
  have Hb0 := Lib.hid hb0
  have Hgb := Lib.hid hgb
  have Hz0 := Lib.hid hz0
  clear hb0 hgb hz0
  go_loopg [5, 6] ds.length (fun g v i wr => ∃ (j : Nat) (A' : Option Addr) (c' : Nat) (ys : List Int), j + g = ds.length ∧ i = .int .i64 j ∧ v = .slice A' ys.length c' ∧ ys.length = j ∧ (∀ x ∈ ys, x = 1 ∨ x = 2) ∧ OI wr (fun g => gb + 1 ≤ g) A' c' ys ∧ Deck wr bd ∧ Fr (gb + 1) bd w0 wr)
  case atStart => exact ⟨0, none, 0, [], by omega, rfl, rfl, rfl, by simp, OI.nil _ _, hd0, Fr.refl _ _ _⟩
  case round =>
    obtain ⟨j, A', c', ys, hj, rfl, rfl, hyl, hys, hown, hdk, hfr⟩ := hrel
    have Hj := Lib.hid hj
    have Hyl := Lib.hid hyl
    have Hys := Lib.hid hys
    clear hj hyl hys
    have hgbd : gb ≠ bd := by have := Hgb.out; omega
    have hz : gb + 1 ≤ wr.heap.size := by have := hfr.size; have := Hz0.out; have := Hgb.out; omega
    have hgb : gb < wr.heap.size := by omega
    have hcb : wr.cell? ⟨gb, 1, none⟩ = some (.slice A2 ds.length c2) := by rw [cell_of_row wr gb 1 _ _ _ ((hfr.block gb (by omega) hgbd).trans Hb0.out)]; rfl
    by_cases hlt : j < ds.length
    · obtain ⟨b, off, rfl, hSb, hbl0, hlie⟩ := hv (by
        intro e; have := devsV_len ds; rw [e] at this; simp at this; omega)
      have hbd := hS b hSb
      have hbl : b < wr.heap.size := by have := Hgb.out; omega
      obtain ⟨kd, hkd⟩ : ∃ kd, kd = (ds[j]'hlt).kind := ⟨_, rfl⟩
      have hck : wr.cell? ⟨b, off + j * 5 + 1, none⟩ = some (.int .i64 kd) := by
        have e1 := devsV_at ds j _ (List.getElem?_eq_getElem hlt) 1 (by decide)
        have e2 := hlie (j * 5 + 1) (.int .i64 kd) (by rw [e1, hkd]; rfl)
        rw [← Nat.add_assoc] at e2
        refine (World.cell?_of_block ?_).trans e2
        have := Hgb.out
        rw [hfr.block b (by omega) hbd, hf0.block b (by omega) hbd]
      have Hck := Lib.hid hck
      have hcb' := hcb
      have Hcb := Lib.hid hcb'
      clear hck hkd hcb'
      have hlt' : (j : Int) < ds.length := by omega
      have hl' : (ds.length : Int) ≤ 60 := by omega
      go_upto_region 6 with fail
      go_cut [24] (fun v wx => (∃ b : Bool, v = .bool b) ∧ Fr wr.heap.size bd wr wx ∧ Deck wx bd)
      case first =>
        refine wp_region_ext0 (by kernel_rfl) 10 [15, 16, 17, 18, 19, 20, 21, 22, 23, 24] (fun w' => Fr wr.heap.size bd wr w' ∧ Deck w' bd) (fun w1 w2 => Fr w1.heap.size bd w1 w2) (fun d v _ => StT gb b off ds c2 j kd bd d v) (by kernel_rfl)
          ⟨⟨rfl, rfl, rfl, Nat.le_refl _, fun _ _ _ => rfl⟩, hdk.keep (fun _ _ => rfl) (Nat.le_refl _)⟩ (fun _ _ _ _ _ _ ht => ht) ?_ ?_
        · intro i o d hi ho hd f w1 hC hdep K hK
          clear hown hcb
          have hi' : i = 0 ∨ i = 1 ∨ i = 2 ∨ i = 3 ∨ i = 4 ∨ i = 5 ∨ i = 6 ∨ i = 7 ∨ i = 8 ∨ i = 9 := by omega
          rcases hi' with rfl | rfl | rfl | rfl | rfl | rfl | rfl | rfl | rfl | rfl
          · simp only [List.getElem?_toArray, List.getElem?_cons_zero, Option.some.injEq] at ho
            subst ho
            simp only [Option.some.injEq] at hd
            subst hd
            generalize hA : fr _ _ _ f = A at hK ⊢
            have e3 : A.tmps[3]?.getD undef = .pointer (some ⟨gb, 0, none⟩) := by rw [← hA]; exact fr_out _ _ _ _ 3 _ (by decide) rfl
            clear hA hdep
            go_simp
            exact hK _ _ (Fr.refl _ _ _) hC rfl
          · simp only [List.getElem?_toArray, List.getElem?_cons_zero, List.getElem?_cons_succ, Option.some.injEq] at ho
            subst ho
            simp only [Option.some.injEq] at hd
            subst hd
            have h15 : f 15 = .pointer (some ⟨gb, 1, none⟩) := hdep { on := 0, ground := .data } (by simp) rfl 15 rfl
            generalize hA : fr _ _ _ f = A at hK ⊢
            have e15 : A.tmps[15]?.getD undef = f 15 := by rw [← hA]; exact fr_in _ _ _ _ 15 (by decide) (by simp)
            clear hA hdep
            rw [h15] at e15
            clear h15
            have hcell : w1.cell? ⟨gb, 1, none⟩ = some (.slice (some ⟨b, off, none⟩) ds.length c2) := (World.cell?_of_block (hC.1.block gb hgb hgbd)).trans Hcb.out
            go_simp
            exact hK _ _ (Fr.refl _ _ _) hC rfl
          · simp only [List.getElem?_toArray, List.getElem?_cons_zero, List.getElem?_cons_succ, Option.some.injEq] at ho
            subst ho
            simp only [Option.some.injEq] at hd
            subst hd
            generalize hA : fr _ _ _ f = A at hK ⊢
            have e6 : A.tmps[6]?.getD undef = .int .i64 j := by rw [← hA]; exact fr_out _ _ _ _ 6 _ (by decide) rfl
            clear hA hdep
            go_simp
            exact hK _ _ (Fr.refl _ _ _) hC rfl
          · simp only [List.getElem?_toArray, List.getElem?_cons_zero, List.getElem?_cons_succ, Option.some.injEq] at ho
            subst ho
            simp only [Option.some.injEq] at hd
            subst hd
            have h16 : f 16 = .slice (some ⟨b, off, none⟩) ds.length c2 := hdep { on := 1, ground := .data } (by simp) rfl 16 rfl
            have h17 : f 17 = .int .i64 j := hdep { on := 2, ground := .data } (by simp) rfl 17 rfl
            generalize hA : fr _ _ _ f = A at hK ⊢
            have e16 : A.tmps[16]?.getD undef = f 16 := by rw [← hA]; exact fr_in _ _ _ _ 16 (by decide) (by simp)
            have e17 : A.tmps[17]?.getD undef = f 17 := by rw [← hA]; exact fr_in _ _ _ _ 17 (by decide) (by simp)
            clear hA hdep
            rw [h16] at e16
            clear h16
            rw [h17] at e17
            clear h17
            go_simp
            exact hK _ _ (Fr.refl _ _ _) hC rfl
          · simp only [List.getElem?_toArray, List.getElem?_cons_zero, List.getElem?_cons_succ, Option.some.injEq] at ho
            subst ho
            simp only [Option.some.injEq] at hd
            subst hd
            have h18 : f 18 = .pointer (some ⟨b, off + j * 5, none⟩) := hdep { on := 3, ground := .data } (by simp) rfl 18 rfl
            generalize hA : fr _ _ _ f = A at hK ⊢
            have e18 : A.tmps[18]?.getD undef = f 18 := by rw [← hA]; exact fr_in _ _ _ _ 18 (by decide) (by simp)
            clear hA hdep
            rw [h18] at e18
            clear h18
            go_simp
            exact hK _ _ (Fr.refl _ _ _) hC rfl
          · simp only [List.getElem?_toArray, List.getElem?_cons_zero, List.getElem?_cons_succ, Option.some.injEq] at ho
            subst ho
            simp only [Option.some.injEq] at hd
            subst hd
            have h19 : f 19 = .pointer (some ⟨b, off + j * 5 + 1, none⟩) := hdep { on := 4, ground := .data } (by simp) rfl 19 rfl
            generalize hA : fr _ _ _ f = A at hK ⊢
            have e19 : A.tmps[19]?.getD undef = f 19 := by rw [← hA]; exact fr_in _ _ _ _ 19 (by decide) (by simp)
            clear hA hdep
            rw [h19] at e19
            clear h19
            have hcell : w1.cell? ⟨b, off + j * 5 + 1, none⟩ = some (.int .i64 kd) := (World.cell?_of_block (hC.1.block b hbl hbd)).trans Hck.out
            go_simp
            exact hK _ _ (Fr.refl _ _ _) hC rfl
          · simp only [List.getElem?_toArray, List.getElem?_cons_zero, List.getElem?_cons_succ, Option.some.injEq] at ho
            subst ho
            simp only [Option.some.injEq] at hd
            subst hd
            have h20 : f 20 = .int .i64 kd := hdep { on := 5, ground := .data } (by simp) rfl 20 rfl
            generalize hA : fr _ _ _ f = A at hK ⊢
            have e20 : A.tmps[20]?.getD undef = f 20 := by rw [← hA]; exact fr_in _ _ _ _ 20 (by decide) (by simp)
            clear hA hdep
            rw [h20] at e20
            clear h20
            go_simp
            exact hK _ _ (Fr.refl _ _ _) hC ⟨_, rfl⟩
          · simp only [List.getElem?_toArray, List.getElem?_cons_zero, List.getElem?_cons_succ, Option.some.injEq] at ho
            subst ho
            simp only [Option.some.injEq] at hd
            subst hd
            generalize hA : fr _ _ _ f = A at hK ⊢
            have e0 : A.tmps[0]?.getD undef = .pointer (some ⟨bd, 0, none⟩) := by rw [← hA]; exact fr_out _ _ _ _ 0 _ (by decide) rfl
            clear hA hdep
            go_simp
            exact hK _ _ (Fr.refl _ _ _) hC rfl
          · simp only [List.getElem?_toArray, List.getElem?_cons_zero, List.getElem?_cons_succ, Option.some.injEq] at ho
            subst ho
            simp only [Option.some.injEq] at hd
            subst hd
            have h22 : f 22 = .pointer (some ⟨bd, 0, none⟩) := hdep { on := 7, ground := .data } (by simp) rfl 22 rfl
            generalize hA : fr _ _ _ f = A at hK ⊢
            have e22 : A.tmps[22]?.getD undef = f 22 := by rw [← hA]; exact fr_in _ _ _ _ 22 (by decide) (by simp)
            clear hA hdep
            rw [h22] at e22
            clear h22
            go_simp
            refine (one_any _ _ hC.2 _ (by decide)).mono ?_
            rintro e w2 ⟨b2, rfl, hd2, hg2, hz2⟩
            exact hK _ _ (Fr.of_grown hg2 (Nat.le_refl _)) ⟨hC.1.trans (Fr.of_grown hg2 hC.1.size), hd2⟩ ⟨_, rfl⟩
          · simp only [List.getElem?_toArray, List.getElem?_cons_zero, List.getElem?_cons_succ, Option.some.injEq] at ho
            subst ho
            simp only [Option.some.injEq] at hd
            subst hd
            have q21 : ∃ b : Bool, f 21 = .bool b := hdep { on := 6, ground := .data } (by simp) rfl 21 rfl
            have q23 : ∃ b : Bool, f 23 = .bool b := hdep { on := 8, ground := .data } (by simp) rfl 23 rfl
            generalize hA : fr _ _ _ f = A at hK ⊢
            have e21 : A.tmps[21]?.getD undef = f 21 := by rw [← hA]; exact fr_in _ _ _ _ 21 (by decide) (by simp)
            have e23 : A.tmps[23]?.getD undef = f 23 := by rw [← hA]; exact fr_in _ _ _ _ 23 (by decide) (by simp)
            clear hA hdep
            obtain ⟨v21, h21⟩ := q21
            rw [h21] at e21
            clear h21
            obtain ⟨v23, h23⟩ := q23
            rw [h23] at e23
            clear h23
            go_simp
            exact hK _ _ (Fr.refl _ _ _) hC ⟨_, rfl⟩
        · intro f w1 hC hall
          have q24 : ∃ b : Bool, f 24 = .bool b := hall 9 24 (by decide) rfl
          have H24 := Lib.hid q24
          clear hall q24
          simp only [fr, upd, List.mapIdx_cons, List.mapIdx_nil]
          simp
          go_wp2_with fail
          go_meet
          case rel => exact ⟨H24.out, hC.1, hC.2⟩
      case rest =>
        obtain ⟨⟨bb, rfl⟩, hfx, hdx⟩ := hcut
        obtain ⟨wx, rfl⟩ : ∃ wx : World, wx = wc := ⟨_, rfl⟩
        have hown' : OI wx (fun g => gb + 1 ≤ g) A' c' ys := OV.keep1 hown (fun k hk => by
          have := OV.block hown k hk
          exact hfx.block k this.2 (by have := this.1; have := Hgb.out; omega))
        have hfr' : Fr (gb + 1) bd w0 wx := hfr.trans ⟨hfx.os, hfx.tape, hfx.output, hfx.size, fun k hk hn => hfx.block k (by omega) hn⟩
        have hzx : gb + 1 ≤ wx.heap.size := by have := hfx.size; omega
        clear hown hfx hdk hfr hcb Hcb Hck
        cases bb
        all_goals
          go_wp2_with (at_builtin; go_must (refine wpList_push (B := gb + 1) rfl (.tmp 25) (.tmp 27) rfl rfl rfl rfl (hown'.keep (Kept.alloc _ _ _)) (new_cell _ _ _) (by have := Hyl.out; omega) (by simp; omega) ?_); intro A3 c3 w3 ho3 hb3 hg3 _)
          go_roundg (gk - 1)
          case measure => have := Hj.out; omega
          case rel =>
            have := Hj.out
            have := Hyl.out
            have := Hgb.out
            refine ⟨j + 1, A3, c3, _, by omega, by go_num, by simp, by simp; omega, fun x hx => ?_, ho3, (hdx.below ((Below.refl _ _).alloc (Nat.le_refl _) _)).belowB hb3 (by omega), hfr'.trans ((Fr.of_below ((Below.refl _ _).alloc hzx _)).trans (Fr.of_below hb3))⟩
            rcases List.mem_append.1 hx with hx | hx
            · exact Hys.out x hx
            · simp at hx; subst hx; decide
    · go_wp2_with (fail)
      go_ret
      have := Hgb.out
      have := Hyl.out
      have hj' := Hj.out
      refine ⟨A', c', ys, rfl, by omega, Hys.out, hown.mono (fun g _ hg => by omega), hdk, hf0.trans ⟨hfr.os, hfr.tape, hfr.output, hfr.size, fun k hk hn => hfr.block k (by omega) hn⟩⟩

theorem masks_any (w : World) (bd : Nat) (h : Deck w bd) (A1 : Option Addr) (n1 c1 : Nat) (A2 : Option Addr) (c2 : Nat) (ds : List Dev) (S : Nat → Prop) (hS : ∀ b, S b → b ≠ bd) (hv : SV w S A2 (devsV ds)) (hl : ds.length ≤ 60) (most : Nat) (hm : most ≤ 1000) :
    Calls Tryd.prog 38 #[.pointer (some ⟨bd, 0, none⟩), .agg #[.slice A1 n1 c1, .slice A2 ds.length c2], .int .i64 most] w (RetState w bd ds.length (fun x => 1 ≤ x ∧ x ≤ 3)) := by
  have hbdl := h.lt
  go_enter Tryd.func38, Tryd.ntmps38
  go_wp2_with (fail)
  have hb0 : Below w.heap.size w (w.alloc (.cells #[.slice A1 n1 c1, .slice A2 ds.length c2] 26)) := (Below.refl _ _).alloc (Nat.le_refl _) _
  have hz0 : (w.alloc (.cells #[.slice A1 n1 c1, .slice A2 ds.length c2] 26)).heap.size = w.heap.size + 1 := by simp
  generalize w.alloc (.cells #[.slice A1 n1 c1, .slice A2 ds.length c2] 26) = w0 at *
  refine (state_any w0 bd (h.below hb0) A1 n1 c1 A2 c2 ds S hS (hv.keep (Kept.of_below hb0)) hl).mono ?_
  rintro e w1 ⟨A, c, xs0, rfl, hxl, hxs, hown, hd1, hf1⟩
  have Hxl := Lib.hid hxl
  have hn : xs0.length ≤ 60 := by omega
  obtain ⟨n, hnn⟩ : ∃ n, n = xs0.length := ⟨_, rfl⟩
  rw [← hnn]
  rw [← hnn] at hn
  have Hnn := Lib.hid hnn
  clear hxl hnn
  have hf0 : Fr w.heap.size bd w w1 := (Fr.of_below hb0).trans ⟨hf1.os, hf1.tape, hf1.output, hf1.size, fun k hk hne => hf1.block k (by omega) hne⟩
  go_wp2_with (fail)
  go_loopg [8] most (fun g i wr => ∃ (j : Nat) (xs : List Int), j + g = most ∧ i = .int .i64 j ∧ xs.length = n ∧ (∀ x ∈ xs, 1 ≤ x ∧ x ≤ 3) ∧ OI wr (fun g => w.heap.size ≤ g) A c xs ∧ Deck wr bd ∧ Fr w.heap.size bd w1 wr)
  case atStart => exact ⟨0, xs0, by omega, rfl, Hnn.out.symm, fun x hx => by rcases hxs x hx with rfl | rfl <;> decide, hown.mono (fun g _ hg => by omega), hd1, Fr.refl _ _ _⟩
  case round =>
    obtain ⟨j, xs, hj, rfl, hxl, hx3, hox, hdx, hfx⟩ := hrel
    have Hj := Lib.hid hj
    have Hl := Lib.hid hxl
    have Hx3 := Lib.hid hx3
    clear hj hxl hx3
    by_cases hgo : j < most ∧ 0 < n
    · obtain ⟨hjm, hn0⟩ := hgo
      go_wp2_with (fail)
      refine (one_any _ _ hdx _ (by decide)).mono ?_
      rintro e w2 ⟨bb, rfl, hd2, hg2, hz2⟩
      have ho2 : OI w2 (fun g => w.heap.size ≤ g) A c xs := OV.keep1 hox (fun k hk => by
        have := OV.block hox k hk
        exact hg2.block k this.2 (by intro e; injection e with e; have := this.1; omega))
      have hf2 : Fr w.heap.size bd w1 w2 := hfx.trans (Fr.of_grown hg2 (by have := hf0.size; have := hfx.size; omega))
      cases bb
      · go_wp2_with (fail)
        go_roundg (gk - 1)
        case measure => have := Hj.out; omega
        case rel =>
          have := Hj.out
          exact ⟨j + 1, xs, by omega, by go_num, Hl.out, Hx3.out, ho2, hd2, hf2⟩
      · go_wp2_with (fail)
        refine (next_any _ _ hd2 _ (by omega)).mono ?_
        rintro e w3 ⟨r, rfl, hr, _, hd3, hg3, hz3⟩
        have hr2 : (r : Int) < n := hr (by omega)
        have hr3 : r < xs.length := by have := Hl.out; omega
        have ho3 : OI w3 (fun g => w.heap.size ≤ g) A c xs := OV.keep1 ho2 (fun k hk => by
          have := OV.block ho2 k hk
          exact hg3.block k this.2 (by intro e; injection e with e; have := this.1; omega))
        have hf3 : Fr w.heap.size bd w1 w3 := hf2.trans (Fr.of_grown hg3 (by have := hf0.size; have := hf2.size; omega))
        obtain ⟨g, off, rfl, hgs, hgl, hc, hfz⟩ := ho3.at_ hr3
        have ho4 := ho3.set r 3
        have hr4 : r < n := by omega
        clear hr
        go_wp2_with (fail)
        go_roundg (gk - 1)
        case measure => have := Hj.out; omega
        case rel =>
          have := Hj.out
          refine ⟨j + 1, _, by omega, by go_num, by simpa using Hl.out, fun x hx => ?_, ho4, hd3.keep (fun k hk => Below.heap_setCell _ _ _ _ (by show k ≠ g; omega)) (by simp [World.setCell]), hf3.trans ⟨rfl, rfl, rfl, by simp [World.setCell], fun k hk _ => Below.heap_setCell _ _ _ _ (by show k ≠ g; omega)⟩⟩
          rcases List.mem_or_eq_of_mem_set hx with hx | rfl
          · exact Hx3.out x hx
          · decide
    · have hfin : ¬ (j : Int) < most ∨ n = 0 := by omega
      rcases hfin with hfin | hfin
      · go_wp2_with (fail)
        go_ret
        exact ⟨A, c, xs, by rw [Hl.out]; rfl, by rw [Hl.out, Hnn.out, Hxl.out], Hx3.out, hox, hdx, hf0.trans hfx⟩
      · subst hfin
        by_cases hjm : j < most
        all_goals
          go_wp2_with (fail)
          go_ret
          exact ⟨A, c, xs, by rw [Hl.out]; rfl, by rw [Hl.out, Hnn.out, Hxl.out], Hx3.out, hox, hdx, hf0.trans hfx⟩
end Go.Proofs.YtgpcojmdfmngeaaDoor

namespace Go.Proofs.YtgpcojmdfmngeaaDoor
open Go.RowKit
set_option maxHeartbeats 400000
set_option maxRecDepth 100000

def RetChg (w : World) (bd n most : Nat) (e : Ending) (w' : World) : Prop :=
  ∃ A c xs, e = .returned (.slice A xs.length c) ∧ xs.length ≤ most ∧ OkC n (3 * most - 1) xs ∧ OC w' (fun g => w.heap.size ≤ g) A c xs ∧ Deck w' bd ∧ Fr w.heap.size bd w w'

theorem OC.keep {w w' : World} {S : Nat → Prop} {A : Option Addr} {c : Nat} {xs : List Chg} (h : OC w S A c xs) (k : Kept S w w') : OC w' S A c xs := OV.keep h k
theorem chg_cells (w : World) (x : Chg) : ∀ j u, (chgV x)[j]? = some u → (w.alloc (.cells (chgV x).toArray 86)).cell? ⟨w.heap.size, j, none⟩ = some u := fun j u hj => by
  rw [cell_of_row _ w.heap.size j _ _ _ (heap_alloc_new w _)]
  simpa using hj
theorem Fr.monoB {B B' bd : Nat} {w w' : World} (h : Fr B bd w w') (hB : B' ≤ B) : Fr B' bd w w' := ⟨h.os, h.tape, h.output, h.size, fun k hk hn => h.block k (by omega) hn⟩

set_option maxHeartbeats 2000000 in
theorem mkChanges_any (w : World) (bd : Nat) (h : Deck w bd) (A1 : Option Addr) (n1 c1 : Nat) (A2 : Option Addr) (c2 dl : Nat) (hd1 : 1 ≤ dl) (hd2 : dl ≤ 60) (most : Nat) (hm : most ≤ 100) :
    Calls Tryd.prog 82 #[.pointer (some ⟨bd, 0, none⟩), .agg #[.slice A1 n1 c1, .slice A2 dl c2], .int .i64 most] w (RetChg w bd dl most) := by
  have hbdl := h.lt
  have hb := (Below.refl w.heap.size w).alloc (Nat.le_refl _) (.cells #[.slice A1 n1 c1, .slice A2 dl c2] 26)
  have hdk := h.below hb
  have hbox : (w.alloc (.cells #[.slice A1 n1 c1, .slice A2 dl c2] 26)).heap[w.heap.size]? = some (.cells #[.slice A1 n1 c1, .slice A2 dl c2] 26 (0, 0)) := heap_alloc_new w _
  have hsz : (w.alloc (.cells #[.slice A1 n1 c1, .slice A2 dl c2] 26)).heap.size = w.heap.size + 1 := by simp
  have hfr : Fr w.heap.size bd w (w.alloc (.cells #[.slice A1 n1 c1, .slice A2 dl c2] 26)) := Fr.of_below hb
  go_enter Tryd.func82, Tryd.ntmps82
  go_wp2_with (fail)
  generalize w.alloc (.cells #[.slice A1 n1 c1, .slice A2 dl c2] 26) = wb at *
  refine (next_any wb bd hdk 3 (by decide)).mono ?_
  rintro e w1 ⟨t0, rfl, ht0, _, hk1, hg1, hz1⟩
  have ht0 := ht0 (by decide)
  have hwm : IntKind.i64.wrap ((most : Int) + 1) = (most : Int) + 1 := IntWalk.i64_in _ (by omega)
  go_wp2_with (fail)
  refine (next_any w1 bd hk1 ((most : Int) + 1) (by omega)).mono ?_
  rintro e w2 ⟨K, rfl, hK, _, hk2, hg2, hz2⟩
  have hK := hK (by omega)
  have hF : Fr (w.heap.size + 1) bd wb w2 := (Fr.of_grown hg1 (by omega)).trans (Fr.of_grown hg2 (by omega))
  go_wp2_with (fail)
  go_loopg [7, 8, 9] K (fun g v t k wr => ∃ (xs : List Chg) (A' : Option Addr) (c' tt : Nat), k = .int .i64 g ∧ v = .slice A' xs.length c' ∧ t = .int .i64 tt ∧ xs.length + g = K ∧ tt ≤ 2 + 3 * xs.length ∧ OkC dl (3 * xs.length - 1) xs ∧ (∀ y ∈ xs, y.t ≤ tt) ∧ OC wr (fun g => w.heap.size + 1 ≤ g) A' c' xs ∧ Deck wr bd ∧ Fr (w.heap.size + 1) bd wb wr)
  case atStart => exact ⟨[], none, 0, t0, rfl, rfl, rfl, by simp, by simp; omega, ⟨by simp, List.Pairwise.nil⟩, by simp, OV.nil _ _ _ _, hk2, hF⟩
  case round =>
    clear hF hk2 hg2 hz2 hk1 hg1 hz1 hdk
    obtain ⟨xs, A', c', tt, rfl, rfl, rfl, hlen, htt, hok, hle, ho, hk, hF⟩ := hrel
    have hwz : w.heap.size + 1 ≤ wr.heap.size := by have := hF.size; omega
    have b1 : wr.cell? ⟨w.heap.size, 1, none⟩ = some (.slice A2 dl c2) := by
      rw [cell_of_row wr _ 1 _ _ _ ((hF.block w.heap.size (by omega) (by omega)).trans hbox)]
      rfl
    have Hok := Lib.hid hok
    have Hle := Lib.hid hle
    clear hok hle
    by_cases hg0 : gk = 0
    · subst hg0
      have Hok := Lib.hid (show OkC dl (3 * most - 1) xs from ⟨fun x hx => by have := Hok.out.1 x hx; exact ⟨this.1, by omega, this.2.2⟩, Hok.out.2⟩)
      go_wp2_with (fail)
      go_ret
      exact ⟨A', c', xs, rfl, by omega, Hok.out, OV.mono ho (fun g _ hg => by have hg : w.heap.size + 1 ≤ g := hg; show w.heap.size ≤ g; omega), hk, hfr.trans (hF.monoB (by omega))⟩
    · have hgp : decide ((0 : Int) < gk) = true := decide_eq_true (by omega)
      have hdp : decide ((0 : Int) < dl) = true := decide_eq_true (by omega)
      go_wp2_with (fail)
      refine (next_any wr bd hk dl (by omega)).mono ?_
      rintro e w3 ⟨r, rfl, hr, _, hk3, hg3, hz3⟩
      have hr := hr (by omega)
      go_wp2_with (fail)
      refine (next_any w3 bd hk3 2 (by decide)).mono ?_
      rintro e w4 ⟨p, rfl, hp, _, hk4, hg4, hz4⟩
      have hp := hp (by decide)
      have hz34 : w.heap.size + 1 ≤ w4.heap.size := by omega
      have ho4 : OC w4 (fun g => w.heap.size + 1 ≤ g) A' c' xs := (ho.keep (Kept.grown hg3 (fun b hb _ e => by injection e with e; have hb : w.heap.size + 1 ≤ b := hb; omega))).keep (Kept.grown hg4 (fun b hb _ e => by injection e with e; have hb : w.heap.size + 1 ≤ b := hb; omega))
      have hF4 : Fr (w.heap.size + 1) bd wb w4 := (hF.trans (Fr.of_grown hg3 hwz)).trans (Fr.of_grown hg4 (by omega))
      clear ho hF hk hg3 hg4 hk3 b1 hz3 hz4
      obtain ⟨x, hx⟩ : ∃ x : Chg, x = ⟨tt, r, 1 + p⟩ := ⟨_, rfl⟩
      have Hx := Lib.hid hx
      have Hsn := Lib.hid (show OkC dl (3 * (xs ++ [x]).length - 1) (xs ++ [x]) from Hok.out.snoc x (by simp; omega) (fun y hy => by rw [hx]; exact Hle.out y hy) (by rw [hx]; refine ⟨by simp, by simp; omega, by simp, by simpa using hr, by simp; omega⟩))
      have hwp : IntKind.i64.wrap (1 + (p : Int)) = 1 + (p : Int) := IntWalk.i64_in _ (by omega)
      clear hx
      go_wp2_with (at_builtin; go_must (refine wpList_pushRec chgV_len (by decide) (B := w.heap.size + 1) 82 86 _ 24 Tryd.underlying82 chgInfo rfl (by decide) rfl (.tmp 26) (.tmp 37) rfl (xs := xs) ⟨tt, r, 1 + p⟩ (chgV_one _) rfl rfl rfl (ho4.keep (Kept.alloc _ _ _)) (chg_cells w4 _) (by omega) (by simp; omega) ?_); intro A5 c5 w5 ho5 hb5 _ _)
      have hk5 : Deck w5 bd := (hk4.below ((Below.refl _ _).alloc (Nat.le_refl _) _)).belowB hb5 (by omega)
      have hF5 : Fr (w.heap.size + 1) bd wb w5 := (hF4.trans (Fr.of_below ((Below.refl _ _).alloc hz34 _))).trans (Fr.of_below hb5)
      have hz5 : w.heap.size + 1 ≤ w5.heap.size := by have := hb5.size; simp at this; omega
      refine (next_any w5 bd hk5 4 (by decide)).mono ?_
      rintro e w6 ⟨q, rfl, hq, _, hk6, hg6, hz6⟩
      have hq := hq (by decide)
      have hwq : IntKind.i64.wrap ((tt : Int) + (q : Int)) = (tt : Int) + (q : Int) := IntWalk.i64_in _ (by omega)
      have hx := Hx.out
      rw [← hx] at ho5
      have hl1 : (xs ++ [x]).length = xs.length + 1 := by simp
      clear hx hz6
      go_wp2_with (fail)
      go_roundg (gk - 1)
      case measure => omega
      case rel =>
        refine ⟨xs ++ [x], A5, c5, tt + q, by go_num, by rw [hl1], by go_num, by omega, by omega, Hsn.out, fun y hy => ?_, OV.keep ho5 (Kept.grown hg6 (fun b hb _ e => by injection e with e; have hb : w.heap.size + 1 ≤ b := hb; omega)), hk6, hF5.trans (Fr.of_grown hg6 hz5)⟩
        rcases List.mem_append.1 hy with hy | hy
        · have := Hle.out y hy
          omega
        · simp at hy
          rw [hy, Hx.out]
          show (tt : Int) ≤ ((tt + q : Nat) : Int)
          omega
end Go.Proofs.YtgpcojmdfmngeaaDoor

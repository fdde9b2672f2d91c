/-
  The function that makes a network, walked: what it makes is a good network.
-/
import Derived.Test.YtglhplddjjoggaaDoorNet
namespace Go.Proofs.YtglhplddjjoggaaDoor
open Go.RowKit
set_option maxHeartbeats 400000
set_option maxRecDepth 100000

/-- What is known of the nodes that are made. -/
def NodesOK (ns : List Node) : Prop := ∀ i x, ns[i]? = some x → x.name = nm [78] i ∧ 0 ≤ x.cust ∧ x.cust ≤ 50 ∧ 0 ≤ x.comp ∧ x.comp ≤ 2
/-- What is known of the devices that are made, for k nodes. -/
def DevsOK (k : Nat) (ds : List Dev) : Prop := ∀ j d, ds[j]? = some d → d.name = nm (letter d.kind.toNat) j ∧ 1 ≤ d.kind ∧ d.kind ≤ 6 ∧ 0 ≤ d.comp ∧ d.comp ≤ 2 ∧ 0 ≤ d.a ∧ d.a < (k : Int) ∧
  (d.kind ≤ 3 → 0 ≤ d.b ∧ d.b < (k : Int) ∧ d.b ≠ d.a) ∧ (3 < d.kind → d.b = -1)
structure GoodNet (K D : Nat) (ns : List Node) (ds : List Dev) : Prop where
  two : 2 ≤ ns.length
  most : ns.length ≤ K
  nodes : NodesOK ns
  one : 1 ≤ ds.length
  few : ds.length ≤ D
  devs : DevsOK ns.length ds

/-- What the function hands back. -/
def RetNet (w : World) (bd K D : Nat) (e : Ending) (w' : World) : Prop :=
  ∃ A1 c1 A2 c2 ns ds, e = .returned (.agg #[.slice A1 ns.length c1, .slice A2 ds.length c2]) ∧ OV w' (fun g => w.heap.size ≤ g) 92 3 A1 ns.length c1 (nodesV ns) ∧ OV w' (fun g => w.heap.size ≤ g) 81 5 A2 ds.length c2 (devsV ds) ∧
    Deck w' bd ∧ w.grownBy w' (some bd) ∧ GoodNet K D ns ds

/-- The state of the making. -/
structure St (w1 W : World) (B gn gm gp bd D k : Nat) (ns : List Node) (ds : List Dev) : Prop where
  nb : NB W B gn gm gp bd D ns ds
  ok : DevsOK k ds
  few : ds.length ≤ D
  fr : Fr B bd w1 W

theorem NB.next {W W' : World} {B gn gm gp bd D : Nat} {ns : List Node} {ds : List Dev} (h : NB W B gn gm gp bd D ns ds) (hd : Deck W' bd) (hg : W.grownBy W' (some bd)) : NB W' B gn gm gp bd D ns ds := by
  obtain ⟨⟨A1, c1, A2, c2, hgn, ho1, ho2⟩, hgm, hgp, _, b1, b2, b3, b4⟩ := h
  have hk : ∀ k o, k ≠ bd → W.heap[k]? = some o → W'.heap[k]? = some o := fun k o hk ho => (hg.block k (Array.getElem?_eq_some_iff.1 ho).1 (by intro e; injection e with e; exact hk e)).trans ho
  have hk1 : ∀ k, k < W.heap.size → k ≠ bd → W'.heap[k]? = W.heap[k]? := fun k h1 h2 => hg.block k h1 (by intro e; injection e with e; exact h2 e)
  exact ⟨⟨A1, c1, A2, c2, hk _ _ (by omega) hgn, ho1.keep1 (fun k hk2 => by have := ho1.block k hk2; exact hk1 k this.2 (by have := this.1; omega)), ho2.keep1 (fun k hk2 => by have := ho2.block k hk2; exact hk1 k this.2 (by have := this.1; omega))⟩, hk _ _ b2 hgm, hk _ _ b3 hgp, hd, b1, b2, b3, b4⟩
theorem NB.gnlt {W : World} {B gn gm gp bd D : Nat} {ns : List Node} {ds : List Dev} (h : NB W B gn gm gp bd D ns ds) : gn < W.heap.size := by
  obtain ⟨⟨A1, c1, A2, c2, hgn, _⟩, _⟩ := h
  exact (Array.getElem?_eq_some_iff.1 hgn).1
theorem St.next {w1 W W' : World} {B gn gm gp bd D k : Nat} {ns : List Node} {ds : List Dev} (h : St w1 W B gn gm gp bd D k ns ds) (hd : Deck W' bd) (hg : W.grownBy W' (some bd)) : St w1 W' B gn gm gp bd D k ns ds :=
  ⟨h.nb.next hd hg, h.ok, h.few, h.fr.trans (Fr.of_grown hg (by have := h.nb.gnlt; have := h.nb.2.2.2.2.1; omega))⟩
theorem St.deck {w1 W : World} {B gn gm gp bd D k : Nat} {ns : List Node} {ds : List Dev} (h : St w1 W B gn gm gp bd D k ns ds) : Deck W bd := h.nb.2.2.2.1
theorem St.cell {w1 W : World} {B gn gm gp bd D k : Nat} {ns : List Node} {ds : List Dev} (h : St w1 W B gn gm gp bd D k ns ds) : W.cell? ⟨gp, 0, none⟩ = some (.pointer (some ⟨bd, 0, none⟩)) := by
  rw [cell_of_row W gp 0 _ _ _ h.nb.2.2.1]; rfl

theorem add_st {w1 W : World} {B gn gm gp bd D k : Nat} {ns : List Node} {ds : List Dev} (hD : 1 ≤ D) (hD2 : D ≤ 60) (h : St w1 W B gn gm gp bd D k ns ds) (kind : Nat) (hk : 1 ≤ kind) (hk6 : kind ≤ 6) (a b : Int) (ha : 0 ≤ a) (hak : a < k)
    (hb : kind ≤ 3 → 0 ≤ b ∧ b < k ∧ b ≠ a) (hb' : 3 < kind → b = -1) (kv : Int) (hkv : kv = kind) :
    Calls Tryd.prog 99 #[.int .i64 kv, .int .i64 a, .int .i64 b, .pointer (some ⟨gn, 0, none⟩), .pointer (some ⟨gm, 0, none⟩), .pointer (some ⟨gp, 0, none⟩)] W
      fun e w' => e = .returned (.tuple #[]) ∧ ∃ ds', St w1 w' B gn gm gp bd D k ns ds' ∧ 1 ≤ ds'.length := by
  subst hkv
  refine (add_any W B gn gm gp bd D ns ds hD2 h.nb kind hk hk6 a b).mono ?_
  rintro e w' ⟨rfl, hfr, hc⟩
  refine ⟨rfl, ?_⟩
  rcases hc with ⟨hfull, hnb⟩ | ⟨hroom, comp, hcomp, hnb⟩
  · exact ⟨ds, ⟨hnb, h.ok, h.few, h.fr.trans hfr⟩, by omega⟩
  · refine ⟨_, ⟨hnb, ?_, by simp; omega, h.fr.trans hfr⟩, by simp⟩
    intro j d hd
    rw [List.getElem?_append] at hd
    split at hd
    · exact h.ok j d hd
    · rename_i hj
      have hjl : j = ds.length := by
        have := (List.getElem?_eq_some_iff.1 hd).1
        simp at this; omega
      subst hjl
      rw [Nat.sub_self] at hd
      simp at hd
      subst hd
      refine ⟨by simp, by show (1 : Int) ≤ kind; omega, by show (kind : Int) ≤ 6; omega, by show (0 : Int) ≤ comp; omega, by show (comp : Int) ≤ 2; omega, ha, hak, fun h3 => hb (by have : (kind : Int) ≤ 3 := h3; omega), fun h3 => hb' (by have : (3 : Int) < kind := h3; omega)⟩

/-- Four new blocks. -/
theorem four (w : World) (o1 o2 o3 o4 : Obj) : let W := ((((w.alloc o1).alloc o2).alloc o3).alloc o4)
    W.heap[w.heap.size]? = some o1 ∧ W.heap[w.heap.size + 1]? = some o2 ∧ W.heap[w.heap.size + 1 + 1]? = some o3 ∧ W.heap[w.heap.size + 1 + 1 + 1]? = some o4 ∧ W.heap.size = w.heap.size + 4 ∧ Below w.heap.size w W := by
  refine ⟨?_, ?_, ?_, ?_, by simp, ?_⟩
  · rw [Below.heap_alloc _ _ _ (by simp <;> omega), Below.heap_alloc _ _ _ (by simp <;> omega), Below.heap_alloc _ _ _ (by simp)]; exact heap_alloc_new w o1
  · rw [Below.heap_alloc _ _ _ (by simp <;> omega), Below.heap_alloc _ _ _ (by simp)]
    have := heap_alloc_new (w.alloc o1) o2; simpa using this
  · rw [Below.heap_alloc _ _ _ (by simp)]
    have := heap_alloc_new ((w.alloc o1).alloc o2) o3; simpa using this
  · have := heap_alloc_new (((w.alloc o1).alloc o2).alloc o3) o4; simpa using this
  · exact ((((Below.refl _ _).alloc (Nat.le_refl _) _).alloc (by simp) _).alloc (by simp <;> omega) _).alloc (by simp <;> omega) _

set_option maxHeartbeats 8000000 in
theorem network_any (w : World) (bd : Nat) (h : Deck w bd) (K D : Nat) (hK : 3 ≤ K) (hK2 : K ≤ 60) (hD : 1 ≤ D) (hD2 : D ≤ 60) :
    Calls Tryd.prog 19 #[.pointer (some ⟨bd, 0, none⟩), .int .i64 K, .int .i64 D] w (RetNet w bd K D) := by
  have hbdl := h.lt
  have hK1 : (1 : Int) < K - 1 := by omega
  go_enter Tryd.func19, Tryd.ntmps19
  go_wp2_with (fail)
  obtain ⟨e1, e2, e3, e4, ez, eb⟩ := four w (.cells #[.pointer (some ⟨bd, 0, none⟩)] 31) (.cells #[.int .i64 D] 3) (.cells #[.slice none 0 0, .slice none 0 0] 26) (.cells #[.slice none 0 0, .slice none 0 0] 26)
  have hd0 := h.below eb
  generalize ((((w.alloc (.cells #[.pointer (some ⟨bd, 0, none⟩)] 31)).alloc (.cells #[.int .i64 D] 3)).alloc (.cells #[.slice none 0 0, .slice none 0 0] 26)).alloc (.cells #[.slice none 0 0, .slice none 0 0] 26)) = w0 at *
  refine (next_any _ _ hd0 _ (by omega)).mono ?_
  rintro e w1 ⟨r, rfl, hr, _, hd1, hg1, hz1⟩
  have hr' : (r : Int) < K - 1 := hr (by omega)
  have hf1 : Fr (w.heap.size + 1 + 1 + 1) bd w0 w1 := Fr.of_grown hg1 (by omega)
  have hk1 : ∀ k o, k ≠ bd → w0.heap[k]? = some o → w1.heap[k]? = some o := fun k o hk ho => (hg1.block k (Array.getElem?_eq_some_iff.1 ho).1 (by intro e; injection e with e; exact hk e)).trans ho
  have hnb : NB w1 (w.heap.size + 1 + 1 + 1) (w.heap.size + 1 + 1 + 1) (w.heap.size + 1) w.heap.size bd D [] [] :=
    ⟨⟨none, 0, none, 0, hk1 _ _ (by omega) e4, OV.nil _ _ _ _, OV.nil _ _ _ _⟩, hk1 _ _ (by omega) e2, hk1 _ _ (by omega) e1, hd1, Nat.le_refl _, by omega, by omega, by omega⟩
  have hgr : w1.heap[w.heap.size + 1 + 1]? = some (.cells #[.slice none 0 0, .slice none 0 0] 26 (0, 0)) := hk1 _ _ (by omega) e3
  have hfr : Fr w.heap.size bd w w1 := (Fr.of_below eb).trans ⟨hf1.os, hf1.tape, hf1.output, hf1.size, fun k h1 h2 => hf1.block k (by omega) h2⟩
  obtain ⟨k, hk⟩ : ∃ k : Nat, k = 2 + r := ⟨_, rfl⟩
  have hkK : k ≤ K := by omega
  have hk2 : 2 ≤ k := by omega
  have Hek := Lib.hid (show (2 : Int) + (r : Int) = (k : Int) by omega)
  have Hk := Lib.hid hk
  clear hk
  have Hnb := Lib.hid hnb
  have Hgr := Lib.hid hgr
  clear hnb hgr hk1 hf1 hz1 hg1 e1 e2 e3 e4 hr hd0
  go_wp2_with (fail)
  rw [Hek.out]
  clear hr' Hek Hk
  go_loopg [9] k (fun g i wr => ∃ (j : Nat) (ns : List Node), j + g = k ∧ i = .int .i64 j ∧ ns.length = j ∧ NodesOK ns ∧ NB wr (w.heap.size + 1 + 1 + 1) (w.heap.size + 1 + 1 + 1) (w.heap.size + 1) w.heap.size bd D ns [] ∧ Fr (w.heap.size + 1 + 1 + 1) bd w1 wr)
  case atStart => exact ⟨0, [], by omega, rfl, rfl, fun i x h => by simp at h, Hnb.out, Fr.refl _ _ _⟩
  case round =>
    obtain ⟨j, ns, hj, rfl, hnl, hok, hnb, hfrr⟩ := hrel
    have Hj := Lib.hid hj
    have Hnl := Lib.hid hnl
    have Hok := Lib.hid hok
    clear hj hnl hok
    by_cases hlt : j < k
    · obtain ⟨⟨A1, c1, A2, c2, hgn, ho1, ho2⟩, hgm, hgp, hdr, b1, b2, b3, b4⟩ := hnb
      have Hgn := Lib.hid hgn
      have Hgm := Lib.hid hgm
      have Hgp := Lib.hid hgp
      have hgnl : w.heap.size + 1 + 1 + 1 < wr.heap.size := (Array.getElem?_eq_some_iff.1 hgn).1
      clear hgn hgm hgp
      have cp : wr.cell? ⟨w.heap.size, 0, none⟩ = some (.pointer (some ⟨bd, 0, none⟩)) := by rw [cell_of_row wr w.heap.size 0 _ _ _ Hgp.out]; rfl
      go_wp2_with (fail)
      refine (name_any _ [78] j (by omega) (by decide)).mono ?_
      rintro e w2 ⟨rfl, hb2⟩
      go_upto_region 7 with fail
      have hbg : (w2.alloc (.cells #[.string (nm [78] j), .int .i64 0, .int .i64 0] 92)).heap[w2.heap.size]? = some (.cells #[.string (nm [78] j), .int .i64 0, .int .i64 0] 92 (0, 0)) := heap_alloc_new w2 _
      have hfx : Fr wr.heap.size bd wr (w2.alloc (.cells #[.string (nm [78] j), .int .i64 0, .int .i64 0] 92)) := Fr.of_below (hb2.alloc hb2.size _)
      have hdx := hdr.below (hb2.alloc hb2.size (.cells #[.string (nm [78] j), .int .i64 0, .int .i64 0] 92))
      obtain ⟨g, hg⟩ : ∃ g, g = w2.heap.size := ⟨_, rfl⟩
      have hgl : wr.heap.size ≤ g := by have := hb2.size; omega
      rw [← hg] at hbg
      rw [← hg]
      generalize w2.alloc (.cells #[.string (nm [78] j), .int .i64 0, .int .i64 0] 92) = wx at *
      clear hg hb2 w2 cp
      -- customers
      have cpx : wx.cell? ⟨w.heap.size, 0, none⟩ = some (.pointer (some ⟨bd, 0, none⟩)) := by rw [cell_of_row wx w.heap.size 0 _ _ _ ((hfx.block _ (by omega) (by omega)).trans Hgp.out)]; rfl
      have Hbg := Lib.hid hbg
      clear hbg
      go_upto_if 33 with (go_at_call 20; refine (one_any _ _ hdx _ (by decide)).mono ?_; rintro e w2 ⟨bb, rfl, hd2, hg2, hz2⟩)
      have hfr2 : Fr wr.heap.size bd wr w2 := hfx.trans (Fr.of_grown hg2 hfx.size)
      have hb2 : w2.heap[g]? = some (.cells #[.string (nm [78] j), .int .i64 0, .int .i64 0] 92 (0, 0)) := (hg2.block g (Array.getElem?_eq_some_iff.1 Hbg.out).1 (by intro e; injection e with e; omega)).trans Hbg.out
      have Hb2 := Lib.hid hb2
      clear hb2 Hbg cpx hdx hfx hg2 hz2 wx
      go_cut [] (fun wx => ∃ cust : Nat, cust ≤ 50 ∧ wx.heap[g]? = some (.cells #[.string (nm [78] j), .int .i64 cust, .int .i64 0] 92 (0, 0)) ∧ Deck wx bd ∧ Fr wr.heap.size bd wr wx)
      case first =>
        cases bb
        · go_wp2_with fail
          go_meet
          case rel => exact ⟨0, by omega, Hb2.out, hd2, hfr2⟩
        · have cp2 : w2.cell? ⟨w.heap.size, 0, none⟩ = some (.pointer (some ⟨bd, 0, none⟩)) := by rw [cell_of_row w2 w.heap.size 0 _ _ _ ((hfr2.block _ (by omega) (by omega)).trans Hgp.out)]; rfl
          go_wp2_with fail
          refine (next_any _ _ hd2 _ (by decide)).mono ?_
          rintro e w3 ⟨r3, rfl, hr1, _, hd3, hg3, hz3⟩
          have hr2 : r3 < 50 := by have := hr1 (by decide); omega
          clear hr1
          have hb3 : w3.heap[g]? = some (.cells #[.string (nm [78] j), .int .i64 0, .int .i64 0] 92 (0, 0)) := (hg3.block g (Array.getElem?_eq_some_iff.1 Hb2.out).1 (by intro e; injection e with e; omega)).trans Hb2.out
          have q4 : w3.cell? ⟨g, 1, none⟩ = some (.int .i64 0) := by rw [cell_of_row w3 g 1 _ _ _ hb3]; rfl
          have f4 : w3.frozen? ⟨g, 1, none⟩ = false := by simp [World.frozen?, hb3]
          have Hb3 := Lib.hid hb3
          clear hb3 cp2
          go_wp2_with fail
          go_meet
          case rel =>
            refine ⟨1 + r3, by omega, ?_, hd3.keep (fun b hb => Below.heap_setCell _ _ _ _ (by show b ≠ g; omega)) (by simp [World.setCell]), (hfr2.trans (Fr.of_grown hg3 (by have := hfr2.size; omega))).trans ⟨rfl, rfl, rfl, by simp [World.setCell], fun k hk _ => Below.heap_setCell _ _ _ _ (by show k ≠ g; omega)⟩⟩
            simp [World.setCell, Array.getElem?_modify, Hb3.out]
      case rest =>
        obtain ⟨cust, hcust, hbg, hdx, hfx⟩ := hcut
        obtain ⟨wx, rfl⟩ : ∃ wx : World, wx = wc := ⟨_, rfl⟩
        clear Hb2 hd2 hfr2
        have Hbg := Lib.hid hbg
        clear hbg
        have cpx : wx.cell? ⟨w.heap.size, 0, none⟩ = some (.pointer (some ⟨bd, 0, none⟩)) := by rw [cell_of_row wx w.heap.size 0 _ _ _ ((hfx.block _ (by omega) (by omega)).trans Hgp.out)]; rfl
        go_upto_if 39 with (go_at_call 20; refine (one_any _ _ hdx _ (by decide)).mono ?_; rintro e w2 ⟨b8, rfl, hd2, hg2, hz2⟩)
        have hfr2 : Fr wr.heap.size bd wr w2 := hfx.trans (Fr.of_grown hg2 hfx.size)
        have hb2 : w2.heap[g]? = some (.cells #[.string (nm [78] j), .int .i64 cust, .int .i64 0] 92 (0, 0)) := (hg2.block g (Array.getElem?_eq_some_iff.1 Hbg.out).1 (by intro e; injection e with e; omega)).trans Hbg.out
        have Hb2 := Lib.hid hb2
        clear hb2 Hbg cpx hdx hfx hg2 hz2 wx
        go_cut [] (fun wx => ∃ comp : Nat, comp ≤ 2 ∧ wx.heap[g]? = some (.cells #[.string (nm [78] j), .int .i64 cust, .int .i64 comp] 92 (0, 0)) ∧ Deck wx bd ∧ Fr wr.heap.size bd wr wx)
        case first =>
          cases b8
          · go_wp2_with fail
            go_meet
            case rel => exact ⟨0, by omega, Hb2.out, hd2, hfr2⟩
          · have cp2 : w2.cell? ⟨w.heap.size, 0, none⟩ = some (.pointer (some ⟨bd, 0, none⟩)) := by rw [cell_of_row w2 w.heap.size 0 _ _ _ ((hfr2.block _ (by omega) (by omega)).trans Hgp.out)]; rfl
            go_wp2_with fail
            refine (next_any _ _ hd2 _ (by decide)).mono ?_
            rintro e w3 ⟨r3, rfl, hr1, _, hd3, hg3, hz3⟩
            have hr2 : r3 < 2 := by have := hr1 (by decide); omega
            clear hr1
            have hb3 : w3.heap[g]? = some (.cells #[.string (nm [78] j), .int .i64 cust, .int .i64 0] 92 (0, 0)) := (hg3.block g (Array.getElem?_eq_some_iff.1 Hb2.out).1 (by intro e; injection e with e; omega)).trans Hb2.out
            have q4 : w3.cell? ⟨g, 2, none⟩ = some (.int .i64 0) := by rw [cell_of_row w3 g 2 _ _ _ hb3]; rfl
            have f4 : w3.frozen? ⟨g, 2, none⟩ = false := by simp [World.frozen?, hb3]
            have Hb3 := Lib.hid hb3
            clear hb3 cp2
            go_wp2_with fail
            go_meet
            case rel =>
              refine ⟨1 + r3, by omega, ?_, hd3.keep (fun b hb => Below.heap_setCell _ _ _ _ (by show b ≠ g; omega)) (by simp [World.setCell]), (hfr2.trans (Fr.of_grown hg3 (by have := hfr2.size; omega))).trans ⟨rfl, rfl, rfl, by simp [World.setCell], fun k hk _ => Below.heap_setCell _ _ _ _ (by show k ≠ g; omega)⟩⟩
              simp [World.setCell, Array.getElem?_modify, Hb3.out]
        case rest =>
          obtain ⟨comp, hcomp, hbg, hdx, hfx⟩ := hcut
          have hszc : wr.heap.size ≤ wc.heap.size := hfx.size
          have hgnx : wc.heap[w.heap.size + 1 + 1 + 1]? = some (.cells #[.slice A1 ns.length c1, .slice A2 ([] : List Dev).length c2] 26 (0, 0)) := (hfx.block _ (by omega) (by omega)).trans Hgn.out
          have n1 : wc.cell? ⟨w.heap.size + 1 + 1 + 1, 0, none⟩ = some (.slice A1 ns.length c1) := by rw [cell_of_row wc _ 0 _ _ _ hgnx]; rfl
          have q0 : wc.cell? ⟨g, 0, none⟩ = some (.string (nm [78] j)) := by rw [cell_of_row wc g 0 _ _ _ hbg]; rfl
          have q1 : wc.cell? ⟨g, 1, none⟩ = some (.int .i64 cust) := by rw [cell_of_row wc g 1 _ _ _ hbg]; rfl
          have q2 : wc.cell? ⟨g, 2, none⟩ = some (.int .i64 comp) := by rw [cell_of_row wc g 2 _ _ _ hbg]; rfl
          have ho1x : OV wc (fun g => w.heap.size + 1 + 1 + 1 ≤ g) 92 3 A1 ns.length c1 (nodesV ns) := ho1.keep1 (fun k hk => by
            have := (ho1.block k hk); exact hfx.block k this.2 (by have := this.1; omega))
          have hns : ns.length ≤ 65536 := by have := Hnl.out; omega
          clear hgnx hbg
          go_wp2_with (at_builtin; go_must (refine wpList_pushG (S := fun g => w.heap.size + 1 + 1 + 1 ≤ g) (ys := nodeCells ⟨nm [78] j, cust, comp⟩) rfl (.tmp 45) (.tmp 47) 23 92 _ 3 32 rfl Tryd.underlying23 nodeInfo rfl (by decide) rfl rfl (ho1x.keep (Kept.alloc _ _ _)) rfl (by intro u hu; simp [nodeCells] at hu; rcases hu with rfl | rfl | rfl <;> rfl) ?_ (by simp) hns (by decide) ?_))
          · exact Lie.new wc (nodeCells ⟨nm [78] j, cust, comp⟩) _
          · intro A' c' w5 ho5 hg5 hor5
            have hsz5 : wc.heap.size + 1 ≤ w5.heap.size := by have := hg5.size; simpa using this
            have hkeep : ∀ k, k < wr.heap.size → k ≠ bd → some k ≠ blockOf A1 → w5.heap[k]? = wr.heap[k]? := fun k h1 h2 h3 =>
              (hg5.block k (by simp; omega) h3).trans ((Below.heap_alloc _ _ k (by omega)).trans (hfx.block k h1 h2))
            have hne : ∀ k cs u, wr.heap[k]? = some (.cells cs u (0, 0)) → u ≠ 92 → some k ≠ blockOf A1 := fun k cs u hk hu e => by
              obtain ⟨_, cur, hcur⟩ := ho1.type k e.symm
              exact ne_of_type hk hcur hu rfl
            have hgn5 : w5.heap[w.heap.size + 1 + 1 + 1]? = some (.cells #[.slice A1 ns.length c1, .slice A2 ([] : List Dev).length c2] 26 (0, 0)) := (hkeep _ hgnl (by omega) (hne _ _ _ Hgn.out (by decide))).trans Hgn.out
            have n5 : w5.cell? ⟨w.heap.size + 1 + 1 + 1, 0, none⟩ = some (.slice A1 ns.length c1) := by rw [cell_of_row w5 _ 0 _ _ _ hgn5]; rfl
            have f5 : w5.frozen? ⟨w.heap.size + 1 + 1 + 1, 0, none⟩ = false := by simp [World.frozen?, hgn5]
            have Hgn5 := Lib.hid hgn5
            have Hho5 := Lib.hid ho5
            have Hkeep := Lib.hid hkeep
            have Hne := Lib.hid hne
            clear hgn5 ho5 hkeep hne n1 q0 q1 q2
            go_wp2_with fail
            go_roundg (gk - 1)
            case measure => have := Hj.out; omega
            case rel =>
              have hjj := Hj.out
              have hA1B : ∀ k, blockOf A1 = some k → w.heap.size + 1 + 1 + 1 ≤ k := fun k hk => (ho1.type k hk).1
              have hset : ∀ k, k ≠ w.heap.size + 1 + 1 + 1 → (w5.setCell ⟨w.heap.size + 1 + 1 + 1, 0, none⟩ (.slice A' (ns.length + 1) c')).heap[k]? = w5.heap[k]? := fun k hk => Below.heap_setCell _ _ _ _ hk
              have hgnk : ∀ k cs u, wr.heap[k]? = some (.cells cs u (0, 0)) → u ≠ 26 → k ≠ w.heap.size + 1 + 1 + 1 := fun k cs u hk hu => ne_of_type hk Hgn.out hu
              have hlen : (ns ++ [(⟨nm [78] j, cust, comp⟩ : Node)]).length = ns.length + 1 := by simp
              refine ⟨j + 1, ns ++ [⟨nm [78] j, cust, comp⟩], by omega, by go_num, by rw [hlen, Hnl.out], ?_, ⟨⟨A', c', A2, c2, ?_, ?_, ?_⟩, ?_, ?_, ?_, b1, b2, b3, b4⟩, hfrr.trans ⟨?_, ?_, ?_, ?_, ?_⟩⟩
              · intro i x hx
                rw [List.getElem?_append] at hx
                split at hx
                · exact Hok.out i x hx
                · rename_i hi
                  have hi2 : i = j := by
                    have := (List.getElem?_eq_some_iff.1 hx).1
                    simp at this; have := Hnl.out; omega
                  subst hi2
                  rw [Hnl.out, Nat.sub_self] at hx
                  simp at hx
                  subst hx
                  exact ⟨rfl, by show (0 : Int) ≤ cust; omega, by show (cust : Int) ≤ 50; omega, by show (0 : Int) ≤ comp; omega, by show (comp : Int) ≤ 2; omega⟩
              · rw [hlen]; simp [World.setCell, Array.getElem?_modify, Hgn5.out]
              · rw [hlen, nodesV_snoc]
                have h1 := Hho5.out.mono (T := fun g => w.heap.size + 1 + 1 + 1 ≤ g) (fun g _ hg => by
                  rcases hg with hg | hg
                  · exact hg
                  · have h2 : g = wc.heap.size + 1 := by simpa using hg
                    show w.heap.size + 1 + 1 + 1 ≤ g; omega)
                refine h1.keep1 (fun k hk => hset k ?_)
                rcases hor5 with e | e
                · rw [e] at hk
                  obtain ⟨_, cur, hcur⟩ := ho1.type k hk
                  exact hgnk k _ _ hcur (by decide)
                · rw [e] at hk
                  injection hk with hk
                  rw [← hk]; simp; omega
              · refine ho2.keep1 (fun k hk => ?_)
                obtain ⟨hBk, cur, hcur⟩ := ho2.type k hk
                rw [hset k (hgnk k _ _ hcur (by decide))]
                exact Hkeep.out k (Array.getElem?_eq_some_iff.1 hcur).1 (by omega) (Hne.out k _ _ hcur (by decide))
              · rw [hset _ (by omega)]
                exact (Hkeep.out _ (by omega) (by omega) (Hne.out _ _ _ Hgm.out (by decide))).trans Hgm.out
              · rw [hset _ (by omega)]
                exact (Hkeep.out _ (by omega) (by omega) (Hne.out _ _ _ Hgp.out (by decide))).trans Hgp.out
              · refine hdx.keep (fun k hk => ?_) (by simp [World.setCell]; omega)
                rw [hset k (by omega)]
                exact (hg5.block k (by simp; omega) (fun e => by have := hA1B k e.symm; omega)).trans (Below.heap_alloc _ _ k (by omega))
              · exact hg5.os.trans hfx.os
              · exact hg5.tape.trans hfx.tape
              · exact hg5.output.trans hfx.output
              · simp [World.setCell]; omega
              · intro k hk hkb
                rw [hset k (by omega)]
                exact Hkeep.out k (by omega) hkb (fun e => by have := hA1B k e.symm; omega)
    · have hjk : j = k := by have := Hj.out; omega
      subst hjk
      obtain ⟨wa, rfl⟩ : ∃ wa : World, wa = wr := ⟨_, rfl⟩
      have hnsj : 2 ≤ ns.length := by have := Hnl.out; omega
      have st0 : St w1 wa (w.heap.size + 1 + 1 + 1) (w.heap.size + 1 + 1 + 1) (w.heap.size + 1) w.heap.size bd D j ns [] := ⟨hnb, fun i d h => by simp at h, Nat.zero_le _, hfrr⟩
      clear hnb hfrr hlt
      go_wp2_with fail
      refine (add_st hD hD2 st0 5 (by decide) (by decide) 0 (-1) (by decide) (by omega) (by omega) (by omega) 5 rfl).mono ?_
      rintro e w2 ⟨rfl, ds, st, hd1l⟩
      clear st0
      go_wp2_with fail
      go_loopg [12] (j - 1) (fun g i wr => ∃ (x : Nat) (ds : List Dev), x + g = j ∧ 1 ≤ x ∧ i = .int .i64 x ∧ St w1 wr (w.heap.size + 1 + 1 + 1) (w.heap.size + 1 + 1 + 1) (w.heap.size + 1) w.heap.size bd D j ns ds ∧ 1 ≤ ds.length)
      case atStart => exact ⟨1, ds, by omega, by omega, rfl, st, hd1l⟩
      case round =>
        clear st hd1l ds
        obtain ⟨x, ds, hx, hx1, rfl, st, hd1l⟩ := hrel
        have Hx := Lib.hid hx
        clear hx
        by_cases hlt : x < j
        · obtain ⟨wb, rfl⟩ : ∃ wb : World, wb = wr := ⟨_, rfl⟩
          have cp := st.cell
          go_upto_if 61 with (go_at_call 20; refine (one_any _ _ st.deck _ (by decide)).mono ?_; rintro e w3 ⟨bb, rfl, hd3, hg3, hz3⟩)
          have st3 := st.next hd3 hg3
          clear st cp hg3 hd3 hz3
          go_cut [13] (fun s13 wx => ∃ a : Nat, a < x ∧ s13 = .int .i64 a ∧ St w1 wx (w.heap.size + 1 + 1 + 1) (w.heap.size + 1 + 1 + 1) (w.heap.size + 1) w.heap.size bd D j ns ds)
          case first =>
            cases bb
            · go_wp2_with fail
              go_meet
              case rel => exact ⟨x - 1, by omega, by congr 1; omega, st3⟩
            · have cp := st3.cell
              go_wp2_with fail
              refine (next_any _ _ st3.deck _ (by omega)).mono ?_
              rintro e w4 ⟨r4, rfl, hr1, _, hd4, hg4, hz4⟩
              have hr2 : r4 < x := by have := hr1 (by omega); omega
              have st4 := st3.next hd4 hg4
              clear hr1 cp hd4 hg4 hz4
              go_wp2_with fail
              go_meet
              case rel => exact ⟨r4, hr2, rfl, st4⟩
          case rest =>
            obtain ⟨a, hax, rfl, st4⟩ := hcut
            clear st3
            have cp := st4.cell
            go_wp2_with fail
            refine (next_any _ _ st4.deck _ (by decide)).mono ?_
            rintro e w5 ⟨r5, rfl, hr1, _, hd5, hg5, hz5⟩
            have hr2 : r5 < 3 := by have := hr1 (by decide); omega
            have st5 := st4.next hd5 hg5
            clear hr1 cp hd5 hg5 hz5 st4
            go_wp2_with fail
            refine (add_st hD hD2 st5 (1 + r5) (by omega) (by omega) a x (by omega) (by omega) (by omega) (by omega) _ (by omega)).mono ?_
            rintro e w6 ⟨rfl, ds6, st6, hd6⟩
            go_wp2_with fail
            go_roundg (gk - 1)
            case measure => have := Hx.out; omega
            case rel => have := Hx.out; exact ⟨x + 1, ds6, by omega, by omega, by go_num, st6, hd6⟩
        · have cp := st.cell
          go_wp2_with fail
          refine (next_any _ _ st.deck _ (by decide)).mono ?_
          rintro e w3 ⟨r3, rfl, hr1, _, hd3, hg3, hz3⟩
          have hr2 : r3 < 4 := by have := hr1 (by decide); omega
          have st3 := st.next hd3 hg3
          clear hr1 cp hd3 hg3 hz3 st
          go_wp2_with fail
          go_loopg [14] r3 (fun g i wr => ∃ (ds : List Dev), i = .int .i64 g ∧ g < 4 ∧ St w1 wr (w.heap.size + 1 + 1 + 1) (w.heap.size + 1 + 1 + 1) (w.heap.size + 1) w.heap.size bd D j ns ds ∧ 1 ≤ ds.length)
          case atStart => exact ⟨ds, rfl, hr2, st3, hd1l⟩
          case round =>
            clear st3 hd1l ds
            obtain ⟨ds, rfl, hg4, st, hd1l⟩ := hrel
            by_cases hpos : 0 < gk
            · have cp := st.cell
              go_wp2_with fail
              refine (next_any _ _ st.deck _ (by decide)).mono ?_
              rintro e w4 ⟨r4, rfl, hr1, _, hd4, hgr4, hz4⟩
              have hr2 : r4 = 0 ∨ r4 = 1 ∨ r4 = 2 ∨ r4 = 3 := by have := hr1 (by decide); omega
              have st4 := st.next hd4 hgr4
              clear hr1 cp hd4 hgr4 hz4 st
              have cp := st4.cell
              rcases hr2 with rfl | rfl | rfl | rfl
              · go_wp2_with fail
                refine (next_any _ _ st4.deck _ (by omega)).mono ?_
                rintro e w5 ⟨a, rfl, hr1, _, hd5, hg5, hz5⟩
                have haj : a < j := by have := hr1 (by omega); omega
                have st5 := st4.next hd5 hg5
                clear hr1 cp hd5 hg5 hz5 st4
                have cp := st5.cell
                go_wp2_with fail
                refine (next_any _ _ st5.deck _ (by omega)).mono ?_
                rintro e w6 ⟨c, rfl, hr1, _, hd6, hg6, hz6⟩
                have hcj : c + 1 < j := by have := hr1 (by omega); omega
                have st6 := st5.next hd6 hg6
                clear hr1 cp hd6 hg6 hz6 st5
                have cp := st6.cell
                go_wp2_with fail
                refine (next_any _ _ st6.deck _ (by decide)).mono ?_
                rintro e w7 ⟨q, rfl, hr1, _, hd7, hg7, hz7⟩
                have hq : q < 3 := by have := hr1 (by decide); omega
                have st7 := st6.next hd7 hg7
                clear hr1 cp hd7 hg7 hz7 st6
                have hb1 : (0 : Int) ≤ ((a : Int) + 1 + c) % j := Int.emod_nonneg _ (by omega)
                have hb2 : ((a : Int) + 1 + c) % j < j := Int.emod_lt_of_pos _ (by omega)
                have hb3 : ((a : Int) + 1 + c) % j ≠ a := by
                  intro he
                  by_cases hs : a + 1 + c < j
                  · rw [Int.emod_eq_of_lt (by omega) (by omega)] at he; omega
                  · have : ((a : Int) + 1 + c) % j = (a : Int) + 1 + c - j := by
                      rw [← Int.sub_emod_right, Int.emod_eq_of_lt (by omega) (by omega)]
                    omega
                have HB := Lib.hid (And.intro hb1 (And.intro hb2 hb3))
                clear hb1 hb2 hb3
                go_wp2_with fail
                refine (add_st hD hD2 st7 (1 + q) (by omega) (by omega) a (((a : Int) + 1 + c) % j) (by omega) (by omega) (fun _ => HB.out) (by omega) _ (by omega)).mono ?_
                rintro e w8 ⟨rfl, ds8, st8, hd8⟩
                go_wp2_with fail
                go_roundg (gk - 1)
                case measure => omega
                case rel => exact ⟨ds8, by congr 1; omega, by omega, st8, hd8⟩
              · go_wp2_with fail
                refine (next_any _ _ st4.deck _ (by omega)).mono ?_
                rintro e w5 ⟨a, rfl, hr1, _, hd5, hg5, hz5⟩
                have haj : a < j := by have := hr1 (by omega); omega
                have st5 := st4.next hd5 hg5
                clear hr1 cp hd5 hg5 hz5 st4
                go_wp2_with fail
                refine (add_st hD hD2 st5 5 (by decide) (by decide) a (-1) (by omega) (by omega) (by omega) (by omega) 5 rfl).mono ?_
                rintro e w8 ⟨rfl, ds8, st8, hd8⟩
                go_wp2_with fail
                go_roundg (gk - 1)
                case measure => omega
                case rel => exact ⟨ds8, by congr 1; omega, by omega, st8, hd8⟩
              · go_wp2_with fail
                refine (next_any _ _ st4.deck _ (by omega)).mono ?_
                rintro e w5 ⟨a, rfl, hr1, _, hd5, hg5, hz5⟩
                have haj : a < j := by have := hr1 (by omega); omega
                have st5 := st4.next hd5 hg5
                clear hr1 cp hd5 hg5 hz5 st4
                go_wp2_with fail
                refine (add_st hD hD2 st5 6 (by decide) (by decide) a (-1) (by omega) (by omega) (by omega) (by omega) 6 rfl).mono ?_
                rintro e w8 ⟨rfl, ds8, st8, hd8⟩
                go_wp2_with fail
                go_roundg (gk - 1)
                case measure => omega
                case rel => exact ⟨ds8, by congr 1; omega, by omega, st8, hd8⟩
              · go_wp2_with fail
                go_roundg (gk - 1)
                case measure => omega
                case rel => exact ⟨ds, by congr 1; omega, by omega, st4, hd1l⟩
            · have cp := st.cell
              go_wp2_with fail
              refine (next_any _ _ st.deck _ (by decide)).mono ?_
              rintro e w4 ⟨r4, rfl, hr1, _, hd4, hgr4, hz4⟩
              have hr4 : r4 < 3 := by have := hr1 (by decide); omega
              have st4 := st.next hd4 hgr4
              clear hr1 cp hd4 hgr4 hz4 st
              go_wp2_with fail
              go_loopg [17] (1 + r4) (fun g i wr => ∃ (ds : List Dev), i = .int .i64 g ∧ g < 4 ∧ St w1 wr (w.heap.size + 1 + 1 + 1) (w.heap.size + 1 + 1 + 1) (w.heap.size + 1) w.heap.size bd D j ns ds ∧ 1 ≤ ds.length)
              case atStart => exact ⟨ds, by congr 1, by omega, st4, hd1l⟩
              case round =>
                clear st4 hd1l ds hpos hg4
                obtain ⟨ds, rfl, hg4, st, hd1l⟩ := hrel
                by_cases hpos : 0 < gk
                · have cp := st.cell
                  go_wp2_with fail
                  refine (next_any _ _ st.deck _ (by omega)).mono ?_
                  rintro e w5 ⟨a, rfl, hr1, _, hd5, hg5, hz5⟩
                  have haj : a < j := by have := hr1 (by omega); omega
                  have st5 := st.next hd5 hg5
                  clear hr1 cp hd5 hg5 hz5 st
                  go_wp2_with fail
                  refine (add_st hD hD2 st5 4 (by decide) (by decide) a (-1) (by omega) (by omega) (by omega) (by omega) 4 rfl).mono ?_
                  rintro e w8 ⟨rfl, ds8, st8, hd8⟩
                  go_wp2_with fail
                  go_roundg (gk - 1)
                  case measure => omega
                  case rel => exact ⟨ds8, by congr 1; omega, by omega, st8, hd8⟩
                · obtain ⟨⟨⟨A1, c1, A2, c2, hgn, ho1, ho2⟩, hgm, hgp, hdk, b1, b2, b3, b4⟩, hdok, hfew, hfrz⟩ := st
                  have hgrx : wr.heap[w.heap.size + 1 + 1]? = some (.cells #[.slice none 0 0, .slice none 0 0] 26 (0, 0)) := (hfrz.block _ (by omega) (by omega)).trans Hgr.out
                  have n0 : wr.cell? ⟨w.heap.size + 1 + 1 + 1, 0, none⟩ = some (.slice A1 ns.length c1) := by rw [cell_of_row wr _ 0 _ _ _ hgn]; rfl
                  have n1 : wr.cell? ⟨w.heap.size + 1 + 1 + 1, 1, none⟩ = some (.slice A2 ds.length c2) := by rw [cell_of_row wr _ 1 _ _ _ hgn]; rfl
                  have g0 : wr.cell? ⟨w.heap.size + 1 + 1, 0, none⟩ = some (.slice none 0 0) := by rw [cell_of_row wr _ 0 _ _ _ hgrx]; rfl
                  have g1 : wr.cell? ⟨w.heap.size + 1 + 1, 1, none⟩ = some (.slice none 0 0) := by rw [cell_of_row wr _ 1 _ _ _ hgrx]; rfl
                  have gf : ∀ o, wr.frozen? ⟨w.heap.size + 1 + 1, o, none⟩ = false := fun o => by simp [World.frozen?, hgrx]
                  have Hgn := Lib.hid hgn
                  have Hgrx := Lib.hid hgrx
                  clear hgn hgrx hgm hgp
                  go_wp2_with fail
                  have hW : ((wr.setCell ⟨w.heap.size + 1 + 1, 0, none⟩ (.slice A1 ns.length c1)).setCell ⟨w.heap.size + 1 + 1, 1, none⟩ (.slice A2 ds.length c2)).heap[w.heap.size + 1 + 1]? = some (.cells #[.slice A1 ns.length c1, .slice A2 ds.length c2] 26 (0, 0)) := by
                    simp [World.setCell, Array.getElem?_modify, Hgrx.out]
                  have hset : ∀ k, k ≠ w.heap.size + 1 + 1 → ((wr.setCell ⟨w.heap.size + 1 + 1, 0, none⟩ (.slice A1 ns.length c1)).setCell ⟨w.heap.size + 1 + 1, 1, none⟩ (.slice A2 ds.length c2)).heap[k]? = wr.heap[k]? := fun k hk => by
                    rw [Below.heap_setCell _ _ _ _ hk, Below.heap_setCell _ _ _ _ hk]
                  have hsz : ((wr.setCell ⟨w.heap.size + 1 + 1, 0, none⟩ (.slice A1 ns.length c1)).setCell ⟨w.heap.size + 1 + 1, 1, none⟩ (.slice A2 ds.length c2)).heap.size = wr.heap.size := by simp [World.setCell]
                  have hoo : ((wr.setCell ⟨w.heap.size + 1 + 1, 0, none⟩ (.slice A1 ns.length c1)).setCell ⟨w.heap.size + 1 + 1, 1, none⟩ (.slice A2 ds.length c2)).os = wr.os ∧ ((wr.setCell ⟨w.heap.size + 1 + 1, 0, none⟩ (.slice A1 ns.length c1)).setCell ⟨w.heap.size + 1 + 1, 1, none⟩ (.slice A2 ds.length c2)).tape = wr.tape ∧ ((wr.setCell ⟨w.heap.size + 1 + 1, 0, none⟩ (.slice A1 ns.length c1)).setCell ⟨w.heap.size + 1 + 1, 1, none⟩ (.slice A2 ds.length c2)).output = wr.output := ⟨rfl, rfl, rfl⟩
                  generalize ((wr.setCell ⟨w.heap.size + 1 + 1, 0, none⟩ (.slice A1 ns.length c1)).setCell ⟨w.heap.size + 1 + 1, 1, none⟩ (.slice A2 ds.length c2)) = W at *
                  have r0 : W.cell? ⟨w.heap.size + 1 + 1, 0, none⟩ = some (.slice A1 ns.length c1) := by rw [cell_of_row W _ 0 _ _ _ hW]; rfl
                  have r1 : W.cell? ⟨w.heap.size + 1 + 1, 1, none⟩ = some (.slice A2 ds.length c2) := by rw [cell_of_row W _ 1 _ _ _ hW]; rfl
                  refine bodyPost_ret (v := .agg #[.slice A1 ns.length c1, .slice A2 ds.length c2]) (by simp [results, Tryd.results19, go_sem, r0, r1]) rfl ?_
                  have hnl := Hnl.out
                  refine ⟨A1, c1, A2, c2, ns, ds, rfl, (ho1.mono (T := fun g => w.heap.size ≤ g) (fun g _ hg => by omega)).keep1 (fun k hk => hset k (by have := (ho1.type k hk).1; omega)),
                    (ho2.mono (T := fun g => w.heap.size ≤ g) (fun g _ hg => by omega)).keep1 (fun k hk => hset k (by have := (ho2.type k hk).1; omega)), hdk.keep (fun k hk => hset k (by omega)) (by rw [hsz]; exact Nat.le_refl _),
                    ⟨hoo.1.trans (hfrz.os.trans hfr.os), hoo.2.1.trans (hfrz.tape.trans hfr.tape), hoo.2.2.trans (hfrz.output.trans hfr.output), by rw [hsz]; exact Nat.le_trans hfr.size hfrz.size, fun k hk hne => ?_⟩, ⟨by omega, by omega, Hok.out, hd1l, hfew, by rw [hnl]; exact hdok⟩⟩
                  have hkb : k ≠ bd := fun e => hne (by rw [e])
                  rw [hset k (by omega), hfrz.block k (by omega) hkb]
                  exact hfr.block k hk hkb
end Go.Proofs.YtglhplddjjoggaaDoor

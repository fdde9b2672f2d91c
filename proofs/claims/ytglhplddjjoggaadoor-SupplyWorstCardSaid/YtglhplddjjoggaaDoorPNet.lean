/-
  Plain facts of networks: what follows if there is no error; distances and ways.
-/
import Derived.Test.YtglhplddjjoggaaDoorTrl
import Derived.Test.YtglhplddjjoggaaDoorNet2
import Derived.Deep.WholeRow
namespace Go.Proofs.YtglhplddjjoggaaDoor
open Go.RowKit

/-- What is known of the devices of a network without error. -/
structure DevsIn (n : Nat) (ds : List Dev) : Prop where
  few : n ≤ 32
  dev : ds.length ≤ 64
  ends : ∀ d ∈ ds, 1 ≤ d.kind ∧ d.kind ≤ 6 ∧ endsB d n = true

theorem devErr_zero {n : Int} {d : Dev} {u : List (List UInt8)} (h : devErr n d u = 0) : 1 ≤ d.kind ∧ d.kind ≤ 6 ∧ endsB d n = true := by
  unfold devErr at h
  split at h
  · cases h
  · split at h
    · cases h
    · split at h
      · cases h
      · split at h
        · cases h
        · rename_i h3 h4
          exact ⟨by omega, by omega, by simpa using h4⟩
theorem chkD_zero {n : Int} : ∀ {ds : List Dev} {u : List (List UInt8)}, chkD n ds u = 0 → ∀ d ∈ ds, 1 ≤ d.kind ∧ d.kind ≤ 6 ∧ endsB d n = true
  | [], _, _ => by simp
  | d :: ds, u, h => by
    simp only [chkD] at h
    split at h
    · rename_i h0
      intro x hx
      rcases List.mem_cons.1 hx with rfl | hx
      · exact devErr_zero h0
      · exact chkD_zero h x hx
    · rename_i h0
      exact absurd h h0
theorem chkN_zero {n : Int} {ds : List Dev} : ∀ {xs : List Node} {u : List (List UInt8)}, chkN n ds xs u = 0 → ∃ u', chkD n ds u' = 0
  | [], u, h => ⟨u, h⟩
  | x :: xs, u, h => by
    simp only [chkN] at h
    split at h
    · exact chkN_zero h
    · rename_i h0
      exact absurd h h0
theorem checkL_zero {ns : List Node} {ds : List Dev} (h : checkL ns ds = 0) : DevsIn ns.length ds := by
  unfold checkL at h
  split at h
  · cases h
  · rename_i hl
    obtain ⟨u, hu⟩ := chkN_zero h
    exact ⟨by omega, by omega, chkD_zero hu⟩

theorem endsB_parts {d : Dev} {n : Nat} (h : endsB d n = true) : 0 ≤ d.a ∧ d.a < n ∧ (joinsB d.kind = true → 0 ≤ d.b ∧ d.b < n ∧ d.b ≠ d.a) ∧ (joinsB d.kind = false → d.b = -1) := by
  unfold endsB at h
  simp only [Bool.and_eq_true, decide_eq_true_eq] at h
  refine ⟨h.1.1, h.1.2, fun hj => ?_, fun hj => ?_⟩
  · have := h.2
    rw [if_pos hj] at this
    simp at this
    exact ⟨this.1.1, this.1.2, this.2⟩
  · have := h.2
    rw [if_neg (by simp [hj])] at this
    simpa using this

theorem across_lt {n : Nat} {d : Dev} (h : endsB d n = true) (hn : 1 ≤ n) (v : Int) : acrossL d v < n := by
  obtain ⟨h1, h2, h3, _⟩ := endsB_parts h
  unfold acrossL
  split
  · omega
  · rename_i hj
    have := h3 (by simpa using hj)
    split
    · omega
    · split <;> omega
theorem across_back {n : Nat} {d : Dev} (h : endsB d n = true) {u v : Nat} (he : acrossL d u = v) : acrossL d v = u := by
  obtain ⟨h1, h2, h3, _⟩ := endsB_parts h
  unfold acrossL at he ⊢
  split at he
  · omega
  · rename_i hj
    rw [if_neg hj]
    have := h3 (by simpa using hj)
    split at he
    · rename_i ha
      have ha : d.a = u := by simpa using ha
      have hb : d.b = v := he
      rw [if_neg (by simp; omega), if_pos (by simp [hb]), ha]
    · split at he
      · rename_i hb
        have hb : d.b = u := by simpa using hb
        rw [if_pos (by simp [he]), hb]
      · omega

theorem mem_nbZ {zs : List (Dev × Bool)} {u v : Nat} : v ∈ nbZ zs u ↔ ∃ d, (d, true) ∈ zs ∧ acrossL d u = v := by
  unfold nbZ
  rw [List.mem_filterMap]
  constructor
  · rintro ⟨⟨d, b⟩, hz, h⟩
    split at h
    · rename_i hc
      injection h with h
      obtain ⟨h0, hb⟩ := hc
      simp only at h0 hb h
      subst hb
      exact ⟨d, hz, by omega⟩
    · cases h
  · rintro ⟨d, hz, h⟩
    exact ⟨(d, true), hz, by simp [h]⟩

theorem nbZ_symm {n : Nat} {ds : List Dev} (h : DevsIn n ds) (use : List Bool) (u v : Nat) (hv : v ∈ nbZ (ds.zip use) u) : u ∈ nbZ (ds.zip use) v := by
  obtain ⟨d, hz, he⟩ := mem_nbZ.1 hv
  exact mem_nbZ.2 ⟨d, hz, across_back (h.ends d (List.of_mem_zip hz).1).2.2 he⟩
theorem nbZ_lt {n : Nat} {ds : List Dev} (h : DevsIn n ds) (hn : 1 ≤ n) (use : List Bool) (u v : Nat) (hv : v ∈ nbZ (ds.zip use) u) : v < n := by
  obtain ⟨d, hz, he⟩ := mem_nbZ.1 hv
  have := across_lt (h.ends d (List.of_mem_zip hz).1).2.2 hn u
  omega

theorem dist_ok {n : Nat} {ds : List Dev} (h : DevsIn n ds) (hn : 1 ≤ n) (use : List Bool) (gs : List Nat) (hg : ∀ g ∈ gs, g < n) : PO.Dist 32 (nbZ (ds.zip use)) gs (distL ds use gs) := by
  have hf := h.few
  exact (PO.inv_bfs (fun v w hw => by have := nbZ_lt h hn use v w hw; omega) _ _ _ (PO.inv_start (fun g hm => by have := hg g hm; omega)) (Nat.le_refl _)).dist

/-- Nodes that have a distance are nodes of the network. -/
theorem dist_in {n : Nat} {ds : List Dev} (h : DevsIn n ds) (hn : 1 ≤ n) (use : List Bool) (gs : List Nat) (hg : ∀ g ∈ gs, g < n) (v : Nat) (hv : 0 ≤ PO.at_ (distL ds use gs) v) : v < n := by
  have hd := dist_ok h hn use gs hg
  by_cases h0 : PO.at_ (distL ds use gs) v = 0
  · exact hg v ((hd.zero v).1 h0)
  · obtain ⟨u, hu, _⟩ := hd.pred v (by omega)
    exact nbZ_lt h hn use u v hu
theorem PO.Dist.far {N M : Nat} {nb : Nat → List Nat} {gs : List Nat} {out : List Int} (h : PO.Dist N nb gs out) (hM : ∀ v, 0 ≤ PO.at_ out v → v < M) : ∀ (k v : Nat), PO.at_ out v = k → k < M := by
  have key : ∀ (k v : Nat), PO.at_ out v = k → ∃ l : List Nat, l.length = k + 1 ∧ l.Nodup ∧ ∀ x ∈ l, 0 ≤ PO.at_ out x ∧ PO.at_ out x ≤ k := by
    intro k
    induction k with
    | zero =>
      intro v hv
      refine ⟨[v], rfl, by simp, fun x hx => ?_⟩
      obtain rfl : x = v := by simpa using hx
      omega
    | succ k ih =>
      intro v hv
      obtain ⟨u, _, h0, e⟩ := h.pred v (by omega)
      obtain ⟨l, hl, hn, hm⟩ := ih u (by omega)
      refine ⟨v :: l, by simp [hl], List.nodup_cons.2 ⟨fun hv' => ?_, hn⟩, fun x hx => ?_⟩
      · have := hm v hv'; omega
      · rcases List.mem_cons.1 hx with rfl | hx
        · omega
        · have := hm x hx; omega
  intro k v hv
  obtain ⟨l, hl, hn, hm⟩ := key k v hv
  have := PO.pig M l hn (fun x hx => hM x (hm x hx).1)
  omega
theorem dist_far {n : Nat} {ds : List Dev} (h : DevsIn n ds) (hn : 1 ≤ n) (use : List Bool) (gs : List Nat) (hg : ∀ g ∈ gs, g < n) (v : Nat) : PO.at_ (distL ds use gs) v < n := by
  by_cases h0 : 0 ≤ PO.at_ (distL ds use gs) v
  · have := PO.Dist.far (dist_ok h hn use gs hg) (dist_in h hn use gs hg) (PO.at_ (distL ds use gs) v).toNat v (by omega)
    omega
  · omega

theorem stepZ_some {dist : List Int} {v : Nat} : ∀ {zs : List (Dev × Bool)} {k : Nat}, (∃ d u, (d, true) ∈ zs ∧ acrossL d v = (u : Nat) ∧ PO.at_ dist u = PO.at_ dist v - 1) → (stepZ dist v zs k).isSome = true
  | [], _, ⟨_, _, h, _⟩ => by simp at h
  | z :: zs, k, ⟨d, u, h, h1, h2⟩ => by
    simp only [stepZ]
    split
    · rfl
    · rename_i hn
      rcases List.mem_cons.1 h with rfl | h
      · exact absurd ⟨by simp [h1], rfl, by simp [h1, h2]⟩ hn
      · exact stepZ_some ⟨d, u, h, h1, h2⟩
theorem dist_step {n : Nat} {ds : List Dev} (h : DevsIn n ds) (hn : 1 ≤ n) (use : List Bool) (gs : List Nat) (hg : ∀ g ∈ gs, g < n) (v : Nat) (hv : 0 < PO.at_ (distL ds use gs) v) : (stepZ (distL ds use gs) v (ds.zip use) 0).isSome = true := by
  obtain ⟨u, hu, h0, e⟩ := (dist_ok h hn use gs hg).pred v hv
  obtain ⟨d, hz, he⟩ := mem_nbZ.1 (nbZ_symm h use u v hu)
  exact stepZ_some ⟨d, u, hz, he, by omega⟩

/-- the way between two nodes -/
def wayL (ns : List Node) (ds : List Dev) (use : List Bool) (a b : Int) : List Nat × Bool × Int :=
  if checkL ns ds ≠ 0 then ([], false, checkL ns ds)
  else if use.length ≠ ds.length then ([], false, 9)
  else if existsB ns.length a = false ∨ existsB ns.length b = false then ([], false, 7)
  else if PO.at_ (distL ds use [b.toNat]) a.toNat < 0 then ([], false, 0)
  else ((trailZ (distL ds use [b.toNat]) (ds.zip use) (PO.at_ (distL ds use [b.toNat]) a.toNat).toNat a.toNat).1, true, 0)

/-- What Way hands back. -/
def RetWay (w : World) (r : List Nat × Bool × Int) (e : Ending) (w' : World) : Prop :=
  ∃ A c, e = .returned (.tuple #[.slice A r.1.length c, .bool r.2.1, .int .i64 r.2.2]) ∧ OI w' (fun g => w.heap.size ≤ g) A c (nats r.1) ∧ Below w.heap.size w w'
theorem exists_pos {n : Nat} {a : Int} (h : existsB n a = true) : ∃ k : Nat, a = k ∧ k < n := by
  unfold existsB at h
  simp only [Bool.and_eq_true, decide_eq_true_eq] at h
  exact ⟨a.toNat, by omega, by omega⟩

set_option maxHeartbeats 2000000 in
set_option maxRecDepth 100000 in
theorem way_any (w : World) (h : TabC w) (S : Nat → Prop) (A1 A2 : Option Addr) (c1 c2 : Nat) (ns : List Node) (ds : List Dev) (hn : NetIn w S A1 A2 ns ds) (hl1 : ns.length ≤ 65536) (hl2 : ds.length ≤ 65536)
    (U : Option Addr) (cu : Nat) (use : List Bool) (hu : SB w S U use) (_hul : use.length ≤ 65536) (a b : Int) :
    Calls Tryd.prog 34 #[.agg #[.slice A1 ns.length c1, .slice A2 ds.length c2], .slice U use.length cu, .int .i64 a, .int .i64 b] w (RetWay w (wayL ns ds use a b)) := by
  have hb := (Below.refl w.heap.size w).alloc (Nat.le_refl _) (.cells #[.slice A1 ns.length c1, .slice A2 ds.length c2] 26)
  have HC := Lib.hid (check_any _ (h.below hb) S A1 A2 c1 c2 ns ds (hn.below hb) hl1 hl2)
  have HZ := @checkL_zero ns ds
  have HE := Lib.hid (show wayL ns ds use a b = if checkL ns ds ≠ 0 then ([], false, checkL ns ds) else if use.length ≠ ds.length then ([], false, 9) else if existsB ns.length a = false ∨ existsB ns.length b = false then ([], false, 7)
    else if PO.at_ (distL ds use [b.toNat]) a.toNat < 0 then ([], false, 0) else ((trailZ (distL ds use [b.toNat]) (ds.zip use) (PO.at_ (distL ds use [b.toNat]) a.toNat).toNat a.toNat).1, true, 0) from rfl)
  have HX := fun w => exists_any A1 A2 ns.length c1 ds.length c2 a w
  have HY := fun w => exists_any A1 A2 ns.length c1 ds.length c2 b w
  have Xa := @exists_pos ns.length a
  have Xb := @exists_pos ns.length b
  generalize checkL ns ds = ce at *
  generalize existsB ns.length a = ea at *
  generalize existsB ns.length b = eb at *
  have HX := Lib.hid HX
  have HY := Lib.hid HY
  have HZ := Lib.hid HZ
  have Xa := Lib.hid Xa
  have Xb := Lib.hid Xb
  by_cases h0 : (ce != 0) = true
  · have H0 := Lib.hid (show ¬ ce = 0 by simpa using h0)
    go_enter Tryd.func34, Tryd.ntmps34
    go_wp2_with (go_at_call 22; (with_reducible refine (HC.out).mono ?_); rintro e w1 ⟨rfl, hb1⟩)
    go_ret3
    rw [HE.out, if_pos H0.out]
    exact ⟨none, 0, rfl, OI.nil _ _, hb.trans (hb1.mono hb.size)⟩
  · have h0' : (ce != 0) = false := by simpa using h0
    have hz : ce = 0 := by simpa using h0
    have hD := HZ.out hz
    rw [if_neg (by simpa using hz)] at HE
    clear h0 hz HZ
    by_cases hlen : use.length = ds.length
    · have hlb : ((use.length : Int) != ds.length) = false := by simp [hlen]
      rw [if_neg (by simpa using hlen)] at HE
      have Hlen := Lib.hid hlen
      clear hlen
      go_enter Tryd.func34, Tryd.ntmps34
      go_wp2_with (fail)
      refine (HC.out).mono ?_
      rintro e w1 ⟨rfl, hb1⟩
      have hbA := hb.trans (hb1.mono hb.size)
      have Hbox := Lib.hid (box_at hb1)
      have n0 : w1.cell? ⟨w.heap.size, 0, none⟩ = some (.slice A1 ns.length c1) := by rw [cell_of_row w1 _ 0 _ _ _ Hbox.out]; rfl
      have n1 : w1.cell? ⟨w.heap.size, 1, none⟩ = some (.slice A2 ds.length c2) := by rw [cell_of_row w1 _ 1 _ _ _ Hbox.out]; rfl
      go_wp2_with (fail)
      refine (HX.out w1).mono ?_
      rintro e w2 ⟨rfl, hb2⟩
      have hbB := hbA.trans (hb2.mono hbA.size)
      have n0' : w2.cell? ⟨w.heap.size, 0, none⟩ = some (.slice A1 ns.length c1) := (hb2.cell (p := ⟨w.heap.size, 0, none⟩) (World.block_lt_of_cell? _ _ n0)).trans n0
      have n1' : w2.cell? ⟨w.heap.size, 1, none⟩ = some (.slice A2 ds.length c2) := (hb2.cell (p := ⟨w.heap.size, 1, none⟩) (World.block_lt_of_cell? _ _ n1)).trans n1
      clear n0 n1 Hbox
      cases ea
      · go_wp2_with (fail)
        go_ret3
        rw [HE.out, if_pos (by simp)]
        exact ⟨none, 0, rfl, OI.nil _ _, hbB⟩
      · go_wp2_with (fail)
        refine (HY.out w2).mono ?_
        rintro e w3 ⟨rfl, hb3⟩
        have hbC := hbB.trans (hb3.mono hbB.size)
        have n0 : w3.cell? ⟨w.heap.size, 0, none⟩ = some (.slice A1 ns.length c1) := (hb3.cell (p := ⟨w.heap.size, 0, none⟩) (World.block_lt_of_cell? _ _ n0')).trans n0'
        have n1 : w3.cell? ⟨w.heap.size, 1, none⟩ = some (.slice A2 ds.length c2) := (hb3.cell (p := ⟨w.heap.size, 1, none⟩) (World.block_lt_of_cell? _ _ n1')).trans n1'
        clear n0' n1'
        cases eb
        · go_wp2_with (fail)
          go_ret3
          rw [HE.out, if_pos (by simp)]
          exact ⟨none, 0, rfl, OI.nil _ _, hbC⟩
        · rw [if_neg (by decide)] at HE
          obtain ⟨ka, rfl, hka⟩ := Xa.out (by simp)
          obtain ⟨kb, rfl, hkb⟩ := Xb.out (by simp)
          simp only [Int.toNat_natCast] at HE
          have hn1 : 1 ≤ ns.length := by omega
          have hk32 : ka < 32 := by have := hD.few; omega
          have hgs : ∀ g ∈ [kb], g < ns.length := by simpa using hkb
          have hdl := (dist_ok hD hn1 use [kb] hgs).len
          have hfar := dist_far hD hn1 use [kb] hgs
          have hstep := dist_step hD hn1 use [kb] hgs
          have hacr : ∀ d ∈ ds, ∀ v, acrossL d v < 32 := fun d hd v => by have := across_lt (hD.ends d hd).2.2 hn1 v; have := hD.few; omega
          go_wp2_with (fail)
          have hbD := hbC.alloc hbC.size (.cells #[.int .i64 (kb : Int)] 3)
          refine (distances_any _ (fun _ => True) A1 A2 c1 c2 ns ds ((hn.below hbD).mono (fun _ _ _ => trivial)) hD.dev U cu use ((hu.keep (Kept.of_below hbD)).mono (fun _ _ _ => trivial)) Hlen.out (some ⟨w3.heap.size, 0, none⟩) 1 [kb]
            ((OI.lit w3 [(kb : Int)] (by simp [maxLen])).si.mono (fun _ _ _ => trivial)) (by simp) (fun g hg => by have := hgs g hg; have := hD.few; omega) hacr).mono ?_
          rintro e w5 ⟨rfl, hb5⟩
          have hbE := hbD.trans (hb5.mono (by have := hbC.size; simp; omega))
          have HD := Lib.hid hD
          have Hdl := Lib.hid hdl
          have Hfar := Lib.hid hfar
          have Hstep := Lib.hid hstep
          have Hacr := Lib.hid hacr
          clear hD hdl hfar hstep hacr hgs
          generalize distL ds use [kb] = dist at *
          have S1 := Lib.hid (arr_size Hdl.out)
          have S2 := Lib.hid (show (32 : Nat) = (ints dist).toArray.size by simp [ints, Hdl.out])
          obtain ⟨w6, hw6⟩ : ∃ w6, w6 = w5.alloc (.cells (ints dist).toArray 120) := ⟨_, rfl⟩
          have hbF : Below w.heap.size w w6 := by rw [hw6]; exact hbE.alloc hbE.size _
          have hArr : Arr w6 w5.heap.size dist := by rw [hw6]; exact heap_alloc_new w5 _
          obtain ⟨a1, _⟩ := hArr.at_ (k := ka) (by rw [Hdl.out]; exact hk32)
          rw [← at_get (by rw [Hdl.out]; exact hk32)] at a1
          have hb36 : Below w3.heap.size w3 w6 := by rw [hw6]; exact (((Below.refl w3.heap.size w3).alloc (Nat.le_refl _) _).trans (hb5.mono (by simp))).alloc (by have := hb5.size; simp at this; omega) _
          have m0 : w6.cell? ⟨w.heap.size, 0, none⟩ = some (.slice A1 ns.length c1) := (hb36.cell (p := ⟨w.heap.size, 0, none⟩) (World.block_lt_of_cell? _ _ n0)).trans n0
          have m1 : w6.cell? ⟨w.heap.size, 1, none⟩ = some (.slice A2 ds.length c2) := (hb36.cell (p := ⟨w.heap.size, 1, none⟩) (World.block_lt_of_cell? _ _ n1)).trans n1
          have HW6 := Lib.hid hw6
          clear hw6 n0 n1
          by_cases hneg : PO.at_ dist ka < 0
          · rw [if_pos hneg] at HE
            go_wp2_with (refine wpList_store_row rfl 120 (.tmp 12) (.tmp 42) rfl w5.heap.size _ rfl rfl _ _ (heap_alloc_new w5 _) S1.out S2.out (ints_all _) ?_; rw [World.setRow_alloc_new, ← HW6.out])
            go_ret3
            rw [HE.out]
            exact ⟨none, 0, rfl, OI.nil _ _, hbF⟩
          · rw [if_neg hneg] at HE
            have HT := Lib.hid (trail_any w6 (fun _ => True) A1 A2 c1 c2 ns ds ((hn.below hbF).mono (fun _ _ _ => trivial)) HD.out.dev U cu use ((hu.keep (Kept.of_below hbF)).mono (fun _ _ _ => trivial)) Hlen.out dist Hdl.out (fun v => by have := Hfar.out v; have := HD.out.few; omega) ka hk32 Hacr.out Hstep.out)
            go_wp2_with (first | (refine wpList_store_row rfl 120 (.tmp 12) (.tmp 42) rfl w5.heap.size _ rfl rfl _ _ (heap_alloc_new w5 _) S1.out S2.out (ints_all _) ?_; rw [World.setRow_alloc_new, ← HW6.out]) | (refine wpList_load_row rfl 120 (.tmp 12) rfl w5.heap.size rfl _ _ _ _ hArr Tryd.underlying120 rfl S1.out ?_) | fail)
            refine (HT.out).mono ?_
            rintro e w7 ⟨A7, c7, rfl, ho7, hb7⟩
            go_wp2_with (fail)
            go_ret3
            rw [HE.out]
            exact ⟨A7, c7, rfl, ho7.mono (T := fun g => w.heap.size ≤ g) (fun g _ hg => by have := hbF.size; show _ ≤ g; omega), hbF.trans (hb7.mono hbF.size)⟩
    · have hlb : ((use.length : Int) != ds.length) = true := by simp; omega
      go_enter Tryd.func34, Tryd.ntmps34
      go_wp2_with (fail)
      refine (HC.out).mono ?_
      rintro e w1 ⟨rfl, hb1⟩
      have hbA := hb.trans (hb1.mono hb.size)
      have Hbox := Lib.hid (box_at hb1)
      have n1 : w1.cell? ⟨w.heap.size, 1, none⟩ = some (.slice A2 ds.length c2) := by rw [cell_of_row w1 _ 1 _ _ _ Hbox.out]; rfl
      go_wp2_with (fail)
      go_ret3
      rw [HE.out, if_pos (by omega)]
      exact ⟨none, 0, rfl, OI.nil _ _, hbA⟩
end Go.Proofs.YtglhplddjjoggaaDoor

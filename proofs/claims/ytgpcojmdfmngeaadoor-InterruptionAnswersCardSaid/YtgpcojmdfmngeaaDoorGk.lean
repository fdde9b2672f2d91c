/-
  Plain facts of networks: what follows if there is no error; distances and ways.
  Plain facts: a network that was made has no error.
  Plain facts for the law NetworkAt: the devices at a node, and how often each is counted.
  Plain facts of ways: a way leads to its end, over devices that may be used, and passes no node twice.
  Walk: awake of the law package of networks; the state that the laws of networks share.
  The state that the laws of networks share: a deck and a network that was made.
  Slices of bools that a law owns.
-/
import Derived.Test.YtgpcojmdfmngeaaDoorGc
import Derived.Test.YtgpcojmdfmngeaaDoorGb
import Derived.Deep.WholeRow
namespace Go.Proofs.YtgpcojmdfmngeaaDoor
open Go.RowKit

/-- What is known of the devices of a network without error. -/
structure DevsIn (n : Nat) (ds : List Dev) : Prop where
  few : n ≤ 32
  dev : ds.length ≤ 64
  ends : ∀ d ∈ ds, 1 ≤ d.kind ∧ d.kind ≤ 6 ∧ endsB d n = true

theorem devErr_zero {n : Int} {d : Dev} {u : List (List UInt8)} (h : devErr n d u = 0) : 1 ≤ d.kind ∧ d.kind ≤ 6 ∧ endsB d n = true := by
  unfold devErr at h
  split at h
  · cases h
  · split at h
    · cases h
    · split at h
      · cases h
      · split at h
        · cases h
        · rename_i h3 h4
          exact ⟨by omega, by omega, by simpa using h4⟩
theorem chkD_zero {n : Int} : ∀ {ds : List Dev} {u : List (List UInt8)}, chkD n ds u = 0 → ∀ d ∈ ds, 1 ≤ d.kind ∧ d.kind ≤ 6 ∧ endsB d n = true
  | [], _, _ => by simp
  | d :: ds, u, h => by
    simp only [chkD] at h
    split at h
    · rename_i h0
      intro x hx
      rcases List.mem_cons.1 hx with rfl | hx
      · exact devErr_zero h0
      · exact chkD_zero h x hx
    · rename_i h0
      exact absurd h h0
theorem chkN_zero {n : Int} {ds : List Dev} : ∀ {xs : List Node} {u : List (List UInt8)}, chkN n ds xs u = 0 → ∃ u', chkD n ds u' = 0
  | [], u, h => ⟨u, h⟩
  | x :: xs, u, h => by
    simp only [chkN] at h
    split at h
    · exact chkN_zero h
    · rename_i h0
      exact absurd h h0
theorem checkL_zero {ns : List Node} {ds : List Dev} (h : checkL ns ds = 0) : DevsIn ns.length ds := by
  unfold checkL at h
  split at h
  · cases h
  · rename_i hl
    obtain ⟨u, hu⟩ := chkN_zero h
    exact ⟨by omega, by omega, chkD_zero hu⟩

theorem endsB_parts {d : Dev} {n : Nat} (h : endsB d n = true) : 0 ≤ d.a ∧ d.a < n ∧ (joinsB d.kind = true → 0 ≤ d.b ∧ d.b < n ∧ d.b ≠ d.a) ∧ (joinsB d.kind = false → d.b = -1) := by
  unfold endsB at h
  simp only [Bool.and_eq_true, decide_eq_true_eq] at h
  refine ⟨h.1.1, h.1.2, fun hj => ?_, fun hj => ?_⟩
  · have := h.2
    rw [if_pos hj] at this
    simp at this
    exact ⟨this.1.1, this.1.2, this.2⟩
  · have := h.2
    rw [if_neg (by simp [hj])] at this
    simpa using this

theorem across_lt {n : Nat} {d : Dev} (h : endsB d n = true) (hn : 1 ≤ n) (v : Int) : acrossL d v < n := by
  obtain ⟨h1, h2, h3, _⟩ := endsB_parts h
  unfold acrossL
  split
  · omega
  · rename_i hj
    have := h3 (by simpa using hj)
    split
    · omega
    · split <;> omega
theorem across_back {n : Nat} {d : Dev} (h : endsB d n = true) {u v : Nat} (he : acrossL d u = v) : acrossL d v = u := by
  obtain ⟨h1, h2, h3, _⟩ := endsB_parts h
  unfold acrossL at he ⊢
  split at he
  · omega
  · rename_i hj
    rw [if_neg hj]
    have := h3 (by simpa using hj)
    split at he
    · rename_i ha
      have ha : d.a = u := by simpa using ha
      have hb : d.b = v := he
      rw [if_neg (by simp; omega), if_pos (by simp [hb]), ha]
    · split at he
      · rename_i hb
        have hb : d.b = u := by simpa using hb
        rw [if_pos (by simp [he]), hb]
      · omega

theorem mem_nbZ {zs : List (Dev × Bool)} {u v : Nat} : v ∈ nbZ zs u ↔ ∃ d, (d, true) ∈ zs ∧ acrossL d u = v := by
  unfold nbZ
  rw [List.mem_filterMap]
  constructor
  · rintro ⟨⟨d, b⟩, hz, h⟩
    split at h
    · rename_i hc
      injection h with h
      obtain ⟨h0, hb⟩ := hc
      simp only at h0 hb h
      subst hb
      exact ⟨d, hz, by omega⟩
    · cases h
  · rintro ⟨d, hz, h⟩
    exact ⟨(d, true), hz, by simp [h]⟩

theorem nbZ_symm {n : Nat} {ds : List Dev} (h : DevsIn n ds) (use : List Bool) (u v : Nat) (hv : v ∈ nbZ (ds.zip use) u) : u ∈ nbZ (ds.zip use) v := by
  obtain ⟨d, hz, he⟩ := mem_nbZ.1 hv
  exact mem_nbZ.2 ⟨d, hz, across_back (h.ends d (List.of_mem_zip hz).1).2.2 he⟩
theorem nbZ_lt {n : Nat} {ds : List Dev} (h : DevsIn n ds) (hn : 1 ≤ n) (use : List Bool) (u v : Nat) (hv : v ∈ nbZ (ds.zip use) u) : v < n := by
  obtain ⟨d, hz, he⟩ := mem_nbZ.1 hv
  have := across_lt (h.ends d (List.of_mem_zip hz).1).2.2 hn u
  omega

theorem dist_ok {n : Nat} {ds : List Dev} (h : DevsIn n ds) (hn : 1 ≤ n) (use : List Bool) (gs : List Nat) (hg : ∀ g ∈ gs, g < n) : PO.Dist 32 (nbZ (ds.zip use)) gs (distL ds use gs) := by
  have hf := h.few
  exact (PO.inv_bfs (fun v w hw => by have := nbZ_lt h hn use v w hw; omega) _ _ _ (PO.inv_start (fun g hm => by have := hg g hm; omega)) (Nat.le_refl _)).dist

/-- Nodes that have a distance are nodes of the network. -/
theorem dist_in {n : Nat} {ds : List Dev} (h : DevsIn n ds) (hn : 1 ≤ n) (use : List Bool) (gs : List Nat) (hg : ∀ g ∈ gs, g < n) (v : Nat) (hv : 0 ≤ PO.at_ (distL ds use gs) v) : v < n := by
  have hd := dist_ok h hn use gs hg
  by_cases h0 : PO.at_ (distL ds use gs) v = 0
  · exact hg v ((hd.zero v).1 h0)
  · obtain ⟨u, hu, _⟩ := hd.pred v (by omega)
    exact nbZ_lt h hn use u v hu
theorem PO.Dist.far {N M : Nat} {nb : Nat → List Nat} {gs : List Nat} {out : List Int} (h : PO.Dist N nb gs out) (hM : ∀ v, 0 ≤ PO.at_ out v → v < M) : ∀ (k v : Nat), PO.at_ out v = k → k < M := by
  have key : ∀ (k v : Nat), PO.at_ out v = k → ∃ l : List Nat, l.length = k + 1 ∧ l.Nodup ∧ ∀ x ∈ l, 0 ≤ PO.at_ out x ∧ PO.at_ out x ≤ k := by
    intro k
    induction k with
    | zero =>
      intro v hv
      refine ⟨[v], rfl, by simp, fun x hx => ?_⟩
      obtain rfl : x = v := by simpa using hx
      omega
    | succ k ih =>
      intro v hv
      obtain ⟨u, _, h0, e⟩ := h.pred v (by omega)
      obtain ⟨l, hl, hn, hm⟩ := ih u (by omega)
      refine ⟨v :: l, by simp [hl], List.nodup_cons.2 ⟨fun hv' => ?_, hn⟩, fun x hx => ?_⟩
      · have := hm v hv'; omega
      · rcases List.mem_cons.1 hx with rfl | hx
        · omega
        · have := hm x hx; omega
  intro k v hv
  obtain ⟨l, hl, hn, hm⟩ := key k v hv
  have := PO.pig M l hn (fun x hx => hM x (hm x hx).1)
  omega
theorem dist_far {n : Nat} {ds : List Dev} (h : DevsIn n ds) (hn : 1 ≤ n) (use : List Bool) (gs : List Nat) (hg : ∀ g ∈ gs, g < n) (v : Nat) : PO.at_ (distL ds use gs) v < n := by
  by_cases h0 : 0 ≤ PO.at_ (distL ds use gs) v
  · have := PO.Dist.far (dist_ok h hn use gs hg) (dist_in h hn use gs hg) (PO.at_ (distL ds use gs) v).toNat v (by omega)
    omega
  · omega

theorem stepZ_some {dist : List Int} {v : Nat} : ∀ {zs : List (Dev × Bool)} {k : Nat}, (∃ d u, (d, true) ∈ zs ∧ acrossL d v = (u : Nat) ∧ PO.at_ dist u = PO.at_ dist v - 1) → (stepZ dist v zs k).isSome = true
  | [], _, ⟨_, _, h, _⟩ => by simp at h
  | z :: zs, k, ⟨d, u, h, h1, h2⟩ => by
    simp only [stepZ]
    split
    · rfl
    · rename_i hn
      rcases List.mem_cons.1 h with rfl | h
      · exact absurd ⟨by simp [h1], rfl, by simp [h1, h2]⟩ hn
      · exact stepZ_some ⟨d, u, h, h1, h2⟩
theorem dist_step {n : Nat} {ds : List Dev} (h : DevsIn n ds) (hn : 1 ≤ n) (use : List Bool) (gs : List Nat) (hg : ∀ g ∈ gs, g < n) (v : Nat) (hv : 0 < PO.at_ (distL ds use gs) v) : (stepZ (distL ds use gs) v (ds.zip use) 0).isSome = true := by
  obtain ⟨u, hu, h0, e⟩ := (dist_ok h hn use gs hg).pred v hv
  obtain ⟨d, hz, he⟩ := mem_nbZ.1 (nbZ_symm h use u v hu)
  exact stepZ_some ⟨d, u, hz, he, by omega⟩

/-- the way between two nodes -/
def wayL (ns : List Node) (ds : List Dev) (use : List Bool) (a b : Int) : List Nat × Bool × Int :=
  if checkL ns ds ≠ 0 then ([], false, checkL ns ds)
  else if use.length ≠ ds.length then ([], false, 9)
  else if existsB ns.length a = false ∨ existsB ns.length b = false then ([], false, 7)
  else if PO.at_ (distL ds use [b.toNat]) a.toNat < 0 then ([], false, 0)
  else ((trailZ (distL ds use [b.toNat]) (ds.zip use) (PO.at_ (distL ds use [b.toNat]) a.toNat).toNat a.toNat).1, true, 0)

/-- What Way hands back. -/
def RetWay (w : World) (r : List Nat × Bool × Int) (e : Ending) (w' : World) : Prop :=
  ∃ A c, e = .returned (.tuple #[.slice A r.1.length c, .bool r.2.1, .int .i64 r.2.2]) ∧ OI w' (fun g => w.heap.size ≤ g) A c (nats r.1) ∧ Below w.heap.size w w'
theorem exists_pos {n : Nat} {a : Int} (h : existsB n a = true) : ∃ k : Nat, a = k ∧ k < n := by
  unfold existsB at h
  simp only [Bool.and_eq_true, decide_eq_true_eq] at h
  exact ⟨a.toNat, by omega, by omega⟩

set_option maxHeartbeats 2000000 in
set_option maxRecDepth 100000 in
theorem way_any (w : World) (h : TabC w) (S : Nat → Prop) (A1 A2 : Option Addr) (c1 c2 : Nat) (ns : List Node) (ds : List Dev) (hn : NetIn w S A1 A2 ns ds) (hl1 : ns.length ≤ 65536) (hl2 : ds.length ≤ 65536)
    (U : Option Addr) (cu : Nat) (use : List Bool) (hu : SB w S U use) (_hul : use.length ≤ 65536) (a b : Int) :
    Calls Tryd.prog 28 #[.agg #[.slice A1 ns.length c1, .slice A2 ds.length c2], .slice U use.length cu, .int .i64 a, .int .i64 b] w (RetWay w (wayL ns ds use a b)) := by
  have hb := (Below.refl w.heap.size w).alloc (Nat.le_refl _) (.cells #[.slice A1 ns.length c1, .slice A2 ds.length c2] 26)
  have HC := Lib.hid (check_any _ (h.below hb) S A1 A2 c1 c2 ns ds (hn.below hb) hl1 hl2)
  have HZ := @checkL_zero ns ds
  have HE := Lib.hid (show wayL ns ds use a b = if checkL ns ds ≠ 0 then ([], false, checkL ns ds) else if use.length ≠ ds.length then ([], false, 9) else if existsB ns.length a = false ∨ existsB ns.length b = false then ([], false, 7)
    else if PO.at_ (distL ds use [b.toNat]) a.toNat < 0 then ([], false, 0) else ((trailZ (distL ds use [b.toNat]) (ds.zip use) (PO.at_ (distL ds use [b.toNat]) a.toNat).toNat a.toNat).1, true, 0) from rfl)
  have HX := fun w => exists_any A1 A2 ns.length c1 ds.length c2 a w
  have HY := fun w => exists_any A1 A2 ns.length c1 ds.length c2 b w
  have Xa := @exists_pos ns.length a
  have Xb := @exists_pos ns.length b
  generalize checkL ns ds = ce at *
  generalize existsB ns.length a = ea at *
  generalize existsB ns.length b = eb at *
  have HX := Lib.hid HX
  have HY := Lib.hid HY
  have HZ := Lib.hid HZ
  have Xa := Lib.hid Xa
  have Xb := Lib.hid Xb
  by_cases h0 : (ce != 0) = true
  · have H0 := Lib.hid (show ¬ ce = 0 by simpa using h0)
    go_enter Tryd.func28, Tryd.ntmps28
    go_wp2_with (go_at_call 16; (with_reducible refine (HC.out).mono ?_); rintro e w1 ⟨rfl, hb1⟩)
    go_ret3
    rw [HE.out, if_pos H0.out]
    exact ⟨none, 0, rfl, OI.nil _ _, hb.trans (hb1.mono hb.size)⟩
  · have h0' : (ce != 0) = false := by simpa using h0
    have hz : ce = 0 := by simpa using h0
    have hD := HZ.out hz
    rw [if_neg (by simpa using hz)] at HE
    clear h0 hz HZ
    by_cases hlen : use.length = ds.length
    · have hlb : ((use.length : Int) != ds.length) = false := by simp [hlen]
      rw [if_neg (by simpa using hlen)] at HE
      have Hlen := Lib.hid hlen
      clear hlen
      go_enter Tryd.func28, Tryd.ntmps28
      go_wp2_with (fail)
      refine (HC.out).mono ?_
      rintro e w1 ⟨rfl, hb1⟩
      have hbA := hb.trans (hb1.mono hb.size)
      have Hbox := Lib.hid (box_at hb1)
      have n0 : w1.cell? ⟨w.heap.size, 0, none⟩ = some (.slice A1 ns.length c1) := by rw [cell_of_row w1 _ 0 _ _ _ Hbox.out]; rfl
      have n1 : w1.cell? ⟨w.heap.size, 1, none⟩ = some (.slice A2 ds.length c2) := by rw [cell_of_row w1 _ 1 _ _ _ Hbox.out]; rfl
      go_wp2_with (fail)
      refine (HX.out w1).mono ?_
      rintro e w2 ⟨rfl, hb2⟩
      have hbB := hbA.trans (hb2.mono hbA.size)
      have n0' : w2.cell? ⟨w.heap.size, 0, none⟩ = some (.slice A1 ns.length c1) := (hb2.cell (p := ⟨w.heap.size, 0, none⟩) (World.block_lt_of_cell? _ _ n0)).trans n0
      have n1' : w2.cell? ⟨w.heap.size, 1, none⟩ = some (.slice A2 ds.length c2) := (hb2.cell (p := ⟨w.heap.size, 1, none⟩) (World.block_lt_of_cell? _ _ n1)).trans n1
      clear n0 n1 Hbox
      cases ea
      · go_wp2_with (fail)
        go_ret3
        rw [HE.out, if_pos (by simp)]
        exact ⟨none, 0, rfl, OI.nil _ _, hbB⟩
      · go_wp2_with (fail)
        refine (HY.out w2).mono ?_
        rintro e w3 ⟨rfl, hb3⟩
        have hbC := hbB.trans (hb3.mono hbB.size)
        have n0 : w3.cell? ⟨w.heap.size, 0, none⟩ = some (.slice A1 ns.length c1) := (hb3.cell (p := ⟨w.heap.size, 0, none⟩) (World.block_lt_of_cell? _ _ n0')).trans n0'
        have n1 : w3.cell? ⟨w.heap.size, 1, none⟩ = some (.slice A2 ds.length c2) := (hb3.cell (p := ⟨w.heap.size, 1, none⟩) (World.block_lt_of_cell? _ _ n1')).trans n1'
        clear n0' n1'
        cases eb
        · go_wp2_with (fail)
          go_ret3
          rw [HE.out, if_pos (by simp)]
          exact ⟨none, 0, rfl, OI.nil _ _, hbC⟩
        · rw [if_neg (by decide)] at HE
          obtain ⟨ka, rfl, hka⟩ := Xa.out (by simp)
          obtain ⟨kb, rfl, hkb⟩ := Xb.out (by simp)
          simp only [Int.toNat_natCast] at HE
          have hn1 : 1 ≤ ns.length := by omega
          have hk32 : ka < 32 := by have := hD.few; omega
          have hgs : ∀ g ∈ [kb], g < ns.length := by simpa using hkb
          have hdl := (dist_ok hD hn1 use [kb] hgs).len
          have hfar := dist_far hD hn1 use [kb] hgs
          have hstep := dist_step hD hn1 use [kb] hgs
          have hacr : ∀ d ∈ ds, ∀ v, acrossL d v < 32 := fun d hd v => by have := across_lt (hD.ends d hd).2.2 hn1 v; have := hD.few; omega
          go_wp2_with (fail)
          have hbD := hbC.alloc hbC.size (.cells #[.int .i64 (kb : Int)] 3)
          refine (distances_any _ (fun _ => True) A1 A2 c1 c2 ns ds ((hn.below hbD).mono (fun _ _ _ => trivial)) hD.dev U cu use ((hu.keep (Kept.of_below hbD)).mono (fun _ _ _ => trivial)) Hlen.out (some ⟨w3.heap.size, 0, none⟩) 1 [kb]
            ((OI.lit w3 [(kb : Int)] (by simp [maxLen])).si.mono (fun _ _ _ => trivial)) (by simp) (fun g hg => by have := hgs g hg; have := hD.few; omega) hacr).mono ?_
          rintro e w5 ⟨rfl, hb5⟩
          have hbE := hbD.trans (hb5.mono (by have := hbC.size; simp; omega))
          have HD := Lib.hid hD
          have Hdl := Lib.hid hdl
          have Hfar := Lib.hid hfar
          have Hstep := Lib.hid hstep
          have Hacr := Lib.hid hacr
          clear hD hdl hfar hstep hacr hgs
          generalize distL ds use [kb] = dist at *
          have S1 := Lib.hid (arr_size Hdl.out)
          have S2 := Lib.hid (show (32 : Nat) = (ints dist).toArray.size by simp [ints, Hdl.out])
          obtain ⟨w6, hw6⟩ : ∃ w6, w6 = w5.alloc (.cells (ints dist).toArray 120) := ⟨_, rfl⟩
          have hbF : Below w.heap.size w w6 := by rw [hw6]; exact hbE.alloc hbE.size _
          have hArr : Arr w6 w5.heap.size dist := by rw [hw6]; exact heap_alloc_new w5 _
          obtain ⟨a1, _⟩ := hArr.at_ (k := ka) (by rw [Hdl.out]; exact hk32)
          rw [← at_get (by rw [Hdl.out]; exact hk32)] at a1
          have hb36 : Below w3.heap.size w3 w6 := by rw [hw6]; exact (((Below.refl w3.heap.size w3).alloc (Nat.le_refl _) _).trans (hb5.mono (by simp))).alloc (by have := hb5.size; simp at this; omega) _
          have m0 : w6.cell? ⟨w.heap.size, 0, none⟩ = some (.slice A1 ns.length c1) := (hb36.cell (p := ⟨w.heap.size, 0, none⟩) (World.block_lt_of_cell? _ _ n0)).trans n0
          have m1 : w6.cell? ⟨w.heap.size, 1, none⟩ = some (.slice A2 ds.length c2) := (hb36.cell (p := ⟨w.heap.size, 1, none⟩) (World.block_lt_of_cell? _ _ n1)).trans n1
          have HW6 := Lib.hid hw6
          clear hw6 n0 n1
          by_cases hneg : PO.at_ dist ka < 0
          · rw [if_pos hneg] at HE
            go_wp2_with (refine wpList_store_row rfl 120 (.tmp 12) (.tmp 42) rfl w5.heap.size _ rfl rfl _ _ (heap_alloc_new w5 _) S1.out S2.out (ints_all _) ?_; rw [World.setRow_alloc_new, ← HW6.out])
            go_ret3
            rw [HE.out]
            exact ⟨none, 0, rfl, OI.nil _ _, hbF⟩
          · rw [if_neg hneg] at HE
            have HT := Lib.hid (trail_any w6 (fun _ => True) A1 A2 c1 c2 ns ds ((hn.below hbF).mono (fun _ _ _ => trivial)) HD.out.dev U cu use ((hu.keep (Kept.of_below hbF)).mono (fun _ _ _ => trivial)) Hlen.out dist Hdl.out (fun v => by have := Hfar.out v; have := HD.out.few; omega) ka hk32 Hacr.out Hstep.out)
            go_wp2_with (first | (refine wpList_store_row rfl 120 (.tmp 12) (.tmp 42) rfl w5.heap.size _ rfl rfl _ _ (heap_alloc_new w5 _) S1.out S2.out (ints_all _) ?_; rw [World.setRow_alloc_new, ← HW6.out]) | (refine wpList_load_row rfl 120 (.tmp 12) rfl w5.heap.size rfl _ _ _ _ hArr Tryd.underlying120 rfl S1.out ?_) | fail)
            refine (HT.out).mono ?_
            rintro e w7 ⟨A7, c7, rfl, ho7, hb7⟩
            go_wp2_with (fail)
            go_ret3
            rw [HE.out]
            exact ⟨A7, c7, rfl, ho7.mono (T := fun g => w.heap.size ≤ g) (fun g _ hg => by have := hbF.size; show _ ≤ g; omega), hbF.trans (hb7.mono hbF.size)⟩
    · have hlb : ((use.length : Int) != ds.length) = true := by simp; omega
      go_enter Tryd.func28, Tryd.ntmps28
      go_wp2_with (fail)
      refine (HC.out).mono ?_
      rintro e w1 ⟨rfl, hb1⟩
      have hbA := hb.trans (hb1.mono hb.size)
      have Hbox := Lib.hid (box_at hb1)
      have n1 : w1.cell? ⟨w.heap.size, 1, none⟩ = some (.slice A2 ds.length c2) := by rw [cell_of_row w1 _ 1 _ _ _ Hbox.out]; rfl
      go_wp2_with (fail)
      go_ret3
      rw [HE.out, if_pos (by omega)]
      exact ⟨none, 0, rfl, OI.nil _ _, hbA⟩
end Go.Proofs.YtgpcojmdfmngeaaDoor

namespace Go.Proofs.YtgpcojmdfmngeaaDoor
open Go.RowKit

def nmL (l : List UInt8) (k : Nat) : List UInt8 := l ++ [48 + UInt8.ofNat (k / 10), 48 + UInt8.ofNat (k % 10)]
theorem nm_list (l : List UInt8) (k : Nat) : (nm l k).data.toList = nmL l k := by simp [nm, nmL]
theorem nm_size (l : List UInt8) (k : Nat) : (nm l k).size = l.length + 2 := by simp [nm, ByteArray.size]

theorem digits_ok : ∀ k, k < 64 → okBytes (nmL [] k) false = true := by decide +kernel
theorem digits_inj : ∀ k, k < 64 → ∀ j, j < 64 → nmL [] k = nmL [] j → k = j := by decide +kernel
theorem letter_ok : ∀ k, k < 7 → 1 ≤ k → (letter k).length = 1 ∧ ∀ c ∈ letter k, fitsB (c.toNat : Int) true = true ∧ c ≠ 78 := by decide +kernel

theorem nm_cons (c : UInt8) (k : Nat) : nmL [c] k = c :: nmL [] k := rfl
theorem name_one (c : UInt8) (hc : fitsB (c.toNat : Int) true = true) (k : Nat) (hk : k < 64) : nameB (nm [c] k) = true := by
  unfold nameB
  rw [nm_list, nm_size, nm_cons]
  simp only [okBytes, hc, digits_ok k hk]
  rfl
theorem letter_one (k : Nat) (h1 : 1 ≤ k) (h6 : k ≤ 6) : ∃ c : UInt8, letter k = [c] ∧ fitsB (c.toNat : Int) true = true ∧ c ≠ 78 := by
  have h := letter_ok k (by omega) h1
  match hl : letter k with
  | [c] => exact ⟨c, rfl, h.2 c (by rw [hl]; simp)⟩
  | [] => rw [hl] at h; simp at h
  | _ :: _ :: _ => rw [hl] at h; simp at h
theorem nmL_inj {c d : UInt8} {i j : Nat} (hi : i < 64) (hj : j < 64) (h : nmL [c] i = nmL [d] j) : c = d ∧ i = j := by
  rw [nm_cons, nm_cons] at h
  injection h with h1 h2
  exact ⟨h1, digits_inj i hi j hj h2⟩

/-- The names of nodes and devices, from the last on. -/
def namesN (xs : List Node) : List (List UInt8) := (xs.map (fun x => x.name.data.toList)).reverse
def namesD (xs : List Dev) : List (List UInt8) := (xs.map (fun x => x.name.data.toList)).reverse

theorem chkD_app {n : Int} {ys : List Dev} : ∀ (xs : List Dev) (u : List (List UInt8)), (∀ i (h : i < xs.length), devErr n xs[i] (namesD (xs.take i) ++ u) = 0) → chkD n (xs ++ ys) u = chkD n ys (namesD xs ++ u)
  | [], u, _ => rfl
  | x :: xs, u, h => by
    have h0 : devErr n x u = 0 := h 0 (by simp)
    rw [List.cons_append, chkD, if_pos h0, chkD_app xs (x.name.data.toList :: u) (fun i hi => ?_)]
    · simp [namesD]
    · have := h (i + 1) (by simp; omega)
      simpa [namesD] using this
theorem chkN_app {n : Int} {ds : List Dev} {ys : List Node} : ∀ (xs : List Node) (u : List (List UInt8)), (∀ i (h : i < xs.length), nodeErr xs[i] (namesN (xs.take i) ++ u) = 0) → chkN n ds (xs ++ ys) u = chkN n ds ys (namesN xs ++ u)
  | [], u, _ => rfl
  | x :: xs, u, h => by
    have h0 : nodeErr x u = 0 := h 0 (by simp)
    rw [List.cons_append, chkN, if_pos h0, chkN_app xs (x.name.data.toList :: u) (fun i hi => ?_)]
    · simp [namesN]
    · have := h (i + 1) (by simp; omega)
      simpa [namesN] using this

theorem mem_namesN {xs : List Node} {s : List UInt8} (h : s ∈ namesN xs) : ∃ i, ∃ h : i < xs.length, xs[i].name.data.toList = s := by
  simp only [namesN, List.mem_reverse, List.mem_map] at h
  obtain ⟨x, hx, rfl⟩ := h
  obtain ⟨i, hi, rfl⟩ := List.getElem_of_mem hx
  exact ⟨i, hi, rfl⟩
theorem mem_namesD {xs : List Dev} {s : List UInt8} (h : s ∈ namesD xs) : ∃ i, ∃ h : i < xs.length, xs[i].name.data.toList = s := by
  simp only [namesD, List.mem_reverse, List.mem_map] at h
  obtain ⟨x, hx, rfl⟩ := h
  obtain ⟨i, hi, rfl⟩ := List.getElem_of_mem hx
  exact ⟨i, hi, rfl⟩

/-- What is known of one node, or device, that was made. -/
theorem NodesOK.at_ {ns : List Node} (h : NodesOK ns) {i : Nat} (hi : i < ns.length) : ns[i].name = nm [78] i ∧ 0 ≤ ns[i].cust ∧ ns[i].cust ≤ 50 ∧ 0 ≤ ns[i].comp ∧ ns[i].comp ≤ 2 := h i _ (List.getElem?_eq_getElem hi)
theorem DevsOK.at_ {k : Nat} {ds : List Dev} (h : DevsOK k ds) {j : Nat} (hj : j < ds.length) : ∃ c : UInt8, ds[j].name = nm [c] j ∧ c ≠ 78 ∧ fitsB (c.toNat : Int) true = true ∧ 1 ≤ ds[j].kind ∧ ds[j].kind ≤ 6 ∧ 0 ≤ ds[j].comp ∧ ds[j].comp ≤ 2 ∧ endsB ds[j] k = true := by
  obtain ⟨h1, h2, h3, h4, h5, h6, h7, h8, h9⟩ := h j _ (List.getElem?_eq_getElem hj)
  obtain ⟨c, hc, hf, hn⟩ := letter_one ds[j].kind.toNat (by omega) (by omega)
  rw [hc] at h1
  refine ⟨c, h1, hn, hf, h2, h3, h4, h5, ?_⟩
  unfold endsB
  rw [decide_eq_true h6, decide_eq_true h7]
  by_cases hk : ds[j].kind ≤ 3
  · have := h8 hk
    rw [if_pos (by simp [joinsB]; omega), decide_eq_true this.1, decide_eq_true this.2.1]
    simp [this.2.2]
  · rw [if_neg (by simp [joinsB]; omega), h9 (by omega)]
    rfl

theorem nodeErr_ok {ns : List Node} (h : NodesOK ns) (hl : ns.length ≤ 60) {i : Nat} (hi : i < ns.length) : nodeErr ns[i] (namesN (ns.take i) ++ []) = 0 := by
  obtain ⟨h1, h2, h3, h4, h5⟩ := h.at_ hi
  unfold nodeErr
  rw [if_neg (by rw [h1, name_one 78 (by decide) i (by omega)]; decide), if_neg, if_neg (by simp [companyB]; omega)]
  intro hm
  rw [List.append_nil] at hm
  obtain ⟨j, hj, e⟩ := mem_namesN hm
  have hj' : j < i := by simp at hj; omega
  rw [List.getElem_take, (h.at_ (show j < ns.length by omega)).1, h1, nm_list, nm_list] at e
  have := (nmL_inj (by omega) (by omega) e).2
  omega
theorem devErr_ok {ns : List Node} {ds : List Dev} (hn : NodesOK ns) (hl : ns.length ≤ 60) (h : DevsOK ns.length ds) (hd : ds.length ≤ 60) {j : Nat} (hj : j < ds.length) : devErr ns.length ds[j] (namesD (ds.take j) ++ namesN ns) = 0 := by
  obtain ⟨c, h1, h2, h3, h4, h5, h6, h7, h8⟩ := h.at_ hj
  unfold devErr
  rw [if_neg (by rw [h1, name_one c h3 j (by omega)]; decide), if_neg, if_neg (by omega), if_neg (by rw [h8]; decide), if_neg (by simp [companyB]; omega)]
  intro hm
  rw [h1, nm_list] at hm
  rcases List.mem_append.1 hm with hm | hm
  · obtain ⟨i, hi, e⟩ := mem_namesD hm
    have hi' : i < j := by simp at hi; omega
    obtain ⟨c', h1', _⟩ := h.at_ (show i < ds.length by omega)
    rw [List.getElem_take, h1', nm_list] at e
    have := (nmL_inj (by omega) (by omega) e).2
    omega
  · obtain ⟨i, hi, e⟩ := mem_namesN hm
    rw [(hn.at_ hi).1, nm_list] at e
    exact h2 (nmL_inj (by omega) (by omega) e).1.symm

theorem good_check {K D : Nat} {ns : List Node} {ds : List Dev} (h : GoodNet K D ns ds) (hK : K ≤ 32) (hD : D ≤ 60) : checkL ns ds = 0 := by
  have h1 := h.most
  have h2 := h.few
  unfold checkL
  rw [if_neg (by omega)]
  have e1 := chkN_app (n := ns.length) (ds := ds) (ys := []) ns [] (fun i hi => nodeErr_ok h.nodes (by omega) hi)
  have e2 := chkD_app (n := ns.length) (ys := []) ds (namesN ns ++ []) (fun i hi => by rw [List.append_nil]; exact devErr_ok h.nodes (by omega) h.devs (by omega) hi)
  rw [List.append_nil] at e1 e2
  rw [e1, chkN, List.append_nil]
  rw [List.append_nil] at e2
  rw [e2]
  rfl
theorem good_names {K D : Nat} {ns : List Node} {ds : List Dev} (h : GoodNet K D ns ds) : (∀ x ∈ ns, x.name.size ≤ maxLen) ∧ ∀ d ∈ ds, d.name.size ≤ maxLen := by
  constructor
  · intro x hx
    obtain ⟨i, hi, rfl⟩ := List.getElem_of_mem hx
    rw [(h.nodes.at_ hi).1, nm_size]; simp [maxLen]
  · intro x hx
    obtain ⟨i, hi, rfl⟩ := List.getElem_of_mem hx
    obtain ⟨c, h1, _⟩ := h.devs.at_ hi
    rw [h1, nm_size]; simp [maxLen]
end Go.Proofs.YtgpcojmdfmngeaaDoor

namespace Go.Proofs.YtgpcojmdfmngeaaDoor
open Go.RowKit

theorem mem_atFrom {v y : Int} : ∀ {ds : List Dev} {k : Nat}, y ∈ atFrom v ds k ↔ ∃ j, ∃ h : j < ds.length, y = ((k + j : Nat) : Int) ∧ isL ds[j] v = true
  | [], k => by simp [atFrom]
  | d :: ds, k => by
    have ih := @mem_atFrom v y ds (k + 1)
    simp only [atFrom]
    constructor
    · intro h
      split at h
      · rename_i hd
        rcases List.mem_cons.1 h with rfl | h
        · exact ⟨0, by simp, by simp, by simpa using hd⟩
        · obtain ⟨j, hj, e, hi⟩ := ih.1 h
          exact ⟨j + 1, by simp; omega, by rw [e]; omega, by simpa using hi⟩
      · obtain ⟨j, hj, e, hi⟩ := ih.1 h
        exact ⟨j + 1, by simp; omega, by rw [e]; omega, by simpa using hi⟩
    · rintro ⟨j, hj, e, hi⟩
      cases j with
      | zero =>
        rw [if_pos (by simpa using hi)]
        simp [e]
      | succ j =>
        have : y ∈ atFrom v ds (k + 1) := ih.2 ⟨j, by simpa using hj, by rw [e]; omega, by simpa using hi⟩
        split
        · exact List.mem_cons_of_mem _ this
        · exact this
theorem atFrom_sorted (v : Int) : ∀ (ds : List Dev) (k : Nat), (atFrom v ds k).Pairwise (· < ·)
  | [], _ => List.Pairwise.nil
  | d :: ds, k => by
    simp only [atFrom]
    split
    · refine List.pairwise_cons.2 ⟨fun y hy => ?_, atFrom_sorted v ds (k + 1)⟩
      obtain ⟨j, hj, e, _⟩ := mem_atFrom.1 hy
      omega
    · exact atFrom_sorted v ds (k + 1)

/-- how often a device is at nodes below v -/
def cntL (d : Dev) (v : Nat) : Int := (if d.a < v then 1 else 0) + (if joinsB d.kind = true ∧ d.b < v then 1 else 0)
/-- the counts: all nodes below v, and of v's devices those in l -/
def csL (ds : List Dev) (v : Nat) (l : List Int) : List Int := ds.mapIdx (fun x d => cntL d v + if (x : Int) ∈ l then 1 else 0)
theorem csL_len (ds : List Dev) (v : Nat) (l : List Int) : (csL ds v l).length = ds.length := by simp [csL]
theorem csL_at (ds : List Dev) (v : Nat) (l : List Int) (x : Nat) (h : x < (csL ds v l).length) : (csL ds v l)[x] = cntL (ds[x]'(by rw [csL_len] at h; exact h)) v + if (x : Int) ∈ l then 1 else 0 := by simp [csL]
theorem cntL_bd (d : Dev) (v : Nat) : 0 ≤ cntL d v ∧ cntL d v ≤ 2 := by
  unfold cntL
  split <;> split <;> omega
theorem csL_bd (ds : List Dev) (v : Nat) (l : List Int) (x : Nat) (h : x < (csL ds v l).length) : 0 ≤ (csL ds v l)[x] ∧ (csL ds v l)[x] ≤ 3 := by
  have := csL_at ds v l x h
  have := cntL_bd (ds[x]'(by rw [csL_len] at h; exact h)) v
  split at * <;> omega
theorem atFrom_len (v : Int) : ∀ (ds : List Dev) (k : Nat), (atFrom v ds k).length ≤ ds.length
  | [], _ => by simp [atFrom]
  | d :: ds, k => by
    have := atFrom_len v ds (k + 1)
    simp only [atFrom]
    split <;> simp <;> omega
theorem csL_set (ds : List Dev) (v : Nat) (l : List Int) (x : Nat) (hx : x < ds.length) (hn : (x : Int) ∉ l) : (csL ds v l).set x ((csL ds v l)[x]'(by rw [csL_len]; exact hx) + 1) = csL ds v (l ++ [(x : Int)]) := by
  apply List.ext_getElem
  · simp [csL]
  · intro i h1 h2
    rw [List.getElem_set]
    have a2 := csL_at ds v (l ++ [(x : Int)]) i h2
    split
    · rename_i e
      subst e
      have a1 := csL_at ds v l x (by rw [csL_len]; exact hx)
      rw [if_neg hn] at a1
      rw [if_pos (by simp)] at a2
      omega
    · rename_i hne
      have a1 := csL_at ds v l i (by simpa using h1)
      have : (i : Int) ∈ l ++ [(x : Int)] ↔ (i : Int) ∈ l := by simp; omega
      simp only [this] at a2
      exact a1.trans a2.symm
theorem csL_next {n : Nat} {ds : List Dev} (h : DevsIn n ds) (v : Nat) (l : List Int) (hl : l = atFrom v ds 0) : csL ds v l = csL ds (v + 1) [] := by
  apply List.ext_getElem
  · simp [csL]
  · intro x h1 h2
    rw [csL_at, csL_at]
    have hx : x < ds.length := by rw [csL_len] at h1; exact h1
    have hm : (x : Int) ∈ l ↔ isL ds[x] v = true := by
      rw [hl, mem_atFrom]
      constructor
      · rintro ⟨j, hj, e, hi⟩
        obtain rfl : j = x := by omega
        exact hi
      · intro hi; exact ⟨x, hx, by simp, hi⟩
    simp only [hm]
    obtain ⟨e1, e2, e3, e4⟩ := endsB_parts (h.ends ds[x] (List.getElem_mem hx)).2.2
    unfold cntL isL
    by_cases hj : joinsB ds[x].kind = true
    · have := e3 hj
      simp only [hj, Bool.true_and, Bool.or_eq_true, beq_iff_eq, true_and]
      simp
      repeat' split
      all_goals omega
    · have hj : joinsB ds[x].kind = false := by simpa using hj
      simp only [hj, Bool.false_and, Bool.or_false, beq_iff_eq]
      simp
      repeat' split
      all_goals omega
theorem csL_zero {n : Nat} {ds : List Dev} (h : DevsIn n ds) : List.replicate ds.length 0 = csL ds 0 [] := by
  apply List.ext_getElem
  · simp [csL]
  · intro x h1 h2
    rw [csL_at]
    have hx : x < ds.length := by rw [csL_len] at h2; exact h2
    obtain ⟨e1, e2, e3, e4⟩ := endsB_parts (h.ends ds[x] (List.getElem_mem hx)).2.2
    unfold cntL
    by_cases hj : joinsB ds[x].kind = true
    · have := e3 hj
      simp [hj]
      repeat' split
      all_goals omega
    · simp [hj]
      omega
theorem csL_end {n : Nat} {ds : List Dev} (h : DevsIn n ds) (x : Nat) (hx : x < ds.length) : (csL ds n [])[x]'(by rw [csL_len]; exact hx) = if joinsB ds[x].kind = true then 2 else 1 := by
  rw [csL_at]
  obtain ⟨e1, e2, e3, e4⟩ := endsB_parts (h.ends ds[x] (List.getElem_mem hx)).2.2
  unfold cntL
  by_cases hj : joinsB ds[x].kind = true
  · have := e3 hj
    rw [if_pos e2, if_pos ⟨hj, this.2.1⟩]
    simp [hj]
  · rw [if_pos e2, if_neg (fun h => hj h.1)]
    simp [hj]
/-- What is behind a device at a node. -/
theorem at_across {n : Nat} {d : Dev} (h : endsB d n = true) (v : Nat) (hi : isL d v = true) : joinsB d.kind = decide (0 ≤ acrossL d v) ∧ (0 ≤ acrossL d v → acrossL d (acrossL d v) = v) := by
  obtain ⟨e1, e2, e3, e4⟩ := endsB_parts h
  by_cases hj : joinsB d.kind = true
  · have := e3 hj
    have hp : 0 ≤ acrossL d v := by
      unfold acrossL
      rw [if_neg (by simp [hj])]
      unfold isL at hi
      rw [hj] at hi
      simp at hi
      split
      · omega
      · rename_i ha
        simp at ha
        rw [if_pos (by simp; omega)]
        exact e1
    refine ⟨by rw [hj, decide_eq_true hp], fun _ => ?_⟩
    have := across_back h (u := v) (v := (acrossL d v).toNat) (by omega)
    rw [show ((acrossL d v).toNat : Int) = acrossL d v by omega] at this
    exact this
  · have hj : joinsB d.kind = false := by simpa using hj
    have hp : acrossL d v = -1 := by unfold acrossL; rw [if_pos hj]
    rw [hp]
    exact ⟨by rw [hj]; rfl, fun h => by omega⟩
end Go.Proofs.YtgpcojmdfmngeaaDoor

namespace Go.Proofs.YtgpcojmdfmngeaaDoor
open Go.RowKit

theorem stepZ_spec {dist : List Int} {v i u : Nat} : ∀ {zs : List (Dev × Bool)} {k : Nat}, stepZ dist v zs k = some (i, u) → k ≤ i ∧ ∃ d, zs[i - k]? = some (d, true) ∧ acrossL d v = u ∧ PO.at_ dist u = PO.at_ dist v - 1
  | [], k, h => by simp [stepZ] at h
  | z :: zs, k, h => by
    simp only [stepZ] at h
    split at h
    · rename_i hc
      injection h with h
      injection h with h1 h2
      subst h1 h2
      refine ⟨Nat.le_refl _, z.1, by rw [Nat.sub_self]; obtain ⟨d, b⟩ := z; simp at hc ⊢; exact hc.2.1, by omega, hc.2.2⟩
    · obtain ⟨h1, d, h2, h3⟩ := stepZ_spec h
      refine ⟨by omega, d, ?_, h3⟩
      rw [show i - k = (i - (k + 1)) + 1 by omega]
      simpa using h2
theorem stepZ_at {dist : List Int} {v i u : Nat} {ds : List Dev} {use : List Bool} (hl : use.length = ds.length) (h : stepZ dist v (ds.zip use) 0 = some (i, u)) : ∃ (h1 : i < ds.length) (h2 : i < use.length), use[i] = true ∧ acrossL ds[i] v = u ∧ PO.at_ dist u = PO.at_ dist v - 1 := by
  obtain ⟨_, d, h1, h2, h3⟩ := stepZ_spec h
  rw [Nat.sub_zero] at h1
  have hi := (List.getElem?_eq_some_iff.1 h1).1
  have hi' : i < ds.length := by simp at hi; omega
  have e := (List.getElem?_eq_some_iff.1 h1).2
  rw [List.getElem_zip] at e
  injection e with e1 e2
  exact ⟨hi', by omega, e2, by rw [e1]; exact h2, h3⟩
theorem trailZ_len {dist : List Int} {zs : List (Dev × Bool)} (hp : ∀ v, 0 < PO.at_ dist v → (stepZ dist v zs 0).isSome = true) : ∀ (f v : Nat), PO.at_ dist v = f → (trailZ dist zs f v).1.length = f
  | 0, v, _ => rfl
  | f + 1, v, h => by
    have hs := hp v (by omega)
    obtain ⟨⟨i, u⟩, hiu⟩ := Option.isSome_iff_exists.1 hs
    simp only [trailZ, hiu]
    obtain ⟨_, d, _, _, h3⟩ := stepZ_spec hiu
    have := trailZ_len hp f u (by omega)
    simp [this]

/-- The way in a network without error. -/
theorem wayL_ok {ns : List Node} {ds : List Dev} {use : List Bool} {a b : Nat} (hc : checkL ns ds = 0) (hl : use.length = ds.length) (ha : a < ns.length) (hb : b < ns.length) :
    wayL ns ds use a b = if PO.at_ (distL ds use [b]) a < 0 then ([], false, 0) else ((trailZ (distL ds use [b]) (ds.zip use) (PO.at_ (distL ds use [b]) a).toNat a).1, true, 0) := by
  unfold wayL
  rw [if_neg (by simpa using hc), if_neg (by simpa using hl), if_neg]
  · simp only [Int.toNat_natCast]
  · simp [existsB]; omega
theorem way_len {ns : List Node} {ds : List Dev} {use : List Bool} {a b : Nat} (hc : checkL ns ds = 0) (ha : a < ns.length) (hb : b < ns.length) (h : 0 ≤ PO.at_ (distL ds use [b]) a) :
    ((trailZ (distL ds use [b]) (ds.zip use) (PO.at_ (distL ds use [b]) a).toNat a).1.length : Int) = PO.at_ (distL ds use [b]) a := by
  have hD := checkL_zero hc
  have := trailZ_len (dist_step hD (by omega) use [b] (by simpa using hb)) (PO.at_ (distL ds use [b]) a).toNat a (by omega)
  rw [this]; omega
theorem way_back {ns : List Node} {ds : List Dev} {use : List Bool} {a b : Nat} (hc : checkL ns ds = 0) (ha : a < ns.length) (hb : b < ns.length) : PO.at_ (distL ds use [b]) a = PO.at_ (distL ds use [a]) b := by
  have hD := checkL_zero hc
  exact PO.Dist.symm (nbZ_symm hD use) (dist_ok hD (by omega) use [b] (by simpa using hb)) (dist_ok hD (by omega) use [a] (by simpa using ha))
theorem way_more {ns : List Node} {ds : List Dev} {use more : List Bool} {a b : Nat} (hc : checkL ns ds = 0) (ha : a < ns.length) (hb : b < ns.length) (hm : ∀ d, (d, true) ∈ ds.zip use → (d, true) ∈ ds.zip more) (h : 0 ≤ PO.at_ (distL ds use [b]) a) :
    0 ≤ PO.at_ (distL ds more [b]) a ∧ PO.at_ (distL ds more [b]) a ≤ PO.at_ (distL ds use [b]) a := by
  have hD := checkL_zero hc
  refine PO.Dist.mono (fun u v hv => ?_) (dist_ok hD (by omega) use [b] (by simpa using hb)) (dist_ok hD (by omega) more [b] (by simpa using hb)) a h
  obtain ⟨d, hz, he⟩ := mem_nbZ.1 hv
  exact mem_nbZ.2 ⟨d, hm d hz, he⟩
theorem way_self {ns : List Node} {ds : List Dev} {use : List Bool} {a : Nat} (hc : checkL ns ds = 0) (ha : a < ns.length) : PO.at_ (distL ds use [a]) a = 0 := by
  have hD := checkL_zero hc
  exact ((dist_ok hD (by omega) use [a] (by simpa using ha)).zero a).2 (by simp)
theorem zip_more {ds : List Dev} {use more : List Bool} (h1 : use.length = ds.length) (h2 : more.length = ds.length) (h : ∀ i (h1 : i < use.length) (h2 : i < more.length), use[i] = true → more[i] = true) (d : Dev) (hd : (d, true) ∈ ds.zip use) : (d, true) ∈ ds.zip more := by
  obtain ⟨i, hi, e⟩ := List.getElem_of_mem hd
  have hi' : i < ds.length := by simp at hi; omega
  rw [List.getElem_zip] at e
  injection e with e1 e2
  have := h i (by omega) (by omega) e2
  rw [List.mem_iff_getElem]
  exact ⟨i, by simp; omega, by rw [List.getElem_zip, e1, this]⟩
end Go.Proofs.YtgpcojmdfmngeaaDoor

namespace Go.Proofs.YtgpcojmdfmngeaaDoor
open Go.RowKit
set_option maxHeartbeats 400000
set_option maxRecDepth 100000

/-- A call hands back true, and nothing that was there has changed. -/
def RetT (w : World) (e : Ending) (w' : World) : Prop := e = .returned (.bool true) ∧ Below w.heap.size w w'

theorem SV.block {w : World} {b : Nat} {xs : List Value} {t : TypeId} {fz : Nat × Nat} (h : w.heap[b]? = some (.cells xs.toArray t fz)) : SV w (fun _ => True) (some ⟨b, 0, none⟩) xs := fun _ =>
  ⟨b, 0, rfl, trivial, (Array.getElem?_eq_some_iff.1 h).1, fun j u hj => by rw [cell_of_row w b (0 + j) _ _ _ h]; simpa using hj⟩

def awN : List Node := [⟨⟨#[65]⟩, 0, 0⟩, ⟨⟨#[66]⟩, 0, 0⟩]
def awD : List Dev := [⟨⟨#[76, 49]⟩, 1, 0, 1, 0⟩, ⟨⟨#[76, 50]⟩, 1, 1, 0, 0⟩]
theorem aw_check : checkL awN awD = 0 := by decide +kernel
theorem aw_way : wayL awN awD [true, true] 0 1 = ([0], true, 0) := by decide +kernel
theorem aw_dev : devL awN awD ⟨#[76, 50]⟩ = 1 := by decide +kernel

theorem awake03 (w : World) (h : TabC w) : Calls Tryd.prog 11 #[] w (RetT w) := by
  go_enter Tryd.func11, Tryd.ntmps11
  go_wp2_with (fail)
  obtain ⟨e1, e2, e3, e4, ez, eb⟩ := four w (.cells (nodesV awN).toArray 104) (.cells (devsV awD).toArray 78) (.cells #[.slice (some ⟨w.heap.size, 0, none⟩) 2 2, .slice (some ⟨w.heap.size + 1, 0, none⟩) 2 2] 26) (.cells (bools [true, true]).toArray 4)
  obtain ⟨W, hW⟩ : ∃ W, W = ((((w.alloc (.cells (nodesV awN).toArray 104)).alloc (.cells (devsV awD).toArray 78)).alloc (.cells #[.slice (some ⟨w.heap.size, 0, none⟩) 2 2, .slice (some ⟨w.heap.size + 1, 0, none⟩) 2 2] 26)).alloc (.cells (bools [true, true]).toArray 4)) := ⟨_, rfl⟩
  rw [← hW] at e1 e2 e3 e4 ez eb
  have hin : NetIn W (fun _ => True) (some ⟨w.heap.size, 0, none⟩) (some ⟨w.heap.size + 1, 0, none⟩) awN awD := ⟨SV.block e1, SV.block e2, by decide, by decide⟩
  have hu : SB W (fun _ => True) (some ⟨w.heap.size + 1 + 1 + 1, 0, none⟩) [true, true] := SV.block e4
  have HWay := way_any W (h.below eb) _ _ _ 2 2 awN awD hin (by decide) (by decide) _ 2 [true, true] hu (by decide) 0 1
  rw [aw_way] at HWay
  have n0 : W.cell? ⟨w.heap.size + 1 + 1, 0, none⟩ = some (.slice (some ⟨w.heap.size, 0, none⟩) 2 2) := by rw [cell_of_row W _ 0 _ _ _ e3]; rfl
  have n1 : W.cell? ⟨w.heap.size + 1 + 1, 1, none⟩ = some (.slice (some ⟨w.heap.size + 1, 0, none⟩) 2 2) := by rw [cell_of_row W _ 1 _ _ _ e3]; rfl
  show Calls _ _ _ (((((w.alloc (.cells (nodesV awN).toArray 104)).alloc (.cells (devsV awD).toArray 78)).alloc (.cells #[.slice (some ⟨w.heap.size, 0, none⟩) 2 2, .slice (some ⟨w.heap.size + 1, 0, none⟩) 2 2] 26)).alloc (.cells (bools [true, true]).toArray 4))) _
  rw [← hW]
  clear hW e1 e2 e3 e4 ez
  refine HWay.mono ?_
  rintro e w1 ⟨A, c, rfl, ho1, hb1⟩
  clear HWay
  have hb1' := eb.trans (hb1.mono eb.size)
  obtain ⟨g, off, rfl, _, _, q0, _⟩ := ho1.at_ (k := 0) (by decide)
  have q0' : w1.cell? ⟨g, off, none⟩ = some (.int .i64 0) := q0
  have m0 : w1.cell? ⟨w.heap.size + 1 + 1, 0, none⟩ = some (.slice (some ⟨w.heap.size, 0, none⟩) 2 2) := (hb1.cell (p := ⟨w.heap.size + 1 + 1, 0, none⟩) (World.block_lt_of_cell? _ _ n0)).trans n0
  have m1 : w1.cell? ⟨w.heap.size + 1 + 1, 1, none⟩ = some (.slice (some ⟨w.heap.size + 1, 0, none⟩) 2 2) := (hb1.cell (p := ⟨w.heap.size + 1 + 1, 1, none⟩) (World.block_lt_of_cell? _ _ n1)).trans n1
  have hin1 := hin.below hb1
  clear n0 n1 q0 hin hu
  go_wp2_with (fail)
  have HC := check_any w1 (h.below hb1') _ _ _ 2 2 awN awD hin1 (by decide) (by decide)
  rw [aw_check] at HC
  refine HC.mono ?_
  rintro e w2 ⟨rfl, hb2⟩
  clear HC
  have hb2' := hb1'.trans (hb2.mono hb1'.size)
  have q2 : w2.cell? ⟨g, off, none⟩ = some (.int .i64 0) := (hb2.cell (p := ⟨g, off, none⟩) (World.block_lt_of_cell? _ _ q0')).trans q0'
  have p0 : w2.cell? ⟨w.heap.size + 1 + 1, 0, none⟩ = some (.slice (some ⟨w.heap.size, 0, none⟩) 2 2) := (hb2.cell (p := ⟨w.heap.size + 1 + 1, 0, none⟩) (World.block_lt_of_cell? _ _ m0)).trans m0
  have p1 : w2.cell? ⟨w.heap.size + 1 + 1, 1, none⟩ = some (.slice (some ⟨w.heap.size + 1, 0, none⟩) 2 2) := (hb2.cell (p := ⟨w.heap.size + 1 + 1, 1, none⟩) (World.block_lt_of_cell? _ _ m1)).trans m1
  have hin2 := hin1.below hb2
  clear m0 m1 hin1 q0'
  go_wp2_with (fail)
  have HD := dev_net w2 (h.below hb2') _ _ _ 2 2 awN awD hin2 (by decide) (by decide) ⟨#[76, 50]⟩
  rw [aw_dev] at HD
  refine HD.mono ?_
  rintro e w3 ⟨rfl, hb3⟩
  clear HD
  go_wp2_with (fail)
  go_ret
  exact ⟨rfl, hb2'.trans (hb3.mono hb2'.size)⟩
end Go.Proofs.YtgpcojmdfmngeaaDoor

namespace Go.Proofs.YtgpcojmdfmngeaaDoor
open Go.RowKit
set_option maxHeartbeats 400000
set_option maxRecDepth 100000

/-- A law's state: the deck in block w.heap.size, the network that was made, boxed in gn; all of it in blocks below M. -/
structure LS (w W : World) (M gn : Nat) (A1 : Option Addr) (c1 : Nat) (ns : List Node) (A2 : Option Addr) (c2 : Nat) (ds : List Dev) : Prop where
  deck : Deck W w.heap.size
  net : NetIn W (fun g => w.heap.size < g ∧ g < M) A1 A2 ns ds
  box : W.heap[gn]? = some (.cells #[.slice A1 ns.length c1, .slice A2 ds.length c2] 26 (0, 0))
  gne : w.heap.size < gn
  gnm : gn < M
  top : M ≤ W.heap.size
  bel : Below w.heap.size w W

section
variable {w W W' : World} {M gn : Nat} {A1 A2 : Option Addr} {c1 c2 : Nat} {ns : List Node} {ds : List Dev}
theorem LS.fr (h : LS w W M gn A1 c1 ns A2 c2 ds) (hf : Fr M w.heap.size W W') (hd : Deck W' w.heap.size) : LS w W' M gn A1 c1 ns A2 c2 ds :=
  ⟨hd, h.net.keep ⟨hf.size, fun b hs _ => hf.block b hs.2 (by have := hs.1; omega)⟩, (hf.block gn h.gnm (by have := h.gne; omega)).trans h.box, h.gne, h.gnm, Nat.le_trans h.top hf.size,
   ⟨hf.os.trans h.bel.os, hf.tape.trans h.bel.tape, hf.output.trans h.bel.output, Nat.le_trans h.bel.size hf.size, fun k hk => (hf.block k (by have := h.gne; have := h.gnm; omega) (by omega)).trans (h.bel.block k hk)⟩⟩
theorem LS.belowM (h : LS w W M gn A1 c1 ns A2 c2 ds) (hb : Below M W W') : LS w W' M gn A1 c1 ns A2 c2 ds := h.fr (Fr.of_below hb) (h.deck.belowB hb (by have := h.gne; have := h.gnm; omega))
theorem LS.below (h : LS w W M gn A1 c1 ns A2 c2 ds) (hb : Below W.heap.size W W') : LS w W' M gn A1 c1 ns A2 c2 ds := h.belowM (hb.mono h.top)
theorem LS.grown (h : LS w W M gn A1 c1 ns A2 c2 ds) (hg : W.grownBy W' (some w.heap.size)) (hd : Deck W' w.heap.size) : LS w W' M gn A1 c1 ns A2 c2 ds := h.fr (Fr.of_grown hg h.top) hd
theorem LS.n0 (h : LS w W M gn A1 c1 ns A2 c2 ds) : W.cell? ⟨gn, 0, none⟩ = some (.slice A1 ns.length c1) := by rw [cell_of_row W _ 0 _ _ _ h.box]; rfl
theorem LS.n1 (h : LS w W M gn A1 c1 ns A2 c2 ds) : W.cell? ⟨gn, 1, none⟩ = some (.slice A2 ds.length c2) := by rw [cell_of_row W _ 1 _ _ _ h.box]; rfl
end

/-- The start: what New and Network hand back. -/
theorem LS.start {w w1 w2 : World} {A1 A2 : Option Addr} {c1 c2 K D : Nat} {ns : List Node} {ds : List Dev} (_hd1 : Deck w1 w.heap.size) (hb1 : Below w.heap.size w w1) (hz1 : w1.heap.size = w.heap.size + 1)
    (ho1 : OV w2 (fun g => w1.heap.size ≤ g) 104 3 A1 ns.length c1 (nodesV ns)) (ho2 : OV w2 (fun g => w1.heap.size ≤ g) 78 5 A2 ds.length c2 (devsV ds)) (hd2 : Deck w2 w.heap.size) (hg2 : w1.grownBy w2 (some w.heap.size)) (hgood : GoodNet K D ns ds) :
    LS w (w2.alloc (.cells #[.slice A1 ns.length c1, .slice A2 ds.length c2] 26)) (w2.heap.size + 1) w2.heap.size A1 c1 ns A2 c2 ds := by
  have hs := hg2.size
  have hx := (Below.refl w2.heap.size w2).alloc (Nat.le_refl _) (.cells #[.slice A1 ns.length c1, .slice A2 ds.length c2] 26)
  obtain ⟨g1, g2⟩ := good_names hgood
  refine ⟨hd2.below hx, ⟨(ho1.sv.mono (T := fun g => w.heap.size < g ∧ g < w2.heap.size + 1) (fun g hl hg => by omega)).keep (Kept.of_below hx), (ho2.sv.mono (T := fun g => w.heap.size < g ∧ g < w2.heap.size + 1) (fun g hl hg => by omega)).keep (Kept.of_below hx), g1, g2⟩, heap_alloc_new w2 _, by omega, by omega, by simp, ?_⟩
  refine (hb1.grown hg2 hb1.size (fun g hg => by injection hg with hg; omega)).trans (hx.mono (by omega))

theorem out_ok {K D : Nat} {ns : List Node} {ds : List Dev} (h : GoodNet K D ns ds) (hK : K ≤ 32) (hD : D ≤ 60) : DevsIn ns.length ds := checkL_zero (good_check h hK hD)
end Go.Proofs.YtgpcojmdfmngeaaDoor

namespace Go.Proofs.YtgpcojmdfmngeaaDoor
open Go.RowKit

/-- A slice of bools that the law owns. -/
def OB (w : World) (g n : Nat) (bs : List Bool) : Prop := OV w (fun x => x = g) 4 1 (some ⟨g, 0, none⟩) n n (bools bs)
theorem OB.at_ {w : World} {g n : Nat} {bs : List Bool} (h : OB w g n bs) {k : Nat} (hk : k < bs.length) : w.cell? ⟨g, k, none⟩ = some (.bool bs[k]) ∧ w.frozen? ⟨g, k, none⟩ = false ∧ g < w.heap.size := by
  obtain ⟨g', off, e, _, hgl, hc, hf⟩ := OV.cell h (j := k) (by simpa [bools] using hk)
  injection e with e
  injection e with e1 e2
  subst e1
  subst e2
  rw [Nat.zero_add] at hc hf
  exact ⟨by simpa [bools] using hc, hf, hgl⟩
theorem OB.set {w : World} {g n : Nat} {bs : List Bool} (h : OB w g n bs) (k : Nat) (b : Bool) : OB (w.setCell ⟨g, k, none⟩ (.bool b)) g n (bs.set k b) := by
  have := OV.set h k (.bool b)
  rw [Nat.zero_add] at this
  unfold OB
  rw [bools, List.map_set]
  exact this
theorem OB.len {w : World} {g n : Nat} {bs : List Bool} (h : OB w g n bs) : bs.length = n := by have := h.2.2.1; simpa [bools] using this
theorem OB.fr {w w' : World} {g n : Nat} {bs : List Bool} (h : OB w g n bs) (e : w'.heap[g]? = w.heap[g]?) : OB w' g n bs := OV.keep1 h (fun k hk => by simp [blockOf] at hk; subst hk; exact e)
theorem OB.sb {w : World} {g n : Nat} {bs : List Bool} (h : OB w g n bs) : SB w (fun _ => True) (some ⟨g, 0, none⟩) bs := (OV.sv h).mono (fun _ _ _ => trivial)

theorem LS.setB {w W : World} {M gn : Nat} {A1 A2 : Option Addr} {c1 c2 : Nat} {ns : List Node} {ds : List Dev} (h : LS w W M gn A1 c1 ns A2 c2 ds) {g k : Nat} (hg : M ≤ g) (u : Value) : LS w (W.setCell ⟨g, k, none⟩ u) M gn A1 c1 ns A2 c2 ds :=
  h.belowM ((Below.refl _ _).setCell hg _)
end Go.Proofs.YtgpcojmdfmngeaaDoor

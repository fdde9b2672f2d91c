/-
  Walks of the small functions of networks: across, Is, Exists, Other, At.
-/
import Derived.Test.YtglhplddjjoggaaDoorChk
import Derived.Test.YtglhplddjjoggaaDoorW06b
namespace Go.Proofs.YtglhplddjjoggaaDoor
open Go.RowKit
set_option maxHeartbeats 400000
set_option maxRecDepth 100000

def acrossL (d : Dev) (v : Int) : Int := if joinsB d.kind = false then -1 else if d.a == v then d.b else if d.b == v then d.a else -1
def isL (d : Dev) (v : Int) : Bool := (d.a == v) || (joinsB d.kind && (d.b == v))
abbrev devAgg (d : Dev) : Value := .agg #[.string d.name, .int .i64 d.kind, .int .i64 d.a, .int .i64 d.b, .int .i64 d.comp]

theorem retI {a b : Int} (h : a = b) : Ending.returned (.int .i64 a) = .returned (.int .i64 b) := by rw [h]

theorem across_any (d : Dev) (v : Int) (w : World) : Calls Tryd.prog 110 #[.agg #[.string d.name, .int .i64 d.kind, .int .i64 d.a, .int .i64 d.b, .int .i64 d.comp], .int .i64 v] w fun e w' => e = .returned (.int .i64 (acrossL d v)) ∧ Below w.heap.size w w' := by
  have hb := fun o => (Below.refl w.heap.size w).alloc (Nat.le_refl _) o
  have HE := Lib.hid (show acrossL d v = if joinsB d.kind = false then -1 else if d.a == v then d.b else if d.b == v then d.a else -1 from rfl)
  have HJ := joins_any d.kind
  generalize joinsB d.kind = jj at *
  have HJ := Lib.hid HJ
  cases jj
  · go_enter Tryd.func110, Tryd.ntmps110
    go_wp2_with (go_at_call 37; (with_reducible refine (HJ.out _).mono ?_); rintro e w' ⟨rfl, rfl⟩)
    go_ret
    exact ⟨by rw [HE.out]; rfl, hb _⟩
  · by_cases h1 : (d.a == v) = true
    · rw [h1] at HE
      go_enter Tryd.func110, Tryd.ntmps110
      go_wp2_with (go_at_call 37; (with_reducible refine (HJ.out _).mono ?_); rintro e w' ⟨rfl, rfl⟩)
      go_ret
      exact ⟨by rw [HE.out]; rfl, hb _⟩
    · have h1 : (d.a == v) = false := by simpa using h1
      rw [h1] at HE
      by_cases h2 : (d.b == v) = true
      · rw [h2] at HE
        go_enter Tryd.func110, Tryd.ntmps110
        go_wp2_with (go_at_call 37; (with_reducible refine (HJ.out _).mono ?_); rintro e w' ⟨rfl, rfl⟩)
        go_ret
        exact ⟨by rw [HE.out]; rfl, hb _⟩
      · have h2 : (d.b == v) = false := by simpa using h2
        rw [h2] at HE
        go_enter Tryd.func110, Tryd.ntmps110
        go_wp2_with (go_at_call 37; (with_reducible refine (HJ.out _).mono ?_); rintro e w' ⟨rfl, rfl⟩)
        go_ret
        exact ⟨by rw [HE.out]; rfl, hb _⟩

theorem is_at (d : Dev) (v : Int) (w : World) : Calls Tryd.prog 109 #[.agg #[.string d.name, .int .i64 d.kind, .int .i64 d.a, .int .i64 d.b, .int .i64 d.comp], .int .i64 v] w fun e w' => e = .returned (.bool (isL d v)) ∧ Below w.heap.size w w' := by
  have hb := fun o => (Below.refl w.heap.size w).alloc (Nat.le_refl _) o
  have HE := Lib.hid (show isL d v = ((d.a == v) || (joinsB d.kind && (d.b == v))) from rfl)
  have HJ := joins_any d.kind
  generalize joinsB d.kind = jj at *
  have HJ := Lib.hid HJ
  by_cases h1 : (d.a == v) = true
  · rw [h1] at HE
    go_enter Tryd.func109, Tryd.ntmps109
    go_wp2_with (go_at_call 37; (with_reducible refine (HJ.out _).mono ?_); rintro e w' ⟨rfl, rfl⟩)
    go_ret
    exact ⟨by rw [HE.out]; rfl, hb _⟩
  · have h1 : (d.a == v) = false := by simpa using h1
    rw [h1] at HE
    cases jj
    · go_enter Tryd.func109, Tryd.ntmps109
      go_wp2_with (go_at_call 37; (with_reducible refine (HJ.out _).mono ?_); rintro e w' ⟨rfl, rfl⟩)
      go_ret
      exact ⟨by rw [HE.out]; rfl, hb _⟩
    · go_enter Tryd.func109, Tryd.ntmps109
      go_wp2_with (go_at_call 37; (with_reducible refine (HJ.out _).mono ?_); rintro e w' ⟨rfl, rfl⟩)
      go_ret
      exact ⟨by rw [HE.out]; rfl, hb _⟩

def existsB (n : Nat) (v : Int) : Bool := decide (0 ≤ v) && decide (v < n)
theorem exists_any (A1 A2 : Option Addr) (n c1 m c2 : Nat) (v : Int) (w : World) : Calls Tryd.prog 108 #[.agg #[.slice A1 n c1, .slice A2 m c2], .int .i64 v] w fun e w' => e = .returned (.bool (existsB n v)) ∧ Below w.heap.size w w' := by
  have hb := fun o => (Below.refl w.heap.size w).alloc (Nat.le_refl _) o
  by_cases h1 : 0 ≤ v
  · go_enter Tryd.func108, Tryd.ntmps108
    go_wp2_with (fail)
    go_ret
    exact ⟨retB (by simp [existsB, h1]), hb _⟩
  · go_enter Tryd.func108, Tryd.ntmps108
    go_wp2_with (fail)
    go_ret
    exact ⟨retB (by simp [existsB]; omega), hb _⟩

theorem box_at {w w1 : World} {o : Obj} (hb : Below (w.alloc o).heap.size (w.alloc o) w1) : w1.heap[w.heap.size]? = some o := (hb.block _ (by simp)).trans (heap_alloc_new w o)

/-- the node behind a device -/
def otherL (ns : List Node) (ds : List Dev) (i v : Int) : Int := if checkL ns ds = 0 ∧ 0 ≤ i ∧ i < ds.length then (match ds[i.toNat]? with | some d => acrossL d v | none => -1) else -1

theorem other_any (w : World) (h : TabC w) (S : Nat → Prop) (A1 A2 : Option Addr) (c1 c2 : Nat) (ns : List Node) (ds : List Dev) (hn : NetIn w S A1 A2 ns ds) (hl1 : ns.length ≤ 65536) (hl2 : ds.length ≤ 65536) (i v : Int) :
    Calls Tryd.prog 32 #[.agg #[.slice A1 ns.length c1, .slice A2 ds.length c2], .int .i64 i, .int .i64 v] w fun e w' => e = .returned (.int .i64 (otherL ns ds i v)) ∧ Below w.heap.size w w' := by
  have hb := (Below.refl w.heap.size w).alloc (Nat.le_refl _) (.cells #[.slice A1 ns.length c1, .slice A2 ds.length c2] 26)
  have HC := Lib.hid (check_any _ (h.below hb) S A1 A2 c1 c2 ns ds (hn.below hb) hl1 hl2)
  have HE := Lib.hid (show otherL ns ds i v = if checkL ns ds = 0 ∧ 0 ≤ i ∧ i < ds.length then (match ds[i.toNat]? with | some d => acrossL d v | none => -1) else -1 from rfl)
  generalize checkL ns ds = ce at *
  by_cases h0 : (ce != 0) = true
  · have H0 := Lib.hid (show ¬ ce = 0 by simpa using h0)
    go_enter Tryd.func32, Tryd.ntmps32
    go_wp2_with (go_at_call 22; (with_reducible refine (HC.out).mono ?_); rintro e w1 ⟨rfl, hb1⟩)
    go_ret
    exact ⟨by rw [HE.out, if_neg (fun h => H0.out h.1)]; rfl, hb.trans (hb1.mono hb.size)⟩
  · have h0' : (ce != 0) = false := by simpa using h0
    have H0 := Lib.hid (show ce = 0 by simpa using h0)
    clear h0
    by_cases h1 : i < 0
    · have h1' : decide (i < 0) = true := by simp; omega
      go_enter Tryd.func32, Tryd.ntmps32
      go_wp2_with (go_at_call 22; (with_reducible refine (HC.out).mono ?_); rintro e w1 ⟨rfl, hb1⟩)
      go_ret
      exact ⟨by rw [HE.out, if_neg (by omega)]; rfl, hb.trans (hb1.mono hb.size)⟩
    · by_cases h2 : (ds.length : Int) ≤ i
      · have hx : ∀ w1 : World, Below (w.alloc (.cells #[.slice A1 ns.length c1, .slice A2 ds.length c2] 26)).heap.size (w.alloc (.cells #[.slice A1 ns.length c1, .slice A2 ds.length c2] 26)) w1 → w1.cell? ⟨w.heap.size, 1, none⟩ = some (.slice A2 ds.length c2) := fun w1 hb1 => by
          rw [hb1.cell (p := ⟨w.heap.size, 1, none⟩) (by simp), cell_of_row _ w.heap.size 1 _ _ _ (heap_alloc_new w _)]; rfl
        have HX := Lib.hid hx
        clear hx
        go_enter Tryd.func32, Tryd.ntmps32
        go_wp2_with (go_at_call 22; (with_reducible refine (HC.out).mono ?_); rintro e w1 ⟨rfl, hb1⟩; have hx1 := HX.out w1 hb1)
        go_ret
        exact ⟨by rw [HE.out, if_neg (by omega)]; rfl, hb.trans (hb1.mono hb.size)⟩
      · obtain ⟨k, rfl⟩ := Int.eq_ofNat_of_zero_le (show 0 ≤ i by omega)
        have hk : k < ds.length := by omega
        have HE2 := Lib.hid (show otherL ns ds k v = acrossL ds[k] v by rw [HE.out, if_pos ⟨H0.out, by omega, by omega⟩]; simp [hk])
        clear HE h1 h2
        go_enter Tryd.func32, Tryd.ntmps32
        go_wp2_with (fail)
        refine (HC.out).mono ?_
        rintro e w1 ⟨rfl, hb1⟩
        have hbox := box_at hb1
        have n1 : w1.cell? ⟨w.heap.size, 1, none⟩ = some (.slice A2 ds.length c2) := by rw [cell_of_row w1 _ 1 _ _ _ hbox]; rfl
        have hbA := hb.trans (hb1.mono hb.size)
        obtain ⟨b, off, rfl, hS, hbl, q0, q1, q2, q3, q4⟩ := (hn.below hbA).dev hk
        clear hbox
        go_wp2_with (fail)
        refine (across_any ds[k] v w1).mono ?_
        rintro e w2 ⟨rfl, hb2⟩
        go_wp2_with (fail)
        go_ret
        exact ⟨by rw [HE2.out]; rfl, hbA.trans (hb2.mono hbA.size)⟩

def atFrom (v : Int) : List Dev → Nat → List Int
  | [], _ => []
  | d :: ds, k => if isL d v then (k : Int) :: atFrom v ds (k + 1) else atFrom v ds (k + 1)
def atL (ns : List Node) (ds : List Dev) (v : Int) : List Int := if checkL ns ds = 0 ∧ existsB ns.length v = true then atFrom v ds 0 else []
theorem atFrom_drop (v : Int) (ds : List Dev) (k : Nat) (h : k < ds.length) : atFrom v (ds.drop k) k = if isL ds[k] v then (k : Int) :: atFrom v (ds.drop (k + 1)) (k + 1) else atFrom v (ds.drop (k + 1)) (k + 1) := by
  rw [List.drop_eq_getElem_cons h]; rfl

theorem at_any (w : World) (h : TabC w) (S : Nat → Prop) (A1 A2 : Option Addr) (c1 c2 : Nat) (ns : List Node) (ds : List Dev) (hn : NetIn w S A1 A2 ns ds) (hl1 : ns.length ≤ 65536) (hl2 : ds.length ≤ 65536) (v : Int) :
    Calls Tryd.prog 30 #[.agg #[.slice A1 ns.length c1, .slice A2 ds.length c2], .int .i64 v] w (RetOI w (atL ns ds v)) := by
  have hb := (Below.refl w.heap.size w).alloc (Nat.le_refl _) (.cells #[.slice A1 ns.length c1, .slice A2 ds.length c2] 26)
  have HC := Lib.hid (check_any _ (h.below hb) S A1 A2 c1 c2 ns ds (hn.below hb) hl1 hl2)
  have HE := Lib.hid (show atL ns ds v = if checkL ns ds = 0 ∧ existsB ns.length v = true then atFrom v ds 0 else [] from rfl)
  have HX := fun w => exists_any A1 A2 ns.length c1 ds.length c2 v w
  generalize checkL ns ds = ce at *
  generalize existsB ns.length v = ex at *
  have HX := Lib.hid HX
  by_cases h0 : (ce != 0) = true
  · have H0 := Lib.hid (show ¬ ce = 0 by simpa using h0)
    go_enter Tryd.func30, Tryd.ntmps30
    go_wp2_with (go_at_call 22; (with_reducible refine (HC.out).mono ?_); rintro e w1 ⟨rfl, hb1⟩)
    go_ret
    rw [HE.out, if_neg (fun h => H0.out h.1)]
    exact ⟨none, 0, rfl, OI.nil _ _, hb.trans (hb1.mono hb.size)⟩
  · have h0' : (ce != 0) = false := by simpa using h0
    have H0 := Lib.hid (show ce = 0 by simpa using h0)
    clear h0
    cases ex
    · go_enter Tryd.func30, Tryd.ntmps30
      go_wp2_with (fail)
      refine (HC.out).mono ?_
      rintro e w1 ⟨rfl, hb1⟩
      have hbA := hb.trans (hb1.mono hb.size)
      have hbox := box_at hb1
      have n0 : w1.cell? ⟨w.heap.size, 0, none⟩ = some (.slice A1 ns.length c1) := by rw [cell_of_row w1 _ 0 _ _ _ hbox]; rfl
      have n1 : w1.cell? ⟨w.heap.size, 1, none⟩ = some (.slice A2 ds.length c2) := by rw [cell_of_row w1 _ 1 _ _ _ hbox]; rfl
      clear hbox
      go_wp2_with (fail)
      refine (HX.out w1).mono ?_
      rintro e w2 ⟨rfl, hb2⟩
      go_wp2_with (fail)
      go_ret
      rw [HE.out, if_neg (fun h => by cases h.2)]
      exact ⟨none, 0, rfl, OI.nil _ _, hbA.trans (hb2.mono hbA.size)⟩
    · have HE2 := Lib.hid (show atL ns ds v = atFrom v ds 0 by rw [HE.out, if_pos ⟨H0.out, rfl⟩])
      clear HE
      go_enter Tryd.func30, Tryd.ntmps30
      go_wp2_with (fail)
      refine (HC.out).mono ?_
      rintro e w1 ⟨rfl, hb1⟩
      have hbA := hb.trans (hb1.mono hb.size)
      have Hbox := Lib.hid (box_at hb1)
      have n0 : w1.cell? ⟨w.heap.size, 0, none⟩ = some (.slice A1 ns.length c1) := by rw [cell_of_row w1 _ 0 _ _ _ Hbox.out]; rfl
      have n1 : w1.cell? ⟨w.heap.size, 1, none⟩ = some (.slice A2 ds.length c2) := by rw [cell_of_row w1 _ 1 _ _ _ Hbox.out]; rfl
      go_wp2_with (fail)
      refine (HX.out w1).mono ?_
      rintro e w2 ⟨rfl, hb2⟩
      have hbB := hbA.trans (hb2.mono hbA.size)
      have n2 : w2.cell? ⟨w.heap.size, 1, none⟩ = some (.slice A2 ds.length c2) := (hb2.cell (p := ⟨w.heap.size, 1, none⟩) (World.block_lt_of_cell? _ _ n1)).trans n1
      clear n0 n1 Hbox
      go_wp2_with (fail)
      clear n2
      go_loopg [5, 20] ds.length (fun g v' i wr => ∃ (k : Nat) (A' : Option Addr) (c' : Nat) (ys : List Int), k + g = ds.length ∧ i = .int .i64 k ∧ v' = .slice A' ys.length c' ∧ OI wr (fun g => w.heap.size ≤ g) A' c' ys ∧ Below w.heap.size w wr ∧
        ys ++ atFrom v (ds.drop k) k = atL ns ds v ∧ ys.length ≤ k)
      case atStart => exact ⟨0, none, 0, [], by omega, rfl, rfl, OI.nil _ _, hbB, by rw [HE2.out]; rfl, Nat.le_refl _⟩
      case round =>
        obtain ⟨k, A', c', ys, hk, rfl, rfl, hown, hbel, hi, hyl⟩ := hrel
        have Hi := Lib.hid hi
        have Hk := Lib.hid hk
        clear hi hk
        by_cases hlt : k < ds.length
        · obtain ⟨b, off, rfl, _, _, q0, q1, q2, q3, q4⟩ := (hn.below hbel).dev hlt
          have Hd := Lib.hid (atFrom_drop v ds k hlt)
          go_wp2_with (fail)
          refine (is_at ds[k] v _).mono ?_
          rintro e w3 ⟨rfl, hb3⟩
          have hbC := (hbel.alloc hbel.size (.cells #[.string ds[k].name, .int .i64 ds[k].kind, .int .i64 ds[k].a, .int .i64 ds[k].b, .int .i64 ds[k].comp] 81)).trans (hb3.mono (by have := hbel.size; simp; omega))
          have hown3 := (hown.keep (Kept.alloc _ _ (.cells #[.string ds[k].name, .int .i64 ds[k].kind, .int .i64 ds[k].a, .int .i64 ds[k].b, .int .i64 ds[k].comp] 81))).keep (Kept.of_below hb3)
          generalize isL ds[k] v = ib at *
          cases ib
          · go_wp2_with (fail)
            go_roundg (gk - 1)
            case measure => have := Hk.out; omega
            case rel =>
              refine ⟨k + 1, _, _, _, by have := Hk.out; omega, by go_num, rfl, hown3, hbC, ?_, by omega⟩
              rw [← Hi.out, Hd.out, if_neg (by decide)]
          · go_wp2_with (at_builtin; go_must (refine wpList_push (B := w.heap.size) rfl (.tmp 28) (.tmp 30) rfl rfl rfl rfl (hown3.keep (Kept.alloc _ _ _)) (new_cell _ _ _) (by omega) (by simp; have := hbC.size; omega) ?_); intro A1' c1' w4 ho4 hb4 _ _)
            go_roundg (gk - 1)
            case measure => have := Hk.out; omega
            case rel =>
              refine ⟨k + 1, _, _, _, by have := Hk.out; omega, by go_num, ?_, ho4, (hbC.alloc hbC.size _).trans hb4, ?_, ?_⟩
              · simp
              · rw [← Hi.out, Hd.out]; simp
              · simp; omega
        · go_wp2_with (fail)
          go_ret
          have := Hi.out
          rw [List.drop_of_length_le (by omega)] at this
          simp [atFrom] at this
          rw [← this]
          exact ⟨A', c', rfl, hown, hbel⟩

theorem node1_any (x : Node) (nm : ByteArray) (bs : Nat) (w : World) (hc : w.cell? ⟨bs, 0, none⟩ = some (.string nm)) : Calls Tryd.prog 105 #[.agg #[.string x.name, .int .i64 x.cust, .int .i64 x.comp], .pointer (some ⟨bs, 0, none⟩)] w fun e w' => e = .returned (.bool (x.name.toList == nm.toList)) ∧ Below w.heap.size w w' := by
  have hb := fun o => (Below.refl w.heap.size w).alloc (Nat.le_refl _) o
  have hbs : bs < w.heap.size := World.block_lt_of_cell? w _ hc
  have hne : ¬ bs = w.heap.size := by omega
  go_enter Tryd.func105, Tryd.ntmps105
  go_wp2_with (fail)
  go_ret
  exact ⟨rfl, hb _⟩

def nodeIdx (nm : ByteArray) : List Node → Nat → Int
  | [], _ => -1
  | x :: xs, k => if x.name.toList == nm.toList then k else nodeIdx nm xs (k + 1)
theorem nodeIdx_drop (nm : ByteArray) (xs : List Node) (k : Nat) (h : k < xs.length) : nodeIdx nm (xs.drop k) k = if xs[k].name.toList == nm.toList then (k : Int) else nodeIdx nm (xs.drop (k + 1)) (k + 1) := by
  rw [List.drop_eq_getElem_cons h]; rfl
theorem goes_node1 : Goes 105 := fun args w => by kernel_rfl

theorem nodeFunc_any (w : World) (S : Nat → Prop) (A1 A2 : Option Addr) (c : Nat) (ns : List Node) (ds : List Dev) (hn : NetIn w S A1 A2 ns ds) (hl : ns.length ≤ 65536) (nm : ByteArray) (bs : Nat) (hc : w.cell? ⟨bs, 0, none⟩ = some (.string nm)) :
    Calls Tryd.prog 104 #[.slice A1 ns.length c, .func (.func 105) #[] #[.pointer (some ⟨bs, 0, none⟩)]] w fun e w' => e = .returned (.int .i64 (nodeIdx nm ns 0)) ∧ Below w.heap.size w w' := by
  have hgo := goes_node1
  unfold Goes at hgo
  go_enter Tryd.func104, Tryd.ntmps104
  go_wp2_with (fail)
  go_loopg [8] ns.length (fun g i wr => Below w.heap.size w wr ∧ ∃ k : Nat, k + g = ns.length ∧ i = .int .i64 k ∧ nodeIdx nm ns 0 = nodeIdx nm (ns.drop k) k)
  case atStart => exact ⟨Below.refl _ _, 0, by omega, rfl, rfl⟩
  case round =>
    obtain ⟨hbel, k, hk, rfl, hi⟩ := hrel
    have Hi := Lib.hid hi
    have Hk := Lib.hid hk
    clear hi hk
    by_cases hlt : k < ns.length
    · obtain ⟨b, off, rfl, _, _, q0, q1, q2⟩ := (hn.below hbel).node hlt
      have Hd := Lib.hid (nodeIdx_drop nm ns k hlt)
      have hcr : wr.cell? ⟨bs, 0, none⟩ = some (.string nm) := (hbel.cell (p := ⟨bs, 0, none⟩) (World.block_lt_of_cell? w _ hc)).trans hc
      go_wp2_with (fail)
      refine (node1_any ns[k] nm bs wr hcr).mono ?_
      rintro e w1 ⟨rfl, hb1⟩
      have hbA := hbel.trans (hb1.mono hbel.size)
      generalize (ns[k].name.toList == nm.toList) = eb at *
      cases eb
      · go_wp2_with (fail)
        go_roundg (gk - 1)
        case measure => have := Hk.out; omega
        case rel =>
          refine ⟨hbA, k + 1, by have := Hk.out; omega, by go_num, ?_⟩
          rw [Hi.out, Hd.out]
          simp
      · go_wp2_with (fail)
        go_ret
        refine ⟨?_, hbA⟩
        rw [Hi.out, Hd.out]
        rfl
    · go_wp2_with (fail)
      go_ret
      refine ⟨?_, hbel⟩
      rw [Hi.out, List.drop_of_length_le (by omega)]
      rfl

def nodeL (ns : List Node) (ds : List Dev) (nm : ByteArray) : Int := if checkL ns ds = 0 then nodeIdx nm ns 0 else -1
theorem node_net (w : World) (h : TabC w) (S : Nat → Prop) (A1 A2 : Option Addr) (c1 c2 : Nat) (ns : List Node) (ds : List Dev) (hn : NetIn w S A1 A2 ns ds) (hl1 : ns.length ≤ 65536) (hl2 : ds.length ≤ 65536) (nm : ByteArray) :
    Calls Tryd.prog 24 #[.agg #[.slice A1 ns.length c1, .slice A2 ds.length c2], .string nm] w fun e w' => e = .returned (.int .i64 (nodeL ns ds nm)) ∧ Below w.heap.size w w' := by
  obtain ⟨W, hW⟩ : ∃ W, W = (w.alloc (.cells #[.slice A1 ns.length c1, .slice A2 ds.length c2] 26)).alloc (.cells #[.string nm] 9) := ⟨_, rfl⟩
  have hb : Below w.heap.size w W := by rw [hW]; exact ((Below.refl w.heap.size w).alloc (Nat.le_refl _) _).alloc (by simp) _
  have hbox : W.heap[w.heap.size]? = some (.cells #[.slice A1 ns.length c1, .slice A2 ds.length c2] 26 (0, 0)) := by rw [hW, Below.heap_alloc _ _ _ (by simp)]; exact heap_alloc_new w _
  have hbox2 : W.heap[w.heap.size + 1]? = some (.cells #[.string nm] 9 (0, 0)) := by
    have := heap_alloc_new (w.alloc (.cells #[.slice A1 ns.length c1, .slice A2 ds.length c2] 26)) (.cells #[.string nm] 9)
    rw [hW]; simpa using this
  have HC := Lib.hid (check_any W (h.below hb) S A1 A2 c1 c2 ns ds (hn.below hb) hl1 hl2)
  have HE := Lib.hid (show nodeL ns ds nm = if checkL ns ds = 0 then nodeIdx nm ns 0 else -1 from rfl)
  generalize checkL ns ds = ce at *
  have HW := Lib.hid hW
  have Hbox := Lib.hid hbox
  have Hbox2 := Lib.hid hbox2
  clear hbox hbox2 hW
  by_cases h0 : (ce != 0) = true
  · have H0 := Lib.hid (show ¬ ce = 0 by simpa using h0)
    go_enter Tryd.func24, Tryd.ntmps24
    go_wp2_with (fail)
    rw [← HW.out]
    refine (HC.out).mono ?_
    rintro e w1 ⟨rfl, hb1⟩
    go_wp2_with (fail)
    go_ret
    exact ⟨by rw [HE.out, if_neg H0.out]; rfl, hb.trans (hb1.mono hb.size)⟩
  · have h0' : (ce != 0) = false := by simpa using h0
    have H0 := Lib.hid (show ce = 0 by simpa using h0)
    clear h0
    go_enter Tryd.func24, Tryd.ntmps24
    go_wp2_with (fail)
    rw [← HW.out]
    refine (HC.out).mono ?_
    rintro e w1 ⟨rfl, hb1⟩
    have hbA := hb.trans (hb1.mono hb.size)
    have hx := (hb1.block _ (Array.getElem?_eq_some_iff.1 Hbox.out).1).trans Hbox.out
    have hx2 := (hb1.block _ (Array.getElem?_eq_some_iff.1 Hbox2.out).1).trans Hbox2.out
    have n0 : w1.cell? ⟨w.heap.size, 0, none⟩ = some (.slice A1 ns.length c1) := by rw [cell_of_row w1 _ 0 _ _ _ hx]; rfl
    have n1 : w1.cell? ⟨w.heap.size, 1, none⟩ = some (.slice A2 ds.length c2) := by rw [cell_of_row w1 _ 1 _ _ _ hx]; rfl
    have n2 : w1.cell? ⟨w.heap.size + 1, 0, none⟩ = some (.string nm) := by rw [cell_of_row w1 _ 0 _ _ _ hx2]; rfl
    clear hx hx2
    go_wp2_with (fail)
    refine (nodeFunc_any w1 S A1 A2 _ ns ds (hn.below hbA) hl1 nm (w.heap.size + 1) n2).mono ?_
    rintro e w2 ⟨rfl, hb2⟩
    go_wp2_with (fail)
    go_ret
    exact ⟨by rw [HE.out, if_pos H0.out]; rfl, hbA.trans (hb2.mono hbA.size)⟩

theorem dev1_any (x : Dev) (nm : ByteArray) (bs : Nat) (w : World) (hc : w.cell? ⟨bs, 0, none⟩ = some (.string nm)) : Calls Tryd.prog 107 #[.agg #[.string x.name, .int .i64 x.kind, .int .i64 x.a, .int .i64 x.b, .int .i64 x.comp], .pointer (some ⟨bs, 0, none⟩)] w fun e w' => e = .returned (.bool (x.name.toList == nm.toList)) ∧ Below w.heap.size w w' := by
  have hb := fun o => (Below.refl w.heap.size w).alloc (Nat.le_refl _) o
  have hbs : bs < w.heap.size := World.block_lt_of_cell? w _ hc
  have hne : ¬ bs = w.heap.size := by omega
  go_enter Tryd.func107, Tryd.ntmps107
  go_wp2_with (fail)
  go_ret
  exact ⟨rfl, hb _⟩

def devIdx (nm : ByteArray) : List Dev → Nat → Int
  | [], _ => -1
  | x :: xs, k => if x.name.toList == nm.toList then k else devIdx nm xs (k + 1)
theorem devIdx_drop (nm : ByteArray) (xs : List Dev) (k : Nat) (h : k < xs.length) : devIdx nm (xs.drop k) k = if xs[k].name.toList == nm.toList then (k : Int) else devIdx nm (xs.drop (k + 1)) (k + 1) := by
  rw [List.drop_eq_getElem_cons h]; rfl
theorem goes_dev1 : Goes 107 := fun args w => by kernel_rfl

theorem devFunc_any (w : World) (S : Nat → Prop) (A1 A2 : Option Addr) (c : Nat) (ns : List Node) (ds : List Dev) (hn : NetIn w S A1 A2 ns ds) (hl : ds.length ≤ 65536) (nm : ByteArray) (bs : Nat) (hc : w.cell? ⟨bs, 0, none⟩ = some (.string nm)) :
    Calls Tryd.prog 106 #[.slice A2 ds.length c, .func (.func 107) #[] #[.pointer (some ⟨bs, 0, none⟩)]] w fun e w' => e = .returned (.int .i64 (devIdx nm ds 0)) ∧ Below w.heap.size w w' := by
  have hgo := goes_dev1
  unfold Goes at hgo
  go_enter Tryd.func106, Tryd.ntmps106
  go_wp2_with (fail)
  go_loopg [8] ds.length (fun g i wr => Below w.heap.size w wr ∧ ∃ k : Nat, k + g = ds.length ∧ i = .int .i64 k ∧ devIdx nm ds 0 = devIdx nm (ds.drop k) k)
  case atStart => exact ⟨Below.refl _ _, 0, by omega, rfl, rfl⟩
  case round =>
    obtain ⟨hbel, k, hk, rfl, hi⟩ := hrel
    have Hi := Lib.hid hi
    have Hk := Lib.hid hk
    clear hi hk
    by_cases hlt : k < ds.length
    · obtain ⟨b, off, rfl, _, _, q0, q1, q2, q3, q4⟩ := (hn.below hbel).dev hlt
      have Hd := Lib.hid (devIdx_drop nm ds k hlt)
      have hcr : wr.cell? ⟨bs, 0, none⟩ = some (.string nm) := (hbel.cell (p := ⟨bs, 0, none⟩) (World.block_lt_of_cell? w _ hc)).trans hc
      go_wp2_with (fail)
      refine (dev1_any ds[k] nm bs wr hcr).mono ?_
      rintro e w1 ⟨rfl, hb1⟩
      have hbA := hbel.trans (hb1.mono hbel.size)
      generalize (ds[k].name.toList == nm.toList) = eb at *
      cases eb
      · go_wp2_with (fail)
        go_roundg (gk - 1)
        case measure => have := Hk.out; omega
        case rel =>
          refine ⟨hbA, k + 1, by have := Hk.out; omega, by go_num, ?_⟩
          rw [Hi.out, Hd.out]
          simp
      · go_wp2_with (fail)
        go_ret
        refine ⟨?_, hbA⟩
        rw [Hi.out, Hd.out]
        rfl
    · go_wp2_with (fail)
      go_ret
      refine ⟨?_, hbel⟩
      rw [Hi.out, List.drop_of_length_le (by omega)]
      rfl

def devL (ns : List Node) (ds : List Dev) (nm : ByteArray) : Int := if checkL ns ds = 0 then devIdx nm ds 0 else -1
theorem dev_net (w : World) (h : TabC w) (S : Nat → Prop) (A1 A2 : Option Addr) (c1 c2 : Nat) (ns : List Node) (ds : List Dev) (hn : NetIn w S A1 A2 ns ds) (hl1 : ns.length ≤ 65536) (hl2 : ds.length ≤ 65536) (nm : ByteArray) :
    Calls Tryd.prog 26 #[.agg #[.slice A1 ns.length c1, .slice A2 ds.length c2], .string nm] w fun e w' => e = .returned (.int .i64 (devL ns ds nm)) ∧ Below w.heap.size w w' := by
  obtain ⟨W, hW⟩ : ∃ W, W = (w.alloc (.cells #[.slice A1 ns.length c1, .slice A2 ds.length c2] 26)).alloc (.cells #[.string nm] 9) := ⟨_, rfl⟩
  have hb : Below w.heap.size w W := by rw [hW]; exact ((Below.refl w.heap.size w).alloc (Nat.le_refl _) _).alloc (by simp) _
  have hbox : W.heap[w.heap.size]? = some (.cells #[.slice A1 ns.length c1, .slice A2 ds.length c2] 26 (0, 0)) := by rw [hW, Below.heap_alloc _ _ _ (by simp)]; exact heap_alloc_new w _
  have hbox2 : W.heap[w.heap.size + 1]? = some (.cells #[.string nm] 9 (0, 0)) := by
    have := heap_alloc_new (w.alloc (.cells #[.slice A1 ns.length c1, .slice A2 ds.length c2] 26)) (.cells #[.string nm] 9)
    rw [hW]; simpa using this
  have HC := Lib.hid (check_any W (h.below hb) S A1 A2 c1 c2 ns ds (hn.below hb) hl1 hl2)
  have HE := Lib.hid (show devL ns ds nm = if checkL ns ds = 0 then devIdx nm ds 0 else -1 from rfl)
  generalize checkL ns ds = ce at *
  have HW := Lib.hid hW
  have Hbox := Lib.hid hbox
  have Hbox2 := Lib.hid hbox2
  clear hbox hbox2 hW
  by_cases h0 : (ce != 0) = true
  · have H0 := Lib.hid (show ¬ ce = 0 by simpa using h0)
    go_enter Tryd.func26, Tryd.ntmps26
    go_wp2_with (fail)
    rw [← HW.out]
    refine (HC.out).mono ?_
    rintro e w1 ⟨rfl, hb1⟩
    go_wp2_with (fail)
    go_ret
    exact ⟨by rw [HE.out, if_neg H0.out]; rfl, hb.trans (hb1.mono hb.size)⟩
  · have h0' : (ce != 0) = false := by simpa using h0
    have H0 := Lib.hid (show ce = 0 by simpa using h0)
    clear h0
    go_enter Tryd.func26, Tryd.ntmps26
    go_wp2_with (fail)
    rw [← HW.out]
    refine (HC.out).mono ?_
    rintro e w1 ⟨rfl, hb1⟩
    have hbA := hb.trans (hb1.mono hb.size)
    have hx := (hb1.block _ (Array.getElem?_eq_some_iff.1 Hbox.out).1).trans Hbox.out
    have hx2 := (hb1.block _ (Array.getElem?_eq_some_iff.1 Hbox2.out).1).trans Hbox2.out
    have n0 : w1.cell? ⟨w.heap.size, 0, none⟩ = some (.slice A1 ns.length c1) := by rw [cell_of_row w1 _ 0 _ _ _ hx]; rfl
    have n1 : w1.cell? ⟨w.heap.size, 1, none⟩ = some (.slice A2 ds.length c2) := by rw [cell_of_row w1 _ 1 _ _ _ hx]; rfl
    have n2 : w1.cell? ⟨w.heap.size + 1, 0, none⟩ = some (.string nm) := by rw [cell_of_row w1 _ 0 _ _ _ hx2]; rfl
    clear hx hx2
    go_wp2_with (fail)
    refine (devFunc_any w1 S A1 A2 _ ns ds (hn.below hbA) hl2 nm (w.heap.size + 1) n2).mono ?_
    rintro e w2 ⟨rfl, hb2⟩
    go_wp2_with (fail)
    go_ret
    exact ⟨by rw [HE.out, if_pos H0.out]; rfl, hbA.trans (hb2.mono hbA.size)⟩
end Go.Proofs.YtglhplddjjoggaaDoor

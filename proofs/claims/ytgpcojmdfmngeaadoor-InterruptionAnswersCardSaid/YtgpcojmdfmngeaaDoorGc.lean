/-
  Walks of network.Check and of what it calls: the first error of a network.
  Walks of the small functions of networks: across, Is, Exists, Other, At.
  The walk of network.Distances: breadth-first search.
  The walks of network.Trail and network.Way.
  A new slice, made: its run, and what it holds.
-/
import Derived.Test.YtgpcojmdfmngeaaDoorGa
import Derived.Laws.Rows
import Derived.Laws.Tables
namespace Go.Proofs.YtgpcojmdfmngeaaDoor
open Go.RowKit
set_option maxHeartbeats 400000
set_option maxRecDepth 100000

/-- A network that can be read: its nodes and devices lie in blocks of the class S. -/
structure NetIn (w : World) (S : Nat → Prop) (A1 A2 : Option Addr) (ns : List Node) (ds : List Dev) : Prop where
  nodes : SV w S A1 (nodesV ns)
  devs : SV w S A2 (devsV ds)
  nsz : ∀ x ∈ ns, x.name.size ≤ maxLen
  dsz : ∀ d ∈ ds, d.name.size ≤ maxLen

section
variable {w w' : World} {S T : Nat → Prop} {A1 A2 : Option Addr} {ns : List Node} {ds : List Dev}
theorem NetIn.keep (h : NetIn w S A1 A2 ns ds) (k : Kept S w w') : NetIn w' S A1 A2 ns ds := ⟨h.nodes.keep k, h.devs.keep k, h.nsz, h.dsz⟩
theorem NetIn.below (h : NetIn w S A1 A2 ns ds) (k : Below w.heap.size w w') : NetIn w' S A1 A2 ns ds := h.keep (Kept.of_below k)
theorem NetIn.mono (h : NetIn w S A1 A2 ns ds) (hST : ∀ b, b < w.heap.size → S b → T b) : NetIn w T A1 A2 ns ds := ⟨h.nodes.mono hST, h.devs.mono hST, h.nsz, h.dsz⟩
theorem NetIn.node (h : NetIn w S A1 A2 ns ds) {k : Nat} (hk : k < ns.length) : ∃ b off, A1 = some ⟨b, off, none⟩ ∧ S b ∧ b < w.heap.size ∧
    w.cell? ⟨b, off + k * 3, none⟩ = some (.string ns[k].name) ∧ w.cell? ⟨b, off + k * 3 + 1, none⟩ = some (.int .i64 ns[k].cust) ∧ w.cell? ⟨b, off + k * 3 + 2, none⟩ = some (.int .i64 ns[k].comp) := by
  have hne : nodesV ns ≠ [] := fun e => by have := nodesV_len ns; rw [e] at this; simp at this; omega
  obtain ⟨b, off, e, hs, hb, hc⟩ := h.nodes hne
  have hat := nodesV_at ns k ns[k] (List.getElem?_eq_getElem hk)
  refine ⟨b, off, e, hs, hb, ?_, ?_, ?_⟩
  · exact hc _ _ (hat 0 (by omega))
  · have := hc _ _ (hat 1 (by omega)); rw [← Nat.add_assoc] at this; exact this
  · have := hc _ _ (hat 2 (by omega)); rw [← Nat.add_assoc] at this; exact this
theorem NetIn.dev (h : NetIn w S A1 A2 ns ds) {k : Nat} (hk : k < ds.length) : ∃ b off, A2 = some ⟨b, off, none⟩ ∧ S b ∧ b < w.heap.size ∧
    w.cell? ⟨b, off + k * 5, none⟩ = some (.string ds[k].name) ∧ w.cell? ⟨b, off + k * 5 + 1, none⟩ = some (.int .i64 ds[k].kind) ∧ w.cell? ⟨b, off + k * 5 + 2, none⟩ = some (.int .i64 ds[k].a) ∧
    w.cell? ⟨b, off + k * 5 + 3, none⟩ = some (.int .i64 ds[k].b) ∧ w.cell? ⟨b, off + k * 5 + 4, none⟩ = some (.int .i64 ds[k].comp) := by
  have hne : devsV ds ≠ [] := fun e => by have := devsV_len ds; rw [e] at this; simp at this; omega
  obtain ⟨b, off, e, hs, hb, hc⟩ := h.devs hne
  have hat := devsV_at ds k ds[k] (List.getElem?_eq_getElem hk)
  refine ⟨b, off, e, hs, hb, ?_, ?_, ?_, ?_, ?_⟩
  · exact hc _ _ (hat 0 (by omega))
  · have := hc _ _ (hat 1 (by omega)); rw [← Nat.add_assoc] at this; exact this
  · have := hc _ _ (hat 2 (by omega)); rw [← Nat.add_assoc] at this; exact this
  · have := hc _ _ (hat 3 (by omega)); rw [← Nat.add_assoc] at this; exact this
  · have := hc _ _ (hat 4 (by omega)); rw [← Nat.add_assoc] at this; exact this
end

theorem bcell {W w1 : World} (hb : Below W.heap.size W w1) : (∀ b o, b < W.heap.size → w1.cell? ⟨b, o, none⟩ = W.cell? ⟨b, o, none⟩) ∧ (∀ b o, b < W.heap.size → w1.frozen? ⟨b, o, none⟩ = W.frozen? ⟨b, o, none⟩) :=
  ⟨fun b o h => hb.cell (p := ⟨b, o, none⟩) h, fun b o h => hb.frozen (p := ⟨b, o, none⟩) h⟩

def joinsB (k : Int) : Bool := decide (1 ≤ k) && decide (k ≤ 3)
def companyB (n : Int) : Bool := decide (0 ≤ n) && decide (n ≤ 7)
def endsB (d : Dev) (n : Int) : Bool := decide (0 ≤ d.a) && decide (d.a < n) && (if joinsB d.kind then decide (0 ≤ d.b) && decide (d.b < n) && (d.b != d.a) else (d.b == -1))
def nodeErr (x : Node) (used : List (List UInt8)) : Int :=
  if nameB x.name = false then 3 else if x.name.data.toList ∈ used then 4 else if x.cust < 0 ∨ 1048576 < x.cust ∨ companyB x.comp = false then 5 else 0
def devErr (n : Int) (d : Dev) (used : List (List UInt8)) : Int :=
  if nameB d.name = false then 3 else if d.name.data.toList ∈ used then 4 else if d.kind < 1 ∨ 6 < d.kind then 6 else if endsB d n = false then 7 else if companyB d.comp = false then 5 else 0
def chkD (n : Int) : List Dev → List (List UInt8) → Int
  | [], _ => 0
  | d :: ds, u => if devErr n d u = 0 then chkD n ds (d.name.data.toList :: u) else devErr n d u
def chkN (n : Int) (ds : List Dev) : List Node → List (List UInt8) → Int
  | [], u => chkD n ds u
  | x :: xs, u => if nodeErr x u = 0 then chkN n ds xs (x.name.data.toList :: u) else nodeErr x u
def checkL (ns : List Node) (ds : List Dev) : Int := if 32 < ns.length ∨ 64 < ds.length then 1 else chkN ns.length ds ns []

theorem joins_any (k : Int) (w : World) : Calls Tryd.prog 31 #[.int .i64 k] w fun e w' => e = .returned (.bool (joinsB k)) ∧ w = w' := by
  by_cases h1 : 1 ≤ k
  · go_enter Tryd.func31, Tryd.ntmps31
    go_wp2
    go_ret
    exact ⟨retB (by simp [joinsB, h1]), rfl⟩
  · go_enter Tryd.func31, Tryd.ntmps31
    go_wp2
    go_ret
    exact ⟨retB (by simp [joinsB]; omega), rfl⟩
theorem company_any (k : Int) (w : World) : Calls Tryd.prog 108 #[.int .i64 k] w fun e w' => e = .returned (.bool (companyB k)) ∧ w = w' := by
  by_cases h1 : 0 ≤ k
  · go_enter Tryd.func108, Tryd.ntmps108
    go_wp2
    go_ret
    exact ⟨retB (by simp [companyB, h1]), rfl⟩
  · go_enter Tryd.func108, Tryd.ntmps108
    go_wp2
    go_ret
    exact ⟨retB (by simp [companyB]; omega), rfl⟩
theorem ends_any (d : Dev) (n : Int) (w : World) : Calls Tryd.prog 109 #[.agg #[.string d.name, .int .i64 d.kind, .int .i64 d.a, .int .i64 d.b, .int .i64 d.comp], .int .i64 n] w fun e w' => e = .returned (.bool (endsB d n)) ∧ Below w.heap.size w w' := by
  have hb := fun o => (Below.refl w.heap.size w).alloc (Nat.le_refl _) o
  by_cases h1 : d.a < 0
  · go_enter Tryd.func109, Tryd.ntmps109
    go_wp2_with (fail)
    go_ret
    exact ⟨retB (by simp [endsB]; omega), hb _⟩
  · by_cases h2 : n ≤ d.a
    · go_enter Tryd.func109, Tryd.ntmps109
      go_wp2_with (fail)
      go_ret
      exact ⟨retB (by simp [endsB]; omega), hb _⟩
    · have e1 : endsB d n = if joinsB d.kind then decide (0 ≤ d.b) && decide (d.b < n) && (d.b != d.a) else (d.b == -1) := by
        unfold endsB
        rw [decide_eq_true (by omega), decide_eq_true (by omega)]; rfl
      have E1 := Lib.hid e1
      clear e1
      have HJ := joins_any d.kind
      generalize joinsB d.kind = jj at *
      have HJ := Lib.hid HJ
      cases jj
      · go_enter Tryd.func109, Tryd.ntmps109
        go_wp2_with (go_at_call 31; (with_reducible refine (HJ.out _).mono ?_); rintro e w' ⟨rfl, rfl⟩)
        go_ret
        exact ⟨retB (by rw [E1.out]; simp), hb _⟩
      · by_cases h3 : 0 ≤ d.b
        · by_cases h4 : d.b < n
          · go_enter Tryd.func109, Tryd.ntmps109
            go_wp2_with (go_at_call 31; (with_reducible refine (HJ.out _).mono ?_); rintro e w' ⟨rfl, rfl⟩)
            go_ret
            exact ⟨retB (by rw [E1.out]; simp [h3, h4]), by first | exact hb _ | exact (hb _).drew⟩
          · go_enter Tryd.func109, Tryd.ntmps109
            go_wp2_with (go_at_call 31; (with_reducible refine (HJ.out _).mono ?_); rintro e w' ⟨rfl, rfl⟩)
            go_ret
            exact ⟨retB (by rw [E1.out]; simp; omega), hb _⟩
        · go_enter Tryd.func109, Tryd.ntmps109
          go_wp2_with (go_at_call 31; (with_reducible refine (HJ.out _).mono ?_); rintro e w' ⟨rfl, rfl⟩)
          go_ret
          exact ⟨retB (by rw [E1.out]; simp; omega), hb _⟩

set_option maxHeartbeats 4000000 in
theorem check_any (w : World) (h : TabC w) (S : Nat → Prop) (A1 A2 : Option Addr) (c1 c2 : Nat) (ns : List Node) (ds : List Dev) (hn : NetIn w S A1 A2 ns ds) (hl1 : ns.length ≤ 65536) (hl2 : ds.length ≤ 65536) :
    Calls Tryd.prog 16 #[.agg #[.slice A1 ns.length c1, .slice A2 ds.length c2]] w fun e w' => e = .returned (.int .i64 (checkL ns ds)) ∧ Below w.heap.size w w' := by
  by_cases h32 : 32 < ns.length
  · have e1 := Lib.hid (show checkL ns ds = 1 by unfold checkL; rw [if_pos (.inl h32)])
    go_enter Tryd.func16, Tryd.ntmps16
    go_wp2_with (fail)
    go_ret
    exact ⟨by rw [e1.out]; rfl, (Below.refl _ _).alloc (Nat.le_refl _) _⟩
  · by_cases h64 : 64 < ds.length
    · have e1 := Lib.hid (show checkL ns ds = 1 by unfold checkL; rw [if_pos (.inr h64)])
      go_enter Tryd.func16, Tryd.ntmps16
      go_wp2_with (fail)
      go_ret
      exact ⟨by rw [e1.out]; rfl, (Below.refl _ _).alloc (Nat.le_refl _) _⟩
    · have e1 := Lib.hid (show checkL ns ds = chkN ns.length ds ns [] by unfold checkL; rw [if_neg (by omega)])
      have hmm := @run_makeMap Tryd.prog
      have d32 : decide ((32 : Int) < (ns.length : Int)) = false := decide_eq_false (by omega)
      have d64 : decide ((64 : Int) < (ds.length : Int)) = false := decide_eq_false (by omega)
      go_enter Tryd.func16, Tryd.ntmps16
      go_wp2_with (fail)
      clear d32 d64 hmm
      have hU0 : USet ((w.alloc (.cells #[.slice A1 ns.length c1, .slice A2 ds.length c2] 26)).alloc (.map #[] 0)) (w.heap.size + 1) 0 [] := by
        have := USet.made (w.alloc (.cells #[.slice A1 ns.length c1, .slice A2 ds.length c2] 26))
        simpa using this
      go_loopg [22] ns.length (fun g i wr => ∃ (k : Nat) (used : List (List UInt8)), k + g = ns.length ∧ i = .int .i64 k ∧ USet wr (w.heap.size + 1) k used ∧ Below w.heap.size w wr ∧
        wr.heap[w.heap.size]? = some (.cells #[.slice A1 ns.length c1, .slice A2 ds.length c2] 26 (0, 0)) ∧ checkL ns ds = chkN ns.length ds (ns.drop k) used)
      case atStart =>
        refine ⟨0, [], by omega, rfl, hU0, ((Below.refl _ _).alloc (Nat.le_refl _) _).alloc (by simp) _, ?_, e1.out⟩
        rw [Below.heap_alloc _ _ _ (by simp)]
        exact heap_alloc_new w _
      case round =>
        clear hU0
        obtain ⟨k, used, hk, rfl, hU, hbel, hbox, hi⟩ := hrel
        have Hi := Lib.hid hi
        have Hk := Lib.hid hk
        have Hbox := Lib.hid hbox
        clear hi hk hbox e1
        have hUl := hU.lt
        by_cases hlt : k < ns.length
        · obtain ⟨b, off, rfl, hS, hbl, q0, q1, q2⟩ := (hn.below hbel).node hlt
          have Hd := Lib.hid (show chkN ns.length ds (ns.drop k) used = if nodeErr ns[k] used = 0 then chkN ns.length ds (ns.drop (k + 1)) (ns[k].name.data.toList :: used) else nodeErr ns[k] used by rw [List.drop_eq_getElem_cons hlt]; rfl)
          have hsz := hn.nsz ns[k] (List.getElem_mem hlt)
          have HE := Lib.hid (show nodeErr ns[k] used = if nameB ns[k].name = false then 3 else if decide (ns[k].name.data.toList ∈ used) then 4 else if ns[k].cust < 0 ∨ 1048576 < ns[k].cust ∨ companyB ns[k].comp = false then 5 else 0 by unfold nodeErr; simp only [decide_eq_true_eq])
          go_wp2_with (fail)
          refine (name_yes ns[k].name _ (h.below (hbel.alloc hbel.size _)) hsz).mono ?_
          rintro e w1 ⟨rfl, hb1⟩
          have hbA : Below w.heap.size w w1 := (hbel.alloc hbel.size _).trans (hb1.mono (by have := hbel.size; simp; omega))
          have hU1 := (hU.keep ((Below.refl _ _).alloc (Nat.le_refl _) (.cells #[.string ns[k].name, .int .i64 ns[k].cust, .int .i64 ns[k].comp] 104))).keep hb1
          obtain ⟨hcc, hff⟩ := bcell hb1
          have hnb := @nameB_size ns[k].name
          have Hbox1 := Lib.hid ((hb1.block w.heap.size (by have := hbel.size; simp; omega)).trans ((Below.heap_alloc _ _ _ (by omega)).trans Hbox.out))
          generalize nameB ns[k].name = nb at *
          cases nb
          · clear hnb
            go_wp2_with (fail)
            go_ret
            refine ⟨?_, hbA⟩
            rw [Hi.out, Hd.out, HE.out]
            rfl
          · have hsz2 : ns[k].name.size ≤ maxLen := hsz
            have hlk := hU1.look hsz2
            rw [if_neg (by decide)] at HE
            generalize decide (ns[k].name.data.toList ∈ used) = mem at *
            cases mem
            · obtain ⟨w2, hup, hU2, hg2⟩ := hU1.put (show k < maxLen by unfold maxLen; omega) hsz2
              have hbB : Below w.heap.size w w2 := hbA.grown hg2 hbA.size (fun g hg => by injection hg with hg; omega)
              have Hbox2 := Lib.hid ((hg2.block w.heap.size (by have := Hbox1.out; exact (Array.getElem?_eq_some_iff.1 this).1) (by intro e; injection e with e; omega)).trans Hbox1.out)
              have HCo := company_any ns[k].comp
              generalize companyB ns[k].comp = cb at *
              have HCo := Lib.hid HCo
              have Hup := Lib.hid hup
              clear hup
              by_cases g1 : ns[k].cust < 0
              · go_wp2_with (fail)
                go_ret
                refine ⟨?_, hbA⟩
                rw [Hi.out, Hd.out, HE.out]
                simp [g1]
              · by_cases g2 : 1048576 < ns[k].cust
                · go_wp2_with (fail)
                  go_ret
                  refine ⟨?_, hbA⟩
                  rw [Hi.out, Hd.out, HE.out]
                  simp [g2]
                · cases cb
                  · go_wp2_with (fail)
                    refine (HCo.out _).mono ?_
                    rintro e w' ⟨rfl, rfl⟩
                    go_wp2_with (fail)
                    go_ret
                    refine ⟨?_, hbA⟩
                    rw [Hi.out, Hd.out, HE.out]
                    simp
                  · have hup := Hup.out
                    go_wp2_with (fail)
                    refine (HCo.out _).mono ?_
                    rintro e w' ⟨rfl, rfl⟩
                    go_wp2_with (fail)
                    go_roundg (gk - 1)
                    case measure => have := Hk.out; omega
                    case rel =>
                      refine ⟨k + 1, _, by have := Hk.out; omega, by go_num, hU2, hbB, Hbox2.out, ?_⟩
                      rw [Hi.out, Hd.out, HE.out]
                      simp [g1, g2]
            · go_wp2_with (fail)
              go_ret
              refine ⟨?_, hbA⟩
              rw [Hi.out, Hd.out, HE.out]
              rfl
        · have e1 := Hi.out
          rw [List.drop_of_length_le (by omega)] at e1
          have e1 := Lib.hid (show checkL ns ds = chkD ns.length ds used from e1)
          have n0 : wr.cell? ⟨w.heap.size, 0, none⟩ = some (.slice A1 ns.length c1) := by rw [cell_of_row wr _ 0 _ _ _ Hbox.out]; rfl
          have n1 : wr.cell? ⟨w.heap.size, 1, none⟩ = some (.slice A2 ds.length c2) := by rw [cell_of_row wr _ 1 _ _ _ Hbox.out]; rfl
          go_wp2_with (fail)
          clear n0 n1 Hi hlt
          obtain ⟨wo, rfl⟩ : ∃ wo : World, wo = wr := ⟨_, rfl⟩
          have hkk := Hk.out
          go_loopg [58] ds.length (fun g i wr => ∃ (m : Nat) (us : List (List UInt8)), m + g = ds.length ∧ i = .int .i64 m ∧ USet wr (w.heap.size + 1) (k + m) us ∧ Below w.heap.size w wr ∧
            wr.heap[w.heap.size]? = some (.cells #[.slice A1 ns.length c1, .slice A2 ds.length c2] 26 (0, 0)) ∧ checkL ns ds = chkD ns.length (ds.drop m) us)
          case atStart => exact ⟨0, used, by omega, rfl, hU, hbel, Hbox.out, e1.out⟩
          case round =>
            clear hU hUl Hbox e1 hbel
            obtain ⟨m, us, hm, rfl, hU, hbel, hbox, hi⟩ := hrel
            have Hi := Lib.hid hi
            have Hm := Lib.hid hm
            have Hbox := Lib.hid hbox
            have Hkk := Lib.hid hkk
            have hklt : k ≤ 65536 := by omega
            clear hi hm hbox hkk Hk
            have hUl := hU.lt
            by_cases hlt : m < ds.length
            · obtain ⟨b, off, rfl, hS, hbl, q0, q1, q2, q3, q4⟩ := (hn.below hbel).dev hlt
              have Hd := Lib.hid (show chkD ns.length (ds.drop m) us = if devErr ns.length ds[m] us = 0 then chkD ns.length (ds.drop (m + 1)) (ds[m].name.data.toList :: us) else devErr ns.length ds[m] us by rw [List.drop_eq_getElem_cons hlt]; rfl)
              have hsz := hn.dsz ds[m] (List.getElem_mem hlt)
              have HE := Lib.hid (show devErr ns.length ds[m] us = if nameB ds[m].name = false then 3 else if decide (ds[m].name.data.toList ∈ us) then 4 else if ds[m].kind < 1 ∨ 6 < ds[m].kind then 6 else if endsB ds[m] ns.length = false then 7 else if companyB ds[m].comp = false then 5 else 0 by unfold devErr; simp only [decide_eq_true_eq])
              go_wp2_with (fail)
              refine (name_yes ds[m].name _ (h.below (hbel.alloc hbel.size _)) hsz).mono ?_
              rintro e w1 ⟨rfl, hb1⟩
              have hbA : Below w.heap.size w w1 := (hbel.alloc hbel.size _).trans (hb1.mono (by have := hbel.size; simp; omega))
              have hU1 := (hU.keep ((Below.refl _ _).alloc (Nat.le_refl _) (.cells #[.string ds[m].name, .int .i64 ds[m].kind, .int .i64 ds[m].a, .int .i64 ds[m].b, .int .i64 ds[m].comp] 78))).keep hb1
              obtain ⟨hcc, hff⟩ := bcell hb1
              have Hbox1 := Lib.hid ((hb1.block w.heap.size (by have := hbel.size; simp; omega)).trans ((Below.heap_alloc _ _ _ (by omega)).trans Hbox.out))
              generalize nameB ds[m].name = nb at *
              cases nb
              · go_wp2_with (fail)
                go_ret
                refine ⟨?_, hbA⟩
                rw [Hi.out, Hd.out, HE.out]
                rfl
              · have hlk := hU1.look hsz
                rw [if_neg (by decide)] at HE
                generalize decide (ds[m].name.data.toList ∈ us) = mem at *
                cases mem
                · by_cases g1 : ds[m].kind < 1
                  · go_wp2_with (fail)
                    go_ret
                    refine ⟨?_, hbA⟩
                    rw [Hi.out, Hd.out, HE.out]
                    simp [g1]
                  · by_cases g2 : 6 < ds[m].kind
                    · go_wp2_with (fail)
                      go_ret
                      refine ⟨?_, hbA⟩
                      rw [Hi.out, Hd.out, HE.out]
                      simp [g2]
                    · have hgk : ¬ (ds[m].kind < 1 ∨ 6 < ds[m].kind) := by omega
                      rw [if_neg (by decide), if_neg hgk] at HE
                      clear hgk
                      have n0' : w1.cell? ⟨w.heap.size, 0, none⟩ = some (.slice A1 ns.length c1) := by rw [cell_of_row w1 _ 0 _ _ _ Hbox1.out]; rfl
                      go_wp2_with (fail)
                      refine (ends_any ds[m] ns.length w1).mono ?_
                      rintro e w2 ⟨rfl, hb2⟩
                      have hbB : Below w.heap.size w w2 := hbA.trans (hb2.mono hbA.size)
                      have hU2 := hU1.keep hb2
                      have hcc2 := (bcell hb2).1
                      have hsize1 : wr.heap.size < w1.heap.size := by have := hb1.size; simp at this; omega
                      have Hbox2 := Lib.hid ((hb2.block w.heap.size (by have := hbel.size; omega)).trans Hbox1.out)
                      clear Hbox1 hlk
                      generalize endsB ds[m] ns.length = eb at *
                      cases eb
                      · go_wp2_with (fail)
                        go_ret
                        refine ⟨?_, hbB⟩
                        rw [Hi.out, Hd.out, HE.out]
                        rfl
                      · have HCo := company_any ds[m].comp
                        generalize companyB ds[m].comp = cb at *
                        have HCo := Lib.hid HCo
                        obtain ⟨w3, hup, hU3, hg3⟩ := hU2.put (show k + m < maxLen by unfold maxLen; omega) hsz
                        have hbC : Below w.heap.size w w3 := hbB.grown hg3 hbB.size (fun g hg => by injection hg with hg; omega)
                        have Hbox3 := Lib.hid ((hg3.block w.heap.size (by have := Hbox2.out; exact (Array.getElem?_eq_some_iff.1 this).1) (by intro e; injection e with e; omega)).trans Hbox2.out)
                        have Hup := Lib.hid hup
                        clear hup
                        go_wp2_with (fail)
                        refine (HCo.out _).mono ?_
                        rintro e w' ⟨rfl, rfl⟩
                        cases cb
                        · go_wp2_with (fail)
                          go_ret
                          refine ⟨?_, hbB⟩
                          rw [Hi.out, Hd.out, HE.out]
                          rfl
                        · have hup := Hup.out
                          go_wp2_with (fail)
                          go_roundg (gk - 1)
                          case measure => have := Hm.out; omega
                          case rel =>
                            refine ⟨m + 1, _, by have := Hm.out; omega, by go_num, hU3, hbC, Hbox3.out, ?_⟩
                            rw [Hi.out, Hd.out, HE.out]
                            rfl
                · go_wp2_with (fail)
                  go_ret
                  refine ⟨?_, hbA⟩
                  rw [Hi.out, Hd.out, HE.out]
                  rfl
            · have e1 := Hi.out
              rw [List.drop_of_length_le (by omega)] at e1
              have e1 := Lib.hid (show checkL ns ds = 0 from e1)
              go_wp2_with (fail)
              go_ret
              exact ⟨by rw [e1.out]; rfl, hbel⟩
end Go.Proofs.YtgpcojmdfmngeaaDoor

namespace Go.Proofs.YtgpcojmdfmngeaaDoor
open Go.RowKit
set_option maxHeartbeats 400000
set_option maxRecDepth 100000

def acrossL (d : Dev) (v : Int) : Int := if joinsB d.kind = false then -1 else if d.a == v then d.b else if d.b == v then d.a else -1
def isL (d : Dev) (v : Int) : Bool := (d.a == v) || (joinsB d.kind && (d.b == v))
abbrev devAgg (d : Dev) : Value := .agg #[.string d.name, .int .i64 d.kind, .int .i64 d.a, .int .i64 d.b, .int .i64 d.comp]

theorem retI {a b : Int} (h : a = b) : Ending.returned (.int .i64 a) = .returned (.int .i64 b) := by rw [h]

theorem across_any (d : Dev) (v : Int) (w : World) : Calls Tryd.prog 117 #[.agg #[.string d.name, .int .i64 d.kind, .int .i64 d.a, .int .i64 d.b, .int .i64 d.comp], .int .i64 v] w fun e w' => e = .returned (.int .i64 (acrossL d v)) ∧ Below w.heap.size w w' := by
  have hb := fun o => (Below.refl w.heap.size w).alloc (Nat.le_refl _) o
  have HE := Lib.hid (show acrossL d v = if joinsB d.kind = false then -1 else if d.a == v then d.b else if d.b == v then d.a else -1 from rfl)
  have HJ := joins_any d.kind
  generalize joinsB d.kind = jj at *
  have HJ := Lib.hid HJ
  cases jj
  · go_enter Tryd.func117, Tryd.ntmps117
    go_wp2_with (go_at_call 31; (with_reducible refine (HJ.out _).mono ?_); rintro e w' ⟨rfl, rfl⟩)
    go_ret
    exact ⟨by rw [HE.out]; rfl, hb _⟩
  · by_cases h1 : (d.a == v) = true
    · rw [h1] at HE
      go_enter Tryd.func117, Tryd.ntmps117
      go_wp2_with (go_at_call 31; (with_reducible refine (HJ.out _).mono ?_); rintro e w' ⟨rfl, rfl⟩)
      go_ret
      exact ⟨by rw [HE.out]; rfl, hb _⟩
    · have h1 : (d.a == v) = false := by simpa using h1
      rw [h1] at HE
      by_cases h2 : (d.b == v) = true
      · rw [h2] at HE
        go_enter Tryd.func117, Tryd.ntmps117
        go_wp2_with (go_at_call 31; (with_reducible refine (HJ.out _).mono ?_); rintro e w' ⟨rfl, rfl⟩)
        go_ret
        exact ⟨by rw [HE.out]; rfl, hb _⟩
      · have h2 : (d.b == v) = false := by simpa using h2
        rw [h2] at HE
        go_enter Tryd.func117, Tryd.ntmps117
        go_wp2_with (go_at_call 31; (with_reducible refine (HJ.out _).mono ?_); rintro e w' ⟨rfl, rfl⟩)
        go_ret
        exact ⟨by rw [HE.out]; rfl, hb _⟩

theorem is_at (d : Dev) (v : Int) (w : World) : Calls Tryd.prog 116 #[.agg #[.string d.name, .int .i64 d.kind, .int .i64 d.a, .int .i64 d.b, .int .i64 d.comp], .int .i64 v] w fun e w' => e = .returned (.bool (isL d v)) ∧ Below w.heap.size w w' := by
  have hb := fun o => (Below.refl w.heap.size w).alloc (Nat.le_refl _) o
  have HE := Lib.hid (show isL d v = ((d.a == v) || (joinsB d.kind && (d.b == v))) from rfl)
  have HJ := joins_any d.kind
  generalize joinsB d.kind = jj at *
  have HJ := Lib.hid HJ
  by_cases h1 : (d.a == v) = true
  · rw [h1] at HE
    go_enter Tryd.func116, Tryd.ntmps116
    go_wp2_with (go_at_call 31; (with_reducible refine (HJ.out _).mono ?_); rintro e w' ⟨rfl, rfl⟩)
    go_ret
    exact ⟨by rw [HE.out]; rfl, hb _⟩
  · have h1 : (d.a == v) = false := by simpa using h1
    rw [h1] at HE
    cases jj
    · go_enter Tryd.func116, Tryd.ntmps116
      go_wp2_with (go_at_call 31; (with_reducible refine (HJ.out _).mono ?_); rintro e w' ⟨rfl, rfl⟩)
      go_ret
      exact ⟨by rw [HE.out]; rfl, hb _⟩
    · go_enter Tryd.func116, Tryd.ntmps116
      go_wp2_with (go_at_call 31; (with_reducible refine (HJ.out _).mono ?_); rintro e w' ⟨rfl, rfl⟩)
      go_ret
      exact ⟨by rw [HE.out]; rfl, hb _⟩

def existsB (n : Nat) (v : Int) : Bool := decide (0 ≤ v) && decide (v < n)
theorem exists_any (A1 A2 : Option Addr) (n c1 m c2 : Nat) (v : Int) (w : World) : Calls Tryd.prog 115 #[.agg #[.slice A1 n c1, .slice A2 m c2], .int .i64 v] w fun e w' => e = .returned (.bool (existsB n v)) ∧ Below w.heap.size w w' := by
  have hb := fun o => (Below.refl w.heap.size w).alloc (Nat.le_refl _) o
  by_cases h1 : 0 ≤ v
  · go_enter Tryd.func115, Tryd.ntmps115
    go_wp2_with (fail)
    go_ret
    exact ⟨retB (by simp [existsB, h1]), hb _⟩
  · go_enter Tryd.func115, Tryd.ntmps115
    go_wp2_with (fail)
    go_ret
    exact ⟨retB (by simp [existsB]; omega), hb _⟩

theorem box_at {w w1 : World} {o : Obj} (hb : Below (w.alloc o).heap.size (w.alloc o) w1) : w1.heap[w.heap.size]? = some o := (hb.block _ (by simp)).trans (heap_alloc_new w o)

/-- the node behind a device -/
def otherL (ns : List Node) (ds : List Dev) (i v : Int) : Int := if checkL ns ds = 0 ∧ 0 ≤ i ∧ i < ds.length then (match ds[i.toNat]? with | some d => acrossL d v | none => -1) else -1

theorem other_any (w : World) (h : TabC w) (S : Nat → Prop) (A1 A2 : Option Addr) (c1 c2 : Nat) (ns : List Node) (ds : List Dev) (hn : NetIn w S A1 A2 ns ds) (hl1 : ns.length ≤ 65536) (hl2 : ds.length ≤ 65536) (i v : Int) :
    Calls Tryd.prog 26 #[.agg #[.slice A1 ns.length c1, .slice A2 ds.length c2], .int .i64 i, .int .i64 v] w fun e w' => e = .returned (.int .i64 (otherL ns ds i v)) ∧ Below w.heap.size w w' := by
  have hb := (Below.refl w.heap.size w).alloc (Nat.le_refl _) (.cells #[.slice A1 ns.length c1, .slice A2 ds.length c2] 26)
  have HC := Lib.hid (check_any _ (h.below hb) S A1 A2 c1 c2 ns ds (hn.below hb) hl1 hl2)
  have HE := Lib.hid (show otherL ns ds i v = if checkL ns ds = 0 ∧ 0 ≤ i ∧ i < ds.length then (match ds[i.toNat]? with | some d => acrossL d v | none => -1) else -1 from rfl)
  generalize checkL ns ds = ce at *
  by_cases h0 : (ce != 0) = true
  · have H0 := Lib.hid (show ¬ ce = 0 by simpa using h0)
    go_enter Tryd.func26, Tryd.ntmps26
    go_wp2_with (go_at_call 16; (with_reducible refine (HC.out).mono ?_); rintro e w1 ⟨rfl, hb1⟩)
    go_ret
    exact ⟨by rw [HE.out, if_neg (fun h => H0.out h.1)]; rfl, hb.trans (hb1.mono hb.size)⟩
  · have h0' : (ce != 0) = false := by simpa using h0
    have H0 := Lib.hid (show ce = 0 by simpa using h0)
    clear h0
    by_cases h1 : i < 0
    · have h1' : decide (i < 0) = true := by simp; omega
      go_enter Tryd.func26, Tryd.ntmps26
      go_wp2_with (go_at_call 16; (with_reducible refine (HC.out).mono ?_); rintro e w1 ⟨rfl, hb1⟩)
      go_ret
      exact ⟨by rw [HE.out, if_neg (by omega)]; rfl, hb.trans (hb1.mono hb.size)⟩
    · by_cases h2 : (ds.length : Int) ≤ i
      · have hx : ∀ w1 : World, Below (w.alloc (.cells #[.slice A1 ns.length c1, .slice A2 ds.length c2] 26)).heap.size (w.alloc (.cells #[.slice A1 ns.length c1, .slice A2 ds.length c2] 26)) w1 → w1.cell? ⟨w.heap.size, 1, none⟩ = some (.slice A2 ds.length c2) := fun w1 hb1 => by
          rw [hb1.cell (p := ⟨w.heap.size, 1, none⟩) (by simp), cell_of_row _ w.heap.size 1 _ _ _ (heap_alloc_new w _)]; rfl
        have HX := Lib.hid hx
        clear hx
        go_enter Tryd.func26, Tryd.ntmps26
        go_wp2_with (go_at_call 16; (with_reducible refine (HC.out).mono ?_); rintro e w1 ⟨rfl, hb1⟩; have hx1 := HX.out w1 hb1)
        go_ret
        exact ⟨by rw [HE.out, if_neg (by omega)]; rfl, hb.trans (hb1.mono hb.size)⟩
      · obtain ⟨k, rfl⟩ := Int.eq_ofNat_of_zero_le (show 0 ≤ i by omega)
        have hk : k < ds.length := by omega
        have HE2 := Lib.hid (show otherL ns ds k v = acrossL ds[k] v by rw [HE.out, if_pos ⟨H0.out, by omega, by omega⟩]; simp [hk])
        clear HE h1 h2
        go_enter Tryd.func26, Tryd.ntmps26
        go_wp2_with (fail)
        refine (HC.out).mono ?_
        rintro e w1 ⟨rfl, hb1⟩
        have hbox := box_at hb1
        have n1 : w1.cell? ⟨w.heap.size, 1, none⟩ = some (.slice A2 ds.length c2) := by rw [cell_of_row w1 _ 1 _ _ _ hbox]; rfl
        have hbA := hb.trans (hb1.mono hb.size)
        obtain ⟨b, off, rfl, hS, hbl, q0, q1, q2, q3, q4⟩ := (hn.below hbA).dev hk
        clear hbox
        go_wp2_with (fail)
        refine (across_any ds[k] v w1).mono ?_
        rintro e w2 ⟨rfl, hb2⟩
        go_wp2_with (fail)
        go_ret
        exact ⟨by rw [HE2.out]; rfl, hbA.trans (hb2.mono hbA.size)⟩

def atFrom (v : Int) : List Dev → Nat → List Int
  | [], _ => []
  | d :: ds, k => if isL d v then (k : Int) :: atFrom v ds (k + 1) else atFrom v ds (k + 1)
def atL (ns : List Node) (ds : List Dev) (v : Int) : List Int := if checkL ns ds = 0 ∧ existsB ns.length v = true then atFrom v ds 0 else []
theorem atFrom_drop (v : Int) (ds : List Dev) (k : Nat) (h : k < ds.length) : atFrom v (ds.drop k) k = if isL ds[k] v then (k : Int) :: atFrom v (ds.drop (k + 1)) (k + 1) else atFrom v (ds.drop (k + 1)) (k + 1) := by
  rw [List.drop_eq_getElem_cons h]; rfl

theorem at_any (w : World) (h : TabC w) (S : Nat → Prop) (A1 A2 : Option Addr) (c1 c2 : Nat) (ns : List Node) (ds : List Dev) (hn : NetIn w S A1 A2 ns ds) (hl1 : ns.length ≤ 65536) (hl2 : ds.length ≤ 65536) (v : Int) :
    Calls Tryd.prog 24 #[.agg #[.slice A1 ns.length c1, .slice A2 ds.length c2], .int .i64 v] w (RetOI w (atL ns ds v)) := by
  have hb := (Below.refl w.heap.size w).alloc (Nat.le_refl _) (.cells #[.slice A1 ns.length c1, .slice A2 ds.length c2] 26)
  have HC := Lib.hid (check_any _ (h.below hb) S A1 A2 c1 c2 ns ds (hn.below hb) hl1 hl2)
  have HE := Lib.hid (show atL ns ds v = if checkL ns ds = 0 ∧ existsB ns.length v = true then atFrom v ds 0 else [] from rfl)
  have HX := fun w => exists_any A1 A2 ns.length c1 ds.length c2 v w
  generalize checkL ns ds = ce at *
  generalize existsB ns.length v = ex at *
  have HX := Lib.hid HX
  by_cases h0 : (ce != 0) = true
  · have H0 := Lib.hid (show ¬ ce = 0 by simpa using h0)
    go_enter Tryd.func24, Tryd.ntmps24
    go_wp2_with (go_at_call 16; (with_reducible refine (HC.out).mono ?_); rintro e w1 ⟨rfl, hb1⟩)
    go_ret
    rw [HE.out, if_neg (fun h => H0.out h.1)]
    exact ⟨none, 0, rfl, OI.nil _ _, hb.trans (hb1.mono hb.size)⟩
  · have h0' : (ce != 0) = false := by simpa using h0
    have H0 := Lib.hid (show ce = 0 by simpa using h0)
    clear h0
    cases ex
    · go_enter Tryd.func24, Tryd.ntmps24
      go_wp2_with (fail)
      refine (HC.out).mono ?_
      rintro e w1 ⟨rfl, hb1⟩
      have hbA := hb.trans (hb1.mono hb.size)
      have hbox := box_at hb1
      have n0 : w1.cell? ⟨w.heap.size, 0, none⟩ = some (.slice A1 ns.length c1) := by rw [cell_of_row w1 _ 0 _ _ _ hbox]; rfl
      have n1 : w1.cell? ⟨w.heap.size, 1, none⟩ = some (.slice A2 ds.length c2) := by rw [cell_of_row w1 _ 1 _ _ _ hbox]; rfl
      clear hbox
      go_wp2_with (fail)
      refine (HX.out w1).mono ?_
      rintro e w2 ⟨rfl, hb2⟩
      go_wp2_with (fail)
      go_ret
      rw [HE.out, if_neg (fun h => by cases h.2)]
      exact ⟨none, 0, rfl, OI.nil _ _, hbA.trans (hb2.mono hbA.size)⟩
    · have HE2 := Lib.hid (show atL ns ds v = atFrom v ds 0 by rw [HE.out, if_pos ⟨H0.out, rfl⟩])
      clear HE
      go_enter Tryd.func24, Tryd.ntmps24
      go_wp2_with (fail)
      refine (HC.out).mono ?_
      rintro e w1 ⟨rfl, hb1⟩
      have hbA := hb.trans (hb1.mono hb.size)
      have Hbox := Lib.hid (box_at hb1)
      have n0 : w1.cell? ⟨w.heap.size, 0, none⟩ = some (.slice A1 ns.length c1) := by rw [cell_of_row w1 _ 0 _ _ _ Hbox.out]; rfl
      have n1 : w1.cell? ⟨w.heap.size, 1, none⟩ = some (.slice A2 ds.length c2) := by rw [cell_of_row w1 _ 1 _ _ _ Hbox.out]; rfl
      go_wp2_with (fail)
      refine (HX.out w1).mono ?_
      rintro e w2 ⟨rfl, hb2⟩
      have hbB := hbA.trans (hb2.mono hbA.size)
      have n2 : w2.cell? ⟨w.heap.size, 1, none⟩ = some (.slice A2 ds.length c2) := (hb2.cell (p := ⟨w.heap.size, 1, none⟩) (World.block_lt_of_cell? _ _ n1)).trans n1
      clear n0 n1 Hbox
      go_wp2_with (fail)
      clear n2
      go_loopg [5, 20] ds.length (fun g v' i wr => ∃ (k : Nat) (A' : Option Addr) (c' : Nat) (ys : List Int), k + g = ds.length ∧ i = .int .i64 k ∧ v' = .slice A' ys.length c' ∧ OI wr (fun g => w.heap.size ≤ g) A' c' ys ∧ Below w.heap.size w wr ∧
        ys ++ atFrom v (ds.drop k) k = atL ns ds v ∧ ys.length ≤ k)
      case atStart => exact ⟨0, none, 0, [], by omega, rfl, rfl, OI.nil _ _, hbB, by rw [HE2.out]; rfl, Nat.le_refl _⟩
      case round =>
        obtain ⟨k, A', c', ys, hk, rfl, rfl, hown, hbel, hi, hyl⟩ := hrel
        have Hi := Lib.hid hi
        have Hk := Lib.hid hk
        clear hi hk
        by_cases hlt : k < ds.length
        · obtain ⟨b, off, rfl, _, _, q0, q1, q2, q3, q4⟩ := (hn.below hbel).dev hlt
          have Hd := Lib.hid (atFrom_drop v ds k hlt)
          go_wp2_with (fail)
          refine (is_at ds[k] v _).mono ?_
          rintro e w3 ⟨rfl, hb3⟩
          have hbC := (hbel.alloc hbel.size (.cells #[.string ds[k].name, .int .i64 ds[k].kind, .int .i64 ds[k].a, .int .i64 ds[k].b, .int .i64 ds[k].comp] 78)).trans (hb3.mono (by have := hbel.size; simp; omega))
          have hown3 := (hown.keep (Kept.alloc _ _ (.cells #[.string ds[k].name, .int .i64 ds[k].kind, .int .i64 ds[k].a, .int .i64 ds[k].b, .int .i64 ds[k].comp] 78))).keep (Kept.of_below hb3)
          generalize isL ds[k] v = ib at *
          cases ib
          · go_wp2_with (fail)
            go_roundg (gk - 1)
            case measure => have := Hk.out; omega
            case rel =>
              refine ⟨k + 1, _, _, _, by have := Hk.out; omega, by go_num, rfl, hown3, hbC, ?_, by omega⟩
              rw [← Hi.out, Hd.out, if_neg (by decide)]
          · go_wp2_with (at_builtin; go_must (refine wpList_push (B := w.heap.size) rfl (.tmp 28) (.tmp 30) rfl rfl rfl rfl (hown3.keep (Kept.alloc _ _ _)) (new_cell _ _ _) (by omega) (by simp; have := hbC.size; omega) ?_); intro A1' c1' w4 ho4 hb4 _ _)
            go_roundg (gk - 1)
            case measure => have := Hk.out; omega
            case rel =>
              refine ⟨k + 1, _, _, _, by have := Hk.out; omega, by go_num, ?_, ho4, (hbC.alloc hbC.size _).trans hb4, ?_, ?_⟩
              · simp
              · rw [← Hi.out, Hd.out]; simp
              · simp; omega
        · go_wp2_with (fail)
          go_ret
          have := Hi.out
          rw [List.drop_of_length_le (by omega)] at this
          simp [atFrom] at this
          rw [← this]
          exact ⟨A', c', rfl, hown, hbel⟩

theorem node1_any (x : Node) (nm : ByteArray) (bs : Nat) (w : World) (hc : w.cell? ⟨bs, 0, none⟩ = some (.string nm)) : Calls Tryd.prog 112 #[.agg #[.string x.name, .int .i64 x.cust, .int .i64 x.comp], .pointer (some ⟨bs, 0, none⟩)] w fun e w' => e = .returned (.bool (x.name.toList == nm.toList)) ∧ Below w.heap.size w w' := by
  have hb := fun o => (Below.refl w.heap.size w).alloc (Nat.le_refl _) o
  have hbs : bs < w.heap.size := World.block_lt_of_cell? w _ hc
  have hne : ¬ bs = w.heap.size := by omega
  go_enter Tryd.func112, Tryd.ntmps112
  go_wp2_with (fail)
  go_ret
  exact ⟨rfl, hb _⟩

def nodeIdx (nm : ByteArray) : List Node → Nat → Int
  | [], _ => -1
  | x :: xs, k => if x.name.toList == nm.toList then k else nodeIdx nm xs (k + 1)
theorem nodeIdx_drop (nm : ByteArray) (xs : List Node) (k : Nat) (h : k < xs.length) : nodeIdx nm (xs.drop k) k = if xs[k].name.toList == nm.toList then (k : Int) else nodeIdx nm (xs.drop (k + 1)) (k + 1) := by
  rw [List.drop_eq_getElem_cons h]; rfl
theorem goes_node1 : Goes 112 := fun args w => by kernel_rfl

theorem nodeFunc_any (w : World) (S : Nat → Prop) (A1 A2 : Option Addr) (c : Nat) (ns : List Node) (ds : List Dev) (hn : NetIn w S A1 A2 ns ds) (hl : ns.length ≤ 65536) (nm : ByteArray) (bs : Nat) (hc : w.cell? ⟨bs, 0, none⟩ = some (.string nm)) :
    Calls Tryd.prog 111 #[.slice A1 ns.length c, .func (.func 112) #[] #[.pointer (some ⟨bs, 0, none⟩)]] w fun e w' => e = .returned (.int .i64 (nodeIdx nm ns 0)) ∧ Below w.heap.size w w' := by
  have hgo := goes_node1
  unfold Goes at hgo
  go_enter Tryd.func111, Tryd.ntmps111
  go_wp2_with (fail)
  go_loopg [8] ns.length (fun g i wr => Below w.heap.size w wr ∧ ∃ k : Nat, k + g = ns.length ∧ i = .int .i64 k ∧ nodeIdx nm ns 0 = nodeIdx nm (ns.drop k) k)
  case atStart => exact ⟨Below.refl _ _, 0, by omega, rfl, rfl⟩
  case round =>
    obtain ⟨hbel, k, hk, rfl, hi⟩ := hrel
    have Hi := Lib.hid hi
    have Hk := Lib.hid hk
    clear hi hk
    by_cases hlt : k < ns.length
    · obtain ⟨b, off, rfl, _, _, q0, q1, q2⟩ := (hn.below hbel).node hlt
      have Hd := Lib.hid (nodeIdx_drop nm ns k hlt)
      have hcr : wr.cell? ⟨bs, 0, none⟩ = some (.string nm) := (hbel.cell (p := ⟨bs, 0, none⟩) (World.block_lt_of_cell? w _ hc)).trans hc
      go_wp2_with (fail)
      refine (node1_any ns[k] nm bs wr hcr).mono ?_
      rintro e w1 ⟨rfl, hb1⟩
      have hbA := hbel.trans (hb1.mono hbel.size)
      generalize (ns[k].name.toList == nm.toList) = eb at *
      cases eb
      · go_wp2_with (fail)
        go_roundg (gk - 1)
        case measure => have := Hk.out; omega
        case rel =>
          refine ⟨hbA, k + 1, by have := Hk.out; omega, by go_num, ?_⟩
          rw [Hi.out, Hd.out]
          simp
      · go_wp2_with (fail)
        go_ret
        refine ⟨?_, hbA⟩
        rw [Hi.out, Hd.out]
        rfl
    · go_wp2_with (fail)
      go_ret
      refine ⟨?_, hbel⟩
      rw [Hi.out, List.drop_of_length_le (by omega)]
      rfl

def nodeL (ns : List Node) (ds : List Dev) (nm : ByteArray) : Int := if checkL ns ds = 0 then nodeIdx nm ns 0 else -1
theorem node_net (w : World) (h : TabC w) (S : Nat → Prop) (A1 A2 : Option Addr) (c1 c2 : Nat) (ns : List Node) (ds : List Dev) (hn : NetIn w S A1 A2 ns ds) (hl1 : ns.length ≤ 65536) (hl2 : ds.length ≤ 65536) (nm : ByteArray) :
    Calls Tryd.prog 18 #[.agg #[.slice A1 ns.length c1, .slice A2 ds.length c2], .string nm] w fun e w' => e = .returned (.int .i64 (nodeL ns ds nm)) ∧ Below w.heap.size w w' := by
  obtain ⟨W, hW⟩ : ∃ W, W = (w.alloc (.cells #[.slice A1 ns.length c1, .slice A2 ds.length c2] 26)).alloc (.cells #[.string nm] 9) := ⟨_, rfl⟩
  have hb : Below w.heap.size w W := by rw [hW]; exact ((Below.refl w.heap.size w).alloc (Nat.le_refl _) _).alloc (by simp) _
  have hbox : W.heap[w.heap.size]? = some (.cells #[.slice A1 ns.length c1, .slice A2 ds.length c2] 26 (0, 0)) := by rw [hW, Below.heap_alloc _ _ _ (by simp)]; exact heap_alloc_new w _
  have hbox2 : W.heap[w.heap.size + 1]? = some (.cells #[.string nm] 9 (0, 0)) := by
    have := heap_alloc_new (w.alloc (.cells #[.slice A1 ns.length c1, .slice A2 ds.length c2] 26)) (.cells #[.string nm] 9)
    rw [hW]; simpa using this
  have HC := Lib.hid (check_any W (h.below hb) S A1 A2 c1 c2 ns ds (hn.below hb) hl1 hl2)
  have HE := Lib.hid (show nodeL ns ds nm = if checkL ns ds = 0 then nodeIdx nm ns 0 else -1 from rfl)
  generalize checkL ns ds = ce at *
  have HW := Lib.hid hW
  have Hbox := Lib.hid hbox
  have Hbox2 := Lib.hid hbox2
  clear hbox hbox2 hW
  by_cases h0 : (ce != 0) = true
  · have H0 := Lib.hid (show ¬ ce = 0 by simpa using h0)
    go_enter Tryd.func18, Tryd.ntmps18
    go_wp2_with (fail)
    rw [← HW.out]
    refine (HC.out).mono ?_
    rintro e w1 ⟨rfl, hb1⟩
    go_wp2_with (fail)
    go_ret
    exact ⟨by rw [HE.out, if_neg H0.out]; rfl, hb.trans (hb1.mono hb.size)⟩
  · have h0' : (ce != 0) = false := by simpa using h0
    have H0 := Lib.hid (show ce = 0 by simpa using h0)
    clear h0
    go_enter Tryd.func18, Tryd.ntmps18
    go_wp2_with (fail)
    rw [← HW.out]
    refine (HC.out).mono ?_
    rintro e w1 ⟨rfl, hb1⟩
    have hbA := hb.trans (hb1.mono hb.size)
    have hx := (hb1.block _ (Array.getElem?_eq_some_iff.1 Hbox.out).1).trans Hbox.out
    have hx2 := (hb1.block _ (Array.getElem?_eq_some_iff.1 Hbox2.out).1).trans Hbox2.out
    have n0 : w1.cell? ⟨w.heap.size, 0, none⟩ = some (.slice A1 ns.length c1) := by rw [cell_of_row w1 _ 0 _ _ _ hx]; rfl
    have n1 : w1.cell? ⟨w.heap.size, 1, none⟩ = some (.slice A2 ds.length c2) := by rw [cell_of_row w1 _ 1 _ _ _ hx]; rfl
    have n2 : w1.cell? ⟨w.heap.size + 1, 0, none⟩ = some (.string nm) := by rw [cell_of_row w1 _ 0 _ _ _ hx2]; rfl
    clear hx hx2
    go_wp2_with (fail)
    refine (nodeFunc_any w1 S A1 A2 _ ns ds (hn.below hbA) hl1 nm (w.heap.size + 1) n2).mono ?_
    rintro e w2 ⟨rfl, hb2⟩
    go_wp2_with (fail)
    go_ret
    exact ⟨by rw [HE.out, if_pos H0.out]; rfl, hbA.trans (hb2.mono hbA.size)⟩

theorem dev1_any (x : Dev) (nm : ByteArray) (bs : Nat) (w : World) (hc : w.cell? ⟨bs, 0, none⟩ = some (.string nm)) : Calls Tryd.prog 114 #[.agg #[.string x.name, .int .i64 x.kind, .int .i64 x.a, .int .i64 x.b, .int .i64 x.comp], .pointer (some ⟨bs, 0, none⟩)] w fun e w' => e = .returned (.bool (x.name.toList == nm.toList)) ∧ Below w.heap.size w w' := by
  have hb := fun o => (Below.refl w.heap.size w).alloc (Nat.le_refl _) o
  have hbs : bs < w.heap.size := World.block_lt_of_cell? w _ hc
  have hne : ¬ bs = w.heap.size := by omega
  go_enter Tryd.func114, Tryd.ntmps114
  go_wp2_with (fail)
  go_ret
  exact ⟨rfl, hb _⟩

def devIdx (nm : ByteArray) : List Dev → Nat → Int
  | [], _ => -1
  | x :: xs, k => if x.name.toList == nm.toList then k else devIdx nm xs (k + 1)
theorem devIdx_drop (nm : ByteArray) (xs : List Dev) (k : Nat) (h : k < xs.length) : devIdx nm (xs.drop k) k = if xs[k].name.toList == nm.toList then (k : Int) else devIdx nm (xs.drop (k + 1)) (k + 1) := by
  rw [List.drop_eq_getElem_cons h]; rfl
theorem goes_dev1 : Goes 114 := fun args w => by kernel_rfl

theorem devFunc_any (w : World) (S : Nat → Prop) (A1 A2 : Option Addr) (c : Nat) (ns : List Node) (ds : List Dev) (hn : NetIn w S A1 A2 ns ds) (hl : ds.length ≤ 65536) (nm : ByteArray) (bs : Nat) (hc : w.cell? ⟨bs, 0, none⟩ = some (.string nm)) :
    Calls Tryd.prog 113 #[.slice A2 ds.length c, .func (.func 114) #[] #[.pointer (some ⟨bs, 0, none⟩)]] w fun e w' => e = .returned (.int .i64 (devIdx nm ds 0)) ∧ Below w.heap.size w w' := by
  have hgo := goes_dev1
  unfold Goes at hgo
  go_enter Tryd.func113, Tryd.ntmps113
  go_wp2_with (fail)
  go_loopg [8] ds.length (fun g i wr => Below w.heap.size w wr ∧ ∃ k : Nat, k + g = ds.length ∧ i = .int .i64 k ∧ devIdx nm ds 0 = devIdx nm (ds.drop k) k)
  case atStart => exact ⟨Below.refl _ _, 0, by omega, rfl, rfl⟩
  case round =>
    obtain ⟨hbel, k, hk, rfl, hi⟩ := hrel
    have Hi := Lib.hid hi
    have Hk := Lib.hid hk
    clear hi hk
    by_cases hlt : k < ds.length
    · obtain ⟨b, off, rfl, _, _, q0, q1, q2, q3, q4⟩ := (hn.below hbel).dev hlt
      have Hd := Lib.hid (devIdx_drop nm ds k hlt)
      have hcr : wr.cell? ⟨bs, 0, none⟩ = some (.string nm) := (hbel.cell (p := ⟨bs, 0, none⟩) (World.block_lt_of_cell? w _ hc)).trans hc
      go_wp2_with (fail)
      refine (dev1_any ds[k] nm bs wr hcr).mono ?_
      rintro e w1 ⟨rfl, hb1⟩
      have hbA := hbel.trans (hb1.mono hbel.size)
      generalize (ds[k].name.toList == nm.toList) = eb at *
      cases eb
      · go_wp2_with (fail)
        go_roundg (gk - 1)
        case measure => have := Hk.out; omega
        case rel =>
          refine ⟨hbA, k + 1, by have := Hk.out; omega, by go_num, ?_⟩
          rw [Hi.out, Hd.out]
          simp
      · go_wp2_with (fail)
        go_ret
        refine ⟨?_, hbA⟩
        rw [Hi.out, Hd.out]
        rfl
    · go_wp2_with (fail)
      go_ret
      refine ⟨?_, hbel⟩
      rw [Hi.out, List.drop_of_length_le (by omega)]
      rfl

def devL (ns : List Node) (ds : List Dev) (nm : ByteArray) : Int := if checkL ns ds = 0 then devIdx nm ds 0 else -1
theorem dev_net (w : World) (h : TabC w) (S : Nat → Prop) (A1 A2 : Option Addr) (c1 c2 : Nat) (ns : List Node) (ds : List Dev) (hn : NetIn w S A1 A2 ns ds) (hl1 : ns.length ≤ 65536) (hl2 : ds.length ≤ 65536) (nm : ByteArray) :
    Calls Tryd.prog 20 #[.agg #[.slice A1 ns.length c1, .slice A2 ds.length c2], .string nm] w fun e w' => e = .returned (.int .i64 (devL ns ds nm)) ∧ Below w.heap.size w w' := by
  obtain ⟨W, hW⟩ : ∃ W, W = (w.alloc (.cells #[.slice A1 ns.length c1, .slice A2 ds.length c2] 26)).alloc (.cells #[.string nm] 9) := ⟨_, rfl⟩
  have hb : Below w.heap.size w W := by rw [hW]; exact ((Below.refl w.heap.size w).alloc (Nat.le_refl _) _).alloc (by simp) _
  have hbox : W.heap[w.heap.size]? = some (.cells #[.slice A1 ns.length c1, .slice A2 ds.length c2] 26 (0, 0)) := by rw [hW, Below.heap_alloc _ _ _ (by simp)]; exact heap_alloc_new w _
  have hbox2 : W.heap[w.heap.size + 1]? = some (.cells #[.string nm] 9 (0, 0)) := by
    have := heap_alloc_new (w.alloc (.cells #[.slice A1 ns.length c1, .slice A2 ds.length c2] 26)) (.cells #[.string nm] 9)
    rw [hW]; simpa using this
  have HC := Lib.hid (check_any W (h.below hb) S A1 A2 c1 c2 ns ds (hn.below hb) hl1 hl2)
  have HE := Lib.hid (show devL ns ds nm = if checkL ns ds = 0 then devIdx nm ds 0 else -1 from rfl)
  generalize checkL ns ds = ce at *
  have HW := Lib.hid hW
  have Hbox := Lib.hid hbox
  have Hbox2 := Lib.hid hbox2
  clear hbox hbox2 hW
  by_cases h0 : (ce != 0) = true
  · have H0 := Lib.hid (show ¬ ce = 0 by simpa using h0)
    go_enter Tryd.func20, Tryd.ntmps20
    go_wp2_with (fail)
    rw [← HW.out]
    refine (HC.out).mono ?_
    rintro e w1 ⟨rfl, hb1⟩
    go_wp2_with (fail)
    go_ret
    exact ⟨by rw [HE.out, if_neg H0.out]; rfl, hb.trans (hb1.mono hb.size)⟩
  · have h0' : (ce != 0) = false := by simpa using h0
    have H0 := Lib.hid (show ce = 0 by simpa using h0)
    clear h0
    go_enter Tryd.func20, Tryd.ntmps20
    go_wp2_with (fail)
    rw [← HW.out]
    refine (HC.out).mono ?_
    rintro e w1 ⟨rfl, hb1⟩
    have hbA := hb.trans (hb1.mono hb.size)
    have hx := (hb1.block _ (Array.getElem?_eq_some_iff.1 Hbox.out).1).trans Hbox.out
    have hx2 := (hb1.block _ (Array.getElem?_eq_some_iff.1 Hbox2.out).1).trans Hbox2.out
    have n0 : w1.cell? ⟨w.heap.size, 0, none⟩ = some (.slice A1 ns.length c1) := by rw [cell_of_row w1 _ 0 _ _ _ hx]; rfl
    have n1 : w1.cell? ⟨w.heap.size, 1, none⟩ = some (.slice A2 ds.length c2) := by rw [cell_of_row w1 _ 1 _ _ _ hx]; rfl
    have n2 : w1.cell? ⟨w.heap.size + 1, 0, none⟩ = some (.string nm) := by rw [cell_of_row w1 _ 0 _ _ _ hx2]; rfl
    clear hx hx2
    go_wp2_with (fail)
    refine (devFunc_any w1 S A1 A2 _ ns ds (hn.below hbA) hl2 nm (w.heap.size + 1) n2).mono ?_
    rintro e w2 ⟨rfl, hb2⟩
    go_wp2_with (fail)
    go_ret
    exact ⟨by rw [HE.out, if_pos H0.out]; rfl, hbA.trans (hb2.mono hbA.size)⟩
end Go.Proofs.YtgpcojmdfmngeaaDoor

namespace Go.Proofs.YtgpcojmdfmngeaaDoor
open Go.RowKit
set_option maxHeartbeats 400000
set_option maxRecDepth 100000

abbrev bools (xs : List Bool) : List Value := xs.map Value.bool
def SB (w : World) (S : Nat → Prop) (A : Option Addr) (xs : List Bool) : Prop := SV w S A (bools xs)
section
variable {S T : Nat → Prop} {w w' : World} {A : Option Addr} {xs : List Bool}
theorem SB.keep (h : SB w S A xs) (k : Kept S w w') : SB w' S A xs := SV.keep h k
theorem SB.mono (h : SB w S A xs) (hST : ∀ b, b < w.heap.size → S b → T b) : SB w T A xs := SV.mono h hST
theorem SB.at_ (h : SB w S A xs) {k : Nat} (hk : k < xs.length) : ∃ b off, A = some ⟨b, off, none⟩ ∧ S b ∧ b < w.heap.size ∧ w.cell? ⟨b, off + k, none⟩ = some (.bool xs[k]) := by
  obtain ⟨b, off, e, hs, hb, hc⟩ := h (by intro hx; have : xs = [] := by simpa [bools] using hx
                                          subst this; simp at hk)
  exact ⟨b, off, e, hs, hb, hc k _ (by simp [bools, List.getElem?_eq_getElem hk])⟩
end

/-- An array of 32 ints in a block of its own. -/
def Arr (w : World) (b : Nat) (xs : List Int) : Prop := w.heap[b]? = some (.cells (ints xs).toArray 120 (0, 0))
theorem Arr.lt {w : World} {b : Nat} {xs : List Int} (h : Arr w b xs) : b < w.heap.size := (Array.getElem?_eq_some_iff.1 h).1
theorem Arr.at_ {w : World} {b : Nat} {xs : List Int} (h : Arr w b xs) {k : Nat} (hk : k < xs.length) : w.cell? ⟨b, k, none⟩ = some (.int .i64 xs[k]) ∧ w.frozen? ⟨b, k, none⟩ = false := by
  constructor
  · rw [cell_of_row w b k _ _ _ h]; simp [ints, hk]
  · exact frozen_of_row w b k _ _ h
theorem Arr.set {w : World} {b : Nat} {xs : List Int} (h : Arr w b xs) (k : Nat) (x : Int) : Arr (w.setCell ⟨b, k, none⟩ (.int .i64 x)) b (xs.set k x) := by
  unfold Arr at *
  rw [heap_setCell_same w b k _ _ _ h]
  simp [ints, List.map_set]
theorem Arr.keep {w w' : World} {b : Nat} {xs : List Int} (h : Arr w b xs) (e : w'.heap[b]? = w.heap[b]?) : Arr w' b xs := by
  unfold Arr at *
  rw [e, h]

def nbZ (zs : List (Dev × Bool)) (v : Nat) : List Nat := zs.filterMap (fun z => if 0 ≤ acrossL z.1 v ∧ z.2 = true then some (acrossL z.1 v).toNat else none)
def nats (xs : List Nat) : List Int := xs.map (fun (x : Nat) => (x : Int))
/-- the distances of all nodes to some -/
def distL (ds : List Dev) (use : List Bool) (gs : List Nat) : List Int := PO.bfs (nbZ (ds.zip use)) (PO.negs (PO.mark (List.replicate 32 (-1)) gs) + gs.length) (PO.mark (List.replicate 32 (-1)) gs) gs


theorem arrInfo : (Tryd.prog.info? 120).map (·.size) = some 32 := by kernel_rfl
theorem arr_size {out : List Int} (h : out.length = 32) : (Tryd.prog.info? 120).map (·.size) = some (ints out).toArray.size := by rw [arrInfo]; simp [ints, h]
theorem ints_all (out : List Int) : (ints out).toArray.all (·.oneCell') = true := by
  rw [Array.all_eq_true_iff_forall_mem]
  intro v hv
  simp [ints] at hv
  obtain ⟨x, _, rfl⟩ := hv
  rfl
theorem new_cell' (w : World) (u : Value) (t : TypeId) (b : Nat) (hb : b = w.heap.size) : (w.alloc (.cells #[u] t)).cell? ⟨b, 0, none⟩ = some u := by subst hb; exact new_cell w u t
theorem nats_len (xs : List Nat) : (nats xs).length = xs.length := by simp [nats]
theorem at_get {out : List Int} {v : Nat} (h : v < out.length) : PO.at_ out v = out[v] := by simp [PO.at_, h]
theorem nbZ_drop (zs : List (Dev × Bool)) (v m : Nat) (h : m < zs.length) : nbZ (zs.drop m) v = if 0 ≤ acrossL zs[m].1 v ∧ zs[m].2 = true then (acrossL zs[m].1 v).toNat :: nbZ (zs.drop (m + 1)) v else nbZ (zs.drop (m + 1)) v := by
  rw [List.drop_eq_getElem_cons h]
  unfold nbZ
  rw [List.filterMap_cons]
  by_cases c : 0 ≤ acrossL zs[m].1 v ∧ zs[m].2 = true
  · simp only [if_pos c]
  · simp only [if_neg c]

theorem OI.cut1 {w : World} {S : Nat → Prop} {g off c : Nat} {x : Int} {xs : List Int} (h : OI w S (some ⟨g, off, none⟩) c (x :: xs)) : OI w S (some ⟨g, off + 1, none⟩) (c - 1) xs := by
  have := OV.cut h 1 (by simp)
  unfold OI
  simpa [ints] using this
theorem OI.cut0 {w : World} {S : Nat → Prop} {g off c : Nat} {xs : List Int} (h : OI w S (some ⟨g, off, none⟩) c xs) : OI w S (some ⟨g, off, none⟩) 0 [] := by
  obtain ⟨h1, h2, h3, h4⟩ := h
  refine ⟨Nat.le_refl _, Nat.zero_le _, rfl, .inr ?_⟩
  rcases h4 with ⟨h4, _⟩ | ⟨g', off', cur, e1, hs, hg, hsz, hc⟩
  · cases h4
  · exact ⟨g', off', cur, e1, hs, hg, by omega, fun j u hj => by simp [ints] at hj⟩

/-- The blocks of the search: the boxed network, the result, the array. -/
structure DSt (w : World) (v1 v2 : Value) (wr : World) (out : List Int) : Prop where
  box : wr.heap[w.heap.size]? = some (.cells #[v1, v2] 26 (0, 0))
  res : Arr wr (w.heap.size + 1) (List.replicate 32 0)
  out : Arr wr (w.heap.size + 1 + 1) out
  bel : Below w.heap.size w wr
section
variable {w wr w' : World} {v1 v2 : Value} {out : List Int}
theorem DSt.size (h : DSt w v1 v2 wr out) : w.heap.size + 3 ≤ wr.heap.size := h.out.lt
theorem DSt.belowB (h : DSt w v1 v2 wr out) (hb : Below (w.heap.size + 3) wr w') : DSt w v1 v2 w' out :=
  ⟨(hb.block _ (by omega)).trans h.box, h.res.keep (hb.block _ (by omega)), h.out.keep (hb.block _ (by omega)), h.bel.trans (hb.mono (by omega))⟩
theorem DSt.below (h : DSt w v1 v2 wr out) (hb : Below wr.heap.size wr w') : DSt w v1 v2 w' out := h.belowB (hb.mono h.size)
theorem DSt.set (h : DSt w v1 v2 wr out) (k : Nat) (x : Int) : DSt w v1 v2 (wr.setCell ⟨w.heap.size + 1 + 1, k, none⟩ (.int .i64 x)) (out.set k x) :=
  ⟨(Below.heap_setCell _ _ _ _ (by show w.heap.size ≠ w.heap.size + 1 + 1; omega)).trans h.box, h.res.keep (Below.heap_setCell _ _ _ _ (by show w.heap.size + 1 ≠ w.heap.size + 1 + 1; omega)), h.out.set k x, h.bel.setCell (by show w.heap.size ≤ w.heap.size + 1 + 1; omega) _⟩
theorem DSt.n1 (h : DSt w v1 v2 wr out) : wr.cell? ⟨w.heap.size, 1, none⟩ = some v2 := by rw [cell_of_row wr _ 1 _ _ _ h.box]; rfl
end
theorem three (w : World) (o1 o2 o3 : Obj) : let W := (((w.alloc o1).alloc o2).alloc o3)
    W.heap[w.heap.size]? = some o1 ∧ W.heap[w.heap.size + 1]? = some o2 ∧ W.heap[w.heap.size + 1 + 1]? = some o3 ∧ Below w.heap.size w W := by
  refine ⟨?_, ?_, ?_, ?_⟩
  · rw [Below.heap_alloc _ _ _ (by simp <;> omega), Below.heap_alloc _ _ _ (by simp)]; exact heap_alloc_new w o1
  · rw [Below.heap_alloc _ _ _ (by simp)]
    have := heap_alloc_new (w.alloc o1) o2; simpa using this
  · have := heap_alloc_new ((w.alloc o1).alloc o2) o3; simpa using this
  · exact (((Below.refl _ _).alloc (Nat.le_refl _) _).alloc (by simp) _).alloc (by simp <;> omega) _
theorem start_facts (gs : List Nat) (hg : ∀ g ∈ gs, g < 32) : (∀ u ∈ gs, u < 32 ∧ 0 ≤ PO.at_ (PO.mark (List.replicate 32 (-1)) gs) u) ∧ ∀ u, PO.at_ (PO.mark (List.replicate 32 (-1)) gs) u + PO.negs (PO.mark (List.replicate 32 (-1)) gs) ≤ 32 := by
  have hat : ∀ v, PO.at_ (PO.mark (List.replicate 32 (-1)) gs) v = if v ∈ gs then 0 else -1 := fun v => by
    rw [PO.at_mark _ _ _ (by simpa using hg), PO.at_rep]
  have hle : PO.negs (PO.mark (List.replicate 32 (-1)) gs) ≤ 32 := by
    have := List.countP_le_length (p := fun x : Int => decide (x < 0)) (l := PO.mark (List.replicate 32 (-1)) gs)
    rw [PO.mark_len] at this
    simpa [PO.negs] using this
  refine ⟨fun u hu => ⟨hg u hu, ?_⟩, fun u => ?_⟩
  · rw [hat, if_pos hu]; omega
  · rw [hat]; split <;> omega
theorem negs_le (out : List Int) : PO.negs out ≤ out.length := List.countP_le_length
/-- What stays true while a queue is worked off. -/
structure QOk (out : List Int) (q : List Nat) : Prop where
  len : out.length = 32
  mem : ∀ u ∈ q, u < 32 ∧ 0 ≤ PO.at_ out u
  bnd : ∀ u, PO.at_ out u + PO.negs out ≤ 32
theorem QOk.step {out : List Int} {q : List Nat} (h : QOk out q) {v u : Nat} (hv : 0 ≤ PO.at_ out v) (hu : u < 32) (hn : PO.at_ out u < 0) : QOk (out.set u (PO.at_ out v + 1)) (q ++ [u]) ∧ PO.negs (out.set u (PO.at_ out v + 1)) + 1 = PO.negs out ∧ PO.at_ (out.set u (PO.at_ out v + 1)) v = PO.at_ out v := by
  have hne : u ≠ v := fun e => by rw [e] at hn; omega
  have hng := PO.negs_set (x := PO.at_ out v + 1) (by rw [h.len]; exact hu) hn (by omega)
  refine ⟨⟨by simp [h.len], fun x hx => ?_, fun x => ?_⟩, hng, by rw [PO.at_set, if_neg (by omega)]⟩
  · rcases List.mem_append.1 hx with hx | hx
    · refine ⟨(h.mem x hx).1, ?_⟩
      rw [PO.at_set]
      split
      · omega
      · exact (h.mem x hx).2
    · obtain rfl : x = u := by simpa using hx
      refine ⟨hu, ?_⟩
      rw [PO.at_set, if_pos ⟨rfl, by rw [h.len]; exact hu⟩]; omega
  · rw [PO.at_set]
    have := h.bnd v
    have := h.bnd x
    split <;> omega
def init1 (k : Nat) : List Int := List.replicate k (-1) ++ List.replicate (32 - k) 0
theorem init1_len (k : Nat) (h : k ≤ 32) : (init1 k).length = 32 := by simp [init1]; omega
theorem init1_set (k : Nat) (h : k < 32) : (init1 k).set k (-1) = init1 (k + 1) := by
  unfold init1
  rw [List.set_append_right _ _ (by simp), List.length_replicate, Nat.sub_self, show 32 - k = (32 - (k + 1)) + 1 by omega, List.replicate_succ, List.set_cons_zero, List.replicate_succ' (n := k), List.append_assoc]
  rfl

set_option maxHeartbeats 4000000 in
theorem distances_any (w : World) (S : Nat → Prop) (A1 A2 : Option Addr) (c1 c2 : Nat) (ns : List Node) (ds : List Dev) (hn : NetIn w S A1 A2 ns ds) (hl2 : ds.length ≤ 64)
    (U : Option Addr) (cu : Nat) (use : List Bool) (hu : SB w S U use) (hul : use.length = ds.length) (G : Option Addr) (cg : Nat) (gs : List Nat) (hg : SI w S G (nats gs)) (hgl : gs.length ≤ 1000) (hg32 : ∀ g ∈ gs, g < 32)
    (hd : ∀ d ∈ ds, ∀ v, acrossL d v < 32) :
    Calls Tryd.prog 118 #[.agg #[.slice A1 ns.length c1, .slice A2 ds.length c2], .slice U use.length cu, .slice G gs.length cg] w fun e w' => e = .returned (.agg (ints (distL ds use gs)).toArray) ∧ Below w.heap.size w w' := by
  have Hul := Lib.hid hul
  clear hul
  go_enter Tryd.func118, Tryd.ntmps118
  go_wp2_with (fail)
  go_loopg [16] 32 (fun g i wr => ∃ k : Nat, k + g = 32 ∧ i = .int .i64 k ∧ DSt w (.slice A1 ns.length c1) (.slice A2 ds.length c2) wr (init1 k))
  case atStart =>
    refine ⟨0, by omega, rfl, ⟨(three w _ _ _).1, (three w _ _ _).2.1, (three w _ _ _).2.2.1, (three w _ _ _).2.2.2⟩⟩
  case round =>
    obtain ⟨k, hk, rfl, D⟩ := hrel
    have Hk := Lib.hid hk
    clear hk
    by_cases hlt : k < 32
    · obtain ⟨q1, q2⟩ := D.out.at_ (k := k) (by rw [init1_len k (by omega)]; exact hlt)
      go_wp2_with (fail)
      go_roundg (gk - 1)
      case measure => have := Hk.out; omega
      case rel =>
        refine ⟨k + 1, by have := Hk.out; omega, by go_num, ?_⟩
        rw [← init1_set k hlt]
        exact D.set k (-1)
    · have hk32 : k = 32 := by have := Hk.out; omega
      subst hk32
      have hcl := clone_any wr S G cg (nats gs) (hg.keep (Kept.of_below D.bel)) (by rw [nats_len]; omega)
      rw [nats_len] at hcl
      have Hcl := Lib.hid hcl
      clear hcl
      go_wp2_with (fail)
      refine (Hcl.out).mono ?_
      rintro e w1 ⟨Aq, cq, rfl, hoq, hb1⟩
      rw [nats_len]
      have D1 := D.below hb1
      have hoq1 := hoq.mono (T := fun g => w.heap.size + 3 ≤ g) (fun g _ hg => by have := D.size; show _ ≤ g; omega)
      go_wp2_with (fail)
      clear hoq Hk Hcl hlt D
      have e32 : init1 32 = List.replicate 32 (-1) := by decide
      rw [e32] at D1
      clear e32
      go_loopg [26] gs.length (fun g i wr => ∃ (k : Nat) (out : List Int), k + g = gs.length ∧ i = .int .i64 k ∧ DSt w (.slice A1 ns.length c1) (.slice A2 ds.length c2) wr out ∧ out.length = 32 ∧ PO.mark (List.replicate 32 (-1)) gs = PO.mark out (gs.drop k) ∧ OI wr (fun g => w.heap.size + 3 ≤ g) Aq cq (nats gs))
      case atStart => exact ⟨0, _, by omega, rfl, D1, by simp, rfl, hoq1⟩
      case round =>
        clear D1 hoq1 hb1
        obtain ⟨k, out, hk, rfl, D, hol, hmk, hoq⟩ := hrel
        have Hk := Lib.hid hk
        have Hmk := Lib.hid hmk
        have Hol := Lib.hid hol
        clear hk hmk hol
        by_cases hlt : k < gs.length
        · have hgk : gs[k] < 32 := hg32 _ (List.getElem_mem hlt)
          obtain ⟨b, off, rfl, hS, hbl, q0⟩ := (hg.keep (Kept.of_below D.bel)).at_ (k := k) (by rw [nats_len]; exact hlt)
          have q0' : wr.cell? ⟨b, off + k, none⟩ = some (.int .i64 (gs[k] : Nat)) := by rw [q0]; simp [nats]
          obtain ⟨q1, q2⟩ := D.out.at_ (k := gs[k]) (by rw [Hol.out]; exact hgk)
          clear q0
          go_wp2_with (fail)
          go_roundg (gk - 1)
          case measure => have := Hk.out; omega
          case rel =>
            refine ⟨k + 1, _, by have := Hk.out; omega, by go_num, D.set gs[k] 0, by simp [Hol.out], ?_, hoq.keep (Kept.setCell (by show ¬ _ ≤ w.heap.size + 1 + 1; omega) _)⟩
            rw [Hmk.out, List.drop_eq_getElem_cons hlt]
            rfl
        · have hmk := Hmk.out
          rw [List.drop_of_length_le (by omega)] at hmk
          have hmk : PO.mark (List.replicate 32 (-1)) gs = out := hmk
          have HD : Hid (distL ds use gs = PO.bfs (nbZ (ds.zip use)) (PO.negs out + gs.length) out gs) := Lib.hid (by unfold distL; rw [hmk])
          have hst := start_facts gs hg32
          rw [hmk] at hst
          have hQ : QOk out gs := ⟨Hol.out, hst.1, hst.2⟩
          clear hmk hst Hmk Hk Hol
          go_wp2_with (fail)
          clear hlt
          obtain ⟨wo, rfl⟩ : ∃ wo : World, wo = wr := ⟨_, rfl⟩
          go_loopg [9] (PO.negs out + gs.length) (fun g v wr => ∃ (out : List Int) (q : List Nat) (A' : Option Addr) (c' : Nat), g = PO.negs out + q.length ∧ v = .slice A' q.length c' ∧ OI wr (fun g => w.heap.size + 3 ≤ g) A' c' (nats q) ∧ DSt w (.slice A1 ns.length c1) (.slice A2 ds.length c2) wr out ∧
            distL ds use gs = PO.bfs (nbZ (ds.zip use)) g out q ∧ QOk out q ∧ PO.negs out + q.length ≤ 2000)
          case atStart => exact ⟨out, gs, Aq, cq, rfl, rfl, hoq, D, HD.out, hQ, by have := negs_le out; rw [hQ.len] at this; omega⟩
          case round =>
            clear D HD hQ hoq
            obtain ⟨out, q, A', c', hgk, rfl, hown, D, hdi, hQ, hql⟩ := hrel
            have Hgk := Lib.hid hgk
            have Hdi := Lib.hid hdi
            clear hgk hdi
            have n1 := D.n1
            cases q with
            | nil =>
              have hdi := Hdi.out
              have hdd : PO.bfs (nbZ (ds.zip use)) gk out [] = out := by cases gk <;> rfl
              rw [hdd] at hdi
              have Hdi := Lib.hid hdi
              clear hdi hdd
              have S1 := Lib.hid (arr_size hQ.len)
              have S2 := Lib.hid (show (ints (List.replicate 32 0)).toArray.size = (ints out).toArray.size by simp [ints, hQ.len])
              go_wp2_with (first | (refine wpList_load_row rfl 120 (.tmp 7) rfl (w.heap.size + 1 + 1) rfl _ _ _ _ D.out Tryd.underlying120 rfl S1.out ?_) | (refine wpList_store_row rfl 120 (.tmp 6) (.tmp 77) rfl (w.heap.size + 1) _ rfl rfl _ _ D.res S1.out S2.out (ints_all _) ?_))
              have hres := setRow_heap wr (w.heap.size + 1) _ (ints out).toArray _ _ D.res
              refine bodyPost_ret (v := .agg (ints out).toArray) (results_cell_row Tryd.results118 _ _ (w.heap.size + 1) 120 (ints out).toArray (0, 0) _ rfl hres Tryd.underlying120 rfl S1.out) rfl ⟨by rw [Hdi.out], ?_⟩
              exact ⟨D.bel.os, D.bel.tape, D.bel.output, by simp; exact D.bel.size, fun k hk => (setRow_other wr (w.heap.size + 1) k _ (by omega)).trans (D.bel.block k hk)⟩
            | cons v q =>
              obtain ⟨g', off', rfl, hgB, hgl, hc0, _⟩ := hown.at_ (k := 0) (by simp [nats])
              have hc0' : wr.cell? ⟨g', off', none⟩ = some (.int .i64 (v : Nat)) := by simpa [nats] using hc0
              clear hc0
              have hv := hQ.mem v (by simp)
              have hQ' : QOk out q := ⟨hQ.len, fun u hu => hQ.mem u (by simp [hu]), hQ.bnd⟩
              have hbv := hQ.bnd v
              go_wp2_with (fail)
              obtain ⟨wp, rfl⟩ : ∃ wp : World, wp = wr := ⟨_, rfl⟩
              obtain ⟨go, rfl⟩ : ∃ x : Nat, x = gk := ⟨_, rfl⟩
              go_loopg [9, 44] ds.length (fun g s9 i wr => ∃ (m : Nat) (oc : List Int) (qc : List Nat) (A' : Option Addr) (c' : Nat), m + g = ds.length ∧ i = .int .i64 m ∧ s9 = .slice A' (qc.length + 1) c' ∧ OI wr (fun g => w.heap.size + 3 ≤ g) A' c' (nats (v :: qc)) ∧ DSt w (.slice A1 ns.length c1) (.slice A2 ds.length c2) wr oc ∧
                PO.scan (PO.at_ out v + 1) (nbZ (ds.zip use) v) out q = PO.scan (PO.at_ out v + 1) (nbZ ((ds.zip use).drop m) v) oc qc ∧ PO.at_ oc v = PO.at_ out v ∧ QOk oc qc ∧ PO.negs oc + qc.length = PO.negs out + q.length)
              case atStart => exact ⟨0, out, q, _, _, by omega, rfl, rfl, hown, D, rfl, rfl, hQ', rfl⟩
              case round =>
                clear D hown hc0' hQ' n1 hgB hgl
                obtain ⟨m, oc, qc, A2', c2', hm, rfl, rfl, hown, D, hsc, hov, hQc, hng⟩ := hrel
                have Hm := Lib.hid hm
                have Hsc := Lib.hid hsc
                have Hov := Lib.hid hov
                have Hng := Lib.hid hng
                have hqcl : qc.length ≤ 3000 := by
                  simp at hql
                  omega
                clear hm hsc hov hng
                by_cases hlt : m < ds.length
                · obtain ⟨b, off, rfl, hS, hbl, q0, q1, q2, q3, q4⟩ := (hn.below D.bel).dev hlt
                  have hmz : m < (ds.zip use).length := by have := Hul.out; simp; omega
                  have hmu : m < use.length := by have := Hul.out; omega
                  have Hd := Lib.hid (show nbZ ((ds.zip use).drop m) v = if 0 ≤ acrossL ds[m] v ∧ use[m] = true then (acrossL ds[m] v).toNat :: nbZ ((ds.zip use).drop (m + 1)) v else nbZ ((ds.zip use).drop (m + 1)) v from by rw [nbZ_drop (ds.zip use) v m hmz]; simp)
                  have hy := hd ds[m] (List.getElem_mem hlt) v
                  go_wp2_with (fail)
                  refine (across_any ds[m] v _).mono ?_
                  rintro e w1 ⟨rfl, hb1⟩
                  have hb2 := ((Below.refl wr.heap.size wr).alloc (Nat.le_refl _) (.cells #[.string ds[m].name, .int .i64 ds[m].kind, .int .i64 ds[m].a, .int .i64 ds[m].b, .int .i64 ds[m].comp] 78)).trans (hb1.mono (by simp))
                  have D1 := D.below hb2
                  have hown1 := hown.keep (Kept.of_below hb2)
                  generalize acrossL ds[m] v = y at *
                  by_cases hy0 : 0 ≤ y
                  · obtain ⟨u, rfl⟩ := Int.eq_ofNat_of_zero_le hy0
                    have hu32 : u < 32 := by omega
                    obtain ⟨bu, ou, rfl, _, _, hcu⟩ := (hu.keep (Kept.of_below D1.bel)).at_ hmu
                    by_cases huse : use[m] = true
                    · rw [if_pos ⟨hy0, huse⟩, Int.toNat_natCast] at Hd
                      rw [huse] at hcu
                      have HU := Lib.hid huse
                      clear huse
                      obtain ⟨a1, a2⟩ := D1.out.at_ (k := u) (by rw [hQc.len]; exact hu32)
                      obtain ⟨b1, b2⟩ := D1.out.at_ (k := v) (by rw [hQc.len]; exact hv.1)
                      rw [← at_get (by rw [hQc.len]; exact hu32)] at a1
                      rw [← at_get (by rw [hQc.len]; exact hv.1), Hov.out] at b1
                      by_cases hneg : PO.at_ oc u < 0
                      · have hst := hQc.step (v := v) (by rw [Hov.out]; exact hv.2) hu32 hneg
                        rw [Hov.out] at hst
                        have Hst := Lib.hid hst
                        clear hst
                        have hown2 := hown1.keep (Kept.setCell (S := fun g => w.heap.size + 3 ≤ g) (p := ⟨w.heap.size + 1 + 1, u, none⟩) (by show ¬ _ ≤ w.heap.size + 1 + 1; omega) (.int .i64 (PO.at_ out v + 1)))
                        have D2 := D1.set u (PO.at_ out v + 1)
                        have hsz2 := D2.size
                        go_wp2_with (at_builtin; go_must (refine wpList_push (B := w.heap.size + 3) rfl (.tmp 72) (.tmp 74) rfl rfl rfl (by simp [nats]) (hown2.keep (Kept.alloc _ _ _)) (new_cell' _ _ _ _ (by simp [World.setCell])) (by simp [nats]; omega) (by simp at hsz2 ⊢; omega) ?_); intro A4 c4 w4 ho4 hb4 _ _)
                        go_roundg (gk - 1)
                        case measure => have := Hm.out; omega
                        case rel =>
                          refine ⟨m + 1, _, _, A4, c4, by have := Hm.out; omega, by go_num, ?_, ?_, (D2.belowB ((Below.refl _ _).alloc hsz2 _)).belowB hb4, ?_, Hst.out.2.2, Hst.out.1, ?_⟩
                          · simp [nats]
                          · have e : nats (v :: qc) ++ [(u : Int)] = nats (v :: (qc ++ [u])) := by simp [nats]
                            rw [← e]; exact ho4
                          · rw [Hsc.out, Hd.out]
                            simp only [PO.scan]
                            rw [if_pos hneg]
                          · have := Hst.out.2.1
                            have := Hng.out
                            simp; omega
                      · go_wp2_with (fail)
                        go_roundg (gk - 1)
                        case measure => have := Hm.out; omega
                        case rel =>
                          refine ⟨m + 1, oc, qc, _, _, by have := Hm.out; omega, by go_num, rfl, hown1, D1, ?_, Hov.out, hQc, Hng.out⟩
                          rw [Hsc.out, Hd.out]
                          simp only [PO.scan]
                          rw [if_neg (Int.not_lt.2 hneg)]
                    · have huse : use[m] = false := by simpa using huse
                      rw [if_neg (by simp [huse])] at Hd
                      rw [huse] at hcu
                      have HU := Lib.hid huse
                      clear huse
                      go_wp2_with (fail)
                      go_roundg (gk - 1)
                      case measure => have := Hm.out; omega
                      case rel => exact ⟨m + 1, oc, qc, _, _, by have := Hm.out; omega, by go_num, rfl, hown1, D1, by rw [Hsc.out, Hd.out], Hov.out, hQc, Hng.out⟩
                  · rw [if_neg (fun h => hy0 h.1)] at Hd
                    go_wp2_with (fail)
                    go_roundg (gk - 1)
                    case measure => have := Hm.out; omega
                    case rel => exact ⟨m + 1, oc, qc, _, _, by have := Hm.out; omega, by go_num, rfl, hown1, D1, by rw [Hsc.out, Hd.out], Hov.out, hQc, Hng.out⟩
                · have hsc := Hsc.out
                  rw [List.drop_of_length_le (by simp; omega)] at hsc
                  have Hsc := Lib.hid (show PO.scan (PO.at_ out v + 1) (nbZ (ds.zip use) v) out q = (oc, qc) from hsc)
                  clear hsc
                  obtain ⟨g2, off2, rfl, _, _, _, _⟩ := hown.at_ (k := 0) (by simp [nats])
                  have hcap := hown.cap
                  rw [nats_len, List.length_cons] at hcap
                  have hgo := Hgk.out
                  rw [List.length_cons] at hgo
                  obtain ⟨g1, rfl⟩ : ∃ x, go = x + 1 := ⟨go - 1, by omega⟩
                  have hdi := Hdi.out
                  simp only [PO.bfs] at hdi
                  rw [Hsc.out] at hdi
                  have Hdi := Lib.hid hdi
                  have Hgo := Lib.hid (show g1 = PO.negs oc + qc.length by have := Hng.out; omega)
                  have hqb : PO.negs oc + qc.length ≤ 2000 := by
                    have h1 := Hng.out
                    simp at hql
                    omega
                  clear hdi hgo
                  by_cases hc1 : c2' = 1
                  · subst hc1
                    obtain rfl : qc = [] := List.eq_nil_of_length_eq_zero (by omega)
                    go_wp2_with (fail)
                    go_roundg g1
                    case measure => omega
                    case rel => exact ⟨oc, [], _, _, Hgo.out, rfl, hown.cut0, D, Hdi.out, hQc, hqb⟩
                  · go_wp2_with (fail)
                    go_roundg g1
                    case measure => omega
                    case rel => exact ⟨oc, qc, _, _, Hgo.out, rfl, hown.cut1, D, Hdi.out, hQc, hqb⟩
end Go.Proofs.YtgpcojmdfmngeaaDoor

namespace Go.Proofs.YtgpcojmdfmngeaaDoor
open Go.RowKit
set_option maxHeartbeats 400000
set_option maxRecDepth 100000

/-- the first device that leads nearer -/
def stepZ (dist : List Int) (v : Nat) : List (Dev × Bool) → Nat → Option (Nat × Nat)
  | [], _ => none
  | z :: zs, i => if 0 ≤ acrossL z.1 v ∧ z.2 = true ∧ PO.at_ dist (acrossL z.1 v).toNat = PO.at_ dist v - 1 then some (i, (acrossL z.1 v).toNat) else stepZ dist v zs (i + 1)
def trailZ (dist : List Int) (zs : List (Dev × Bool)) : Nat → Nat → List Nat × Nat
  | 0, v => ([], v)
  | f + 1, v => match stepZ dist v zs 0 with
    | none => ([], v)
    | some (i, u) => (i :: (trailZ dist zs f u).1, (trailZ dist zs f u).2)
theorem stepZ_drop (dist : List Int) (v : Nat) (zs : List (Dev × Bool)) (m : Nat) (h : m < zs.length) : stepZ dist v (zs.drop m) m =
    if 0 ≤ acrossL zs[m].1 v ∧ zs[m].2 = true ∧ PO.at_ dist (acrossL zs[m].1 v).toNat = PO.at_ dist v - 1 then some (m, (acrossL zs[m].1 v).toNat) else stepZ dist v (zs.drop (m + 1)) (m + 1) := by
  rw [List.drop_eq_getElem_cons h]
  rfl

theorem below_drewN (B : Nat) (w : World) (k : Nat) : Below B w (w.drewN k) := ⟨rfl, rfl, rfl, Nat.le_refl _, fun _ _ => rfl⟩
/-- What Trail hands back. -/
def RetTrail (w : World) (r : List Nat × Nat) (e : Ending) (w' : World) : Prop :=
  ∃ A c, e = .returned (.tuple #[.slice A r.1.length c, .int .i64 r.2]) ∧ OI w' (fun g => w.heap.size ≤ g) A c (nats r.1) ∧ Below w.heap.size w w'

/-- The blocks of the trail. -/
structure TSt (w : World) (v1 v2 : Value) (wr : World) (dist : List Int) : Prop where
  box : wr.heap[w.heap.size]? = some (.cells #[v1, v2] 26 (0, 0))
  arr : Arr wr (w.heap.size + 1) dist
  bel : Below w.heap.size w wr
section
variable {w wr w' : World} {v1 v2 : Value} {dist : List Int}
theorem TSt.size (h : TSt w v1 v2 wr dist) : w.heap.size + 2 ≤ wr.heap.size := h.arr.lt
theorem TSt.belowB (h : TSt w v1 v2 wr dist) (hb : Below (w.heap.size + 2) wr w') : TSt w v1 v2 w' dist :=
  ⟨(hb.block _ (by omega)).trans h.box, h.arr.keep (hb.block _ (by omega)), h.bel.trans (hb.mono (by omega))⟩
theorem TSt.below (h : TSt w v1 v2 wr dist) (hb : Below wr.heap.size wr w') : TSt w v1 v2 w' dist := h.belowB (hb.mono h.size)
theorem TSt.n1 (h : TSt w v1 v2 wr dist) : wr.cell? ⟨w.heap.size, 1, none⟩ = some v2 := by rw [cell_of_row wr _ 1 _ _ _ h.box]; rfl
end

set_option maxHeartbeats 4000000 in
theorem trail_any (w : World) (S : Nat → Prop) (A1 A2 : Option Addr) (c1 c2 : Nat) (ns : List Node) (ds : List Dev) (hn : NetIn w S A1 A2 ns ds) (hl2 : ds.length ≤ 64)
    (U : Option Addr) (cu : Nat) (use : List Bool) (hu : SB w S U use) (hul : use.length = ds.length) (dist : List Int) (hdl : dist.length = 32) (hb32 : ∀ v, PO.at_ dist v ≤ 32) (v : Nat) (hv : v < 32)
    (hd : ∀ d ∈ ds, ∀ v, acrossL d v < 32) (hpr : ∀ v, 0 < PO.at_ dist v → (stepZ dist v (ds.zip use) 0).isSome = true) :
    Calls Tryd.prog 119 #[.agg #[.slice A1 ns.length c1, .slice A2 ds.length c2], .slice U use.length cu, .agg (ints dist).toArray, .int .i64 v] w (RetTrail w (trailZ dist (ds.zip use) (PO.at_ dist v).toNat v)) := by
  have Hul := Lib.hid hul
  have Hdl := Lib.hid hdl
  have Hpr := Lib.hid hpr
  clear hul hdl hpr
  go_enter Tryd.func119, Tryd.ntmps119
  go_wp2_with (fail)
  have hF : (PO.at_ dist v).toNat ≤ 32 := by have := hb32 v; omega
  generalize hFe : (PO.at_ dist v).toNat = F at *
  have HF := Lib.hid hFe
  clear hFe
  go_loopg [3, 10] F (fun g s3 s10 wr => ∃ (u : Nat) (ys : List Nat) (A' : Option Addr) (c' : Nat), u < 32 ∧ g = (PO.at_ dist u).toNat ∧ s3 = .int .i64 u ∧ s10 = .slice A' ys.length c' ∧ OI wr (fun g => w.heap.size + 2 ≤ g) A' c' (nats ys) ∧ TSt w (.slice A1 ns.length c1) (.slice A2 ds.length c2) wr dist ∧
    trailZ dist (ds.zip use) F v = (ys ++ (trailZ dist (ds.zip use) g u).1, (trailZ dist (ds.zip use) g u).2) ∧ ys.length + g ≤ 32)
  case atStart =>
    refine ⟨v, [], none, 0, hv, HF.out.symm, rfl, rfl, OI.nil _ _, ⟨?_, ?_, ((Below.refl _ _).alloc (Nat.le_refl _) _).alloc (by simp) _⟩, rfl, by simpa using hF⟩
    · rw [Below.heap_alloc _ _ _ (by simp)]; exact heap_alloc_new w _
    · have := heap_alloc_new (w.alloc (.cells #[.slice A1 ns.length c1, .slice A2 ds.length c2] 26)) (.cells (ints dist).toArray 120)
      unfold Arr
      simpa using this
  case round =>
    obtain ⟨u, ys, A', c', hu32, hgk, rfl, rfl, hown, D, htr, hyl⟩ := hrel
    have Hgk := Lib.hid hgk
    have Htr := Lib.hid htr
    clear hgk htr
    obtain ⟨a1, a2⟩ := D.arr.at_ (k := u) (by rw [Hdl.out]; exact hu32)
    rw [← at_get (by rw [Hdl.out]; exact hu32)] at a1
    have n1 := D.n1
    have hbu := hb32 u
    by_cases hpos : 0 < PO.at_ dist u
    · have Hs := Lib.hid (Hpr.out u hpos)
      go_wp2_with (fail)
      obtain ⟨wo, rfl⟩ : ∃ wo : World, wo = wr := ⟨_, rfl⟩
      obtain ⟨go, rfl⟩ : ∃ x : Nat, x = gk := ⟨_, rfl⟩
      go_loopg [3, 10, 21] ds.length (fun g s3 s10 i wr => ∃ (m : Nat), m + g = ds.length ∧ i = .int .i64 m ∧ s3 = .int .i64 u ∧ s10 = .slice A' ys.length c' ∧ OI wr (fun g => w.heap.size + 2 ≤ g) A' c' (nats ys) ∧ TSt w (.slice A1 ns.length c1) (.slice A2 ds.length c2) wr dist ∧
        stepZ dist u (ds.zip use) 0 = stepZ dist u ((ds.zip use).drop m) m)
      case atStart => exact ⟨0, by omega, rfl, rfl, rfl, hown, D, rfl⟩
      case round =>
        clear D hown a1 a2 n1
        obtain ⟨m, hm, rfl, rfl, rfl, hown, D, hst⟩ := hrel
        have Hm := Lib.hid hm
        have Hst := Lib.hid hst
        clear hm hst
        by_cases hlt : m < ds.length
        · obtain ⟨b, off, rfl, hS, hbl, q0, q1, q2, q3, q4⟩ := (hn.below D.bel).dev hlt
          have hmz : m < (ds.zip use).length := by have := Hul.out; simp; omega
          have hmu : m < use.length := by have := Hul.out; omega
          have Hd := Lib.hid (show stepZ dist u ((ds.zip use).drop m) m = if 0 ≤ acrossL ds[m] u ∧ use[m] = true ∧ PO.at_ dist (acrossL ds[m] u).toNat = PO.at_ dist u - 1 then some (m, (acrossL ds[m] u).toNat) else stepZ dist u ((ds.zip use).drop (m + 1)) (m + 1) from by rw [stepZ_drop dist u (ds.zip use) m hmz]; simp)
          have hy := hd ds[m] (List.getElem_mem hlt) u
          go_wp2_with (fail)
          refine (across_any ds[m] u _).mono ?_
          rintro e w1 ⟨rfl, hb1⟩
          have hb2 := ((Below.refl wr.heap.size wr).alloc (Nat.le_refl _) (.cells #[.string ds[m].name, .int .i64 ds[m].kind, .int .i64 ds[m].a, .int .i64 ds[m].b, .int .i64 ds[m].comp] 78)).trans (hb1.mono (by simp))
          have D1 := D.below hb2
          have hown1 := hown.keep (Kept.of_below hb2)
          generalize acrossL ds[m] u = y at *
          by_cases hy0 : 0 ≤ y
          · obtain ⟨x, rfl⟩ := Int.eq_ofNat_of_zero_le hy0
            have hx32 : x < 32 := by omega
            obtain ⟨bu, ou, rfl, _, _, hcu⟩ := (hu.keep (Kept.of_below D1.bel)).at_ hmu
            by_cases huse : use[m] = true
            · rw [huse] at hcu
              have HU := Lib.hid huse
              clear huse
              obtain ⟨a1, a2⟩ := D1.arr.at_ (k := x) (by rw [Hdl.out]; exact hx32)
              obtain ⟨b1, b2⟩ := D1.arr.at_ (k := u) (by rw [Hdl.out]; exact hu32)
              rw [← at_get (by rw [Hdl.out]; exact hx32)] at a1
              rw [← at_get (by rw [Hdl.out]; exact hu32)] at b1
              by_cases heq : PO.at_ dist x = PO.at_ dist u - 1
              · have heq' : (PO.at_ dist x == PO.at_ dist u - 1) = true := by simpa using heq
                have Heq := Lib.hid heq
                clear heq
                have Hd' := Lib.hid (show stepZ dist u ((ds.zip use).drop m) m = some (m, x) by rw [Hd.out, if_pos ⟨hy0, HU.out, by simpa using Heq.out⟩]; simp)
                go_wp2_with (fail)
                go_quiet (fail)
                have D2 := D1.belowB (below_drewN (w.heap.size + 2) w1 nq)
                have hown2 := hown1.keep (Kept.drewN _ w1 nq)
                have hsz2 := D2.size
                have hyb : ys.length ≤ 32 := by omega
                go_wp2_with (at_builtin; go_must (refine wpList_push (B := w.heap.size + 2) rfl (.tmp 47) (.tmp 49) rfl rfl rfl (by simp [nats]) (hown2.keep (Kept.alloc _ _ _)) (new_cell' _ _ _ _ (by simp [World.drewN])) (by simp [nats]; omega) (by simp at hsz2 ⊢; omega) ?_); intro A4 c4 w4 ho4 hb4 _ _)
                have hgo := Hgk.out
                go_roundg (go - 1)
                case measure => omega
                case rel =>
                  have hx := Heq.out
                  refine ⟨x, ys ++ [m], A4, c4, hx32, by omega, rfl, ?_, ?_, (D2.belowB ((Below.refl _ _).alloc hsz2 _)).belowB hb4, ?_, ?_⟩
                  · simp [nats]
                  · have e : nats ys ++ [(m : Int)] = nats (ys ++ [m]) := by simp [nats]
                    rw [← e]; exact ho4
                  · obtain ⟨g1, rfl⟩ : ∃ g1, go = g1 + 1 := ⟨go - 1, by omega⟩
                    rw [Htr.out]
                    simp only [trailZ]
                    rw [Hst.out, Hd'.out]
                    simp
                  · simp; omega
              · have heq' : (PO.at_ dist x == PO.at_ dist u - 1) = false := by simpa using heq
                have Hd' := Lib.hid (show stepZ dist u ((ds.zip use).drop m) m = stepZ dist u ((ds.zip use).drop (m + 1)) (m + 1) by rw [Hd.out, if_neg (fun h => heq (by simpa using h.2.2))])
                clear heq
                go_wp2_with (fail)
                go_quiet (fail)
                go_wp2_with (fail)
                go_roundg (gk - 1)
                case measure => have := Hm.out; omega
                case rel => exact ⟨m + 1, by have := Hm.out; omega, by go_num, rfl, rfl, hown1.keep (Kept.drewN _ w1 nq), D1.belowB (below_drewN (w.heap.size + 2) w1 nq), by rw [Hst.out, Hd'.out]⟩
            · have huse : use[m] = false := by simpa using huse
              rw [if_neg (by simp [huse])] at Hd
              rw [huse] at hcu
              have HU := Lib.hid huse
              clear huse
              go_wp2_with (fail)
              go_quiet (fail)
              go_wp2_with (fail)
              go_roundg (gk - 1)
              case measure => have := Hm.out; omega
              case rel => exact ⟨m + 1, by have := Hm.out; omega, by go_num, rfl, rfl, hown1.keep (Kept.drewN _ w1 nq), D1.belowB (below_drewN (w.heap.size + 2) w1 nq), by rw [Hst.out, Hd.out]⟩
          · have hyd : decide (0 ≤ y) = false := by simpa using hy0
            rw [if_neg (fun h => hy0 h.1)] at Hd
            go_wp2_with (fail)
            go_quiet (fail)
            go_wp2_with (fail)
            go_roundg (gk - 1)
            case measure => have := Hm.out; omega
            case rel => exact ⟨m + 1, by have := Hm.out; omega, by go_num, rfl, rfl, hown1.keep (Kept.drewN _ w1 nq), D1.belowB (below_drewN (w.heap.size + 2) w1 nq), by rw [Hst.out, Hd.out]⟩
        · have hst := Hst.out
          rw [List.drop_of_length_le (by simp; omega)] at hst
          have := Hs.out
          rw [hst] at this
          cases this
    · go_wp2_with (fail)
      go_ret2
      have hg0 : gk = 0 := by have := Hgk.out; omega
      subst hg0
      have htr := Htr.out
      simp only [trailZ, List.append_nil] at htr
      rw [htr]
      exact ⟨A', c', rfl, hown.mono (T := fun g => w.heap.size ≤ g) (fun g _ hg => by show _ ≤ g; omega), D.bel⟩
end Go.Proofs.YtgpcojmdfmngeaaDoor

namespace Go.Proofs.YtgpcojmdfmngeaaDoor
open Go.RowKit

theorem boolInfo : (Tryd.prog.info? 4).map (fun i => (i.zero, i.size, i.bytes)) = some (some (.bool false), 1, 1) := by kernel_rfl
theorem make_bools (w : World) (n : Nat) (hn : n ≤ 65536) : ∃ w', (Instr.makeSlice 27 (.int .i64 n) (.int .i64 n)).run Tryd.prog w = .ok (.slice (some ⟨w.heap.size, 0, none⟩) n n) w' ∧
    OV w' (fun g => g = w.heap.size) 4 1 (some ⟨w.heap.size, 0, none⟩) n n (bools (List.replicate n false)) ∧ Below w.heap.size w w' ∧ w'.heap.size = w.heap.size + 1 := by
  refine ⟨_, run_make_row' (P := Tryd.prog) 27 4 (.bool false) 1 Tryd.underlying27 boolInfo rfl .i64 .i64 n (by omega) (by omega) w, ⟨Nat.le_refl _, by simp only [maxLen]; omega, by simp [bools], .inr ⟨w.heap.size, 0, _, rfl, rfl, heap_alloc_new w _, by simp [size_madeCells], fun j u hj => ?_⟩⟩, (Below.refl _ _).alloc (Nat.le_refl _) _, by simp⟩
  rw [bools, List.map_replicate, List.getElem?_replicate] at hj
  split at hj
  · rename_i hlt
    simp at hj
    subst hj
    simp [madeCells, hlt, Nat.mod_one]
  · cases hj
end Go.Proofs.YtgpcojmdfmngeaaDoor

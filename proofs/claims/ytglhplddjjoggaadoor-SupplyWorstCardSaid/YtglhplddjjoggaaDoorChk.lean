/-
  Walks of network.Check and of what it calls: the first error of a network.
-/
import Derived.Test.YtglhplddjjoggaaDoorLex
namespace Go.Proofs.YtglhplddjjoggaaDoor
open Go.RowKit
set_option maxHeartbeats 400000
set_option maxRecDepth 100000

/-- A network that can be read: its nodes and devices lie in blocks of the class S. -/
structure NetIn (w : World) (S : Nat → Prop) (A1 A2 : Option Addr) (ns : List Node) (ds : List Dev) : Prop where
  nodes : SV w S A1 (nodesV ns)
  devs : SV w S A2 (devsV ds)
  nsz : ∀ x ∈ ns, x.name.size ≤ maxLen
  dsz : ∀ d ∈ ds, d.name.size ≤ maxLen

section
variable {w w' : World} {S T : Nat → Prop} {A1 A2 : Option Addr} {ns : List Node} {ds : List Dev}
theorem NetIn.keep (h : NetIn w S A1 A2 ns ds) (k : Kept S w w') : NetIn w' S A1 A2 ns ds := ⟨h.nodes.keep k, h.devs.keep k, h.nsz, h.dsz⟩
theorem NetIn.below (h : NetIn w S A1 A2 ns ds) (k : Below w.heap.size w w') : NetIn w' S A1 A2 ns ds := h.keep (Kept.of_below k)
theorem NetIn.mono (h : NetIn w S A1 A2 ns ds) (hST : ∀ b, b < w.heap.size → S b → T b) : NetIn w T A1 A2 ns ds := ⟨h.nodes.mono hST, h.devs.mono hST, h.nsz, h.dsz⟩
theorem NetIn.node (h : NetIn w S A1 A2 ns ds) {k : Nat} (hk : k < ns.length) : ∃ b off, A1 = some ⟨b, off, none⟩ ∧ S b ∧ b < w.heap.size ∧
    w.cell? ⟨b, off + k * 3, none⟩ = some (.string ns[k].name) ∧ w.cell? ⟨b, off + k * 3 + 1, none⟩ = some (.int .i64 ns[k].cust) ∧ w.cell? ⟨b, off + k * 3 + 2, none⟩ = some (.int .i64 ns[k].comp) := by
  have hne : nodesV ns ≠ [] := fun e => by have := nodesV_len ns; rw [e] at this; simp at this; omega
  obtain ⟨b, off, e, hs, hb, hc⟩ := h.nodes hne
  have hat := nodesV_at ns k ns[k] (List.getElem?_eq_getElem hk)
  refine ⟨b, off, e, hs, hb, ?_, ?_, ?_⟩
  · exact hc _ _ (hat 0 (by omega))
  · have := hc _ _ (hat 1 (by omega)); rw [← Nat.add_assoc] at this; exact this
  · have := hc _ _ (hat 2 (by omega)); rw [← Nat.add_assoc] at this; exact this
theorem NetIn.dev (h : NetIn w S A1 A2 ns ds) {k : Nat} (hk : k < ds.length) : ∃ b off, A2 = some ⟨b, off, none⟩ ∧ S b ∧ b < w.heap.size ∧
    w.cell? ⟨b, off + k * 5, none⟩ = some (.string ds[k].name) ∧ w.cell? ⟨b, off + k * 5 + 1, none⟩ = some (.int .i64 ds[k].kind) ∧ w.cell? ⟨b, off + k * 5 + 2, none⟩ = some (.int .i64 ds[k].a) ∧
    w.cell? ⟨b, off + k * 5 + 3, none⟩ = some (.int .i64 ds[k].b) ∧ w.cell? ⟨b, off + k * 5 + 4, none⟩ = some (.int .i64 ds[k].comp) := by
  have hne : devsV ds ≠ [] := fun e => by have := devsV_len ds; rw [e] at this; simp at this; omega
  obtain ⟨b, off, e, hs, hb, hc⟩ := h.devs hne
  have hat := devsV_at ds k ds[k] (List.getElem?_eq_getElem hk)
  refine ⟨b, off, e, hs, hb, ?_, ?_, ?_, ?_, ?_⟩
  · exact hc _ _ (hat 0 (by omega))
  · have := hc _ _ (hat 1 (by omega)); rw [← Nat.add_assoc] at this; exact this
  · have := hc _ _ (hat 2 (by omega)); rw [← Nat.add_assoc] at this; exact this
  · have := hc _ _ (hat 3 (by omega)); rw [← Nat.add_assoc] at this; exact this
  · have := hc _ _ (hat 4 (by omega)); rw [← Nat.add_assoc] at this; exact this
end

theorem bcell {W w1 : World} (hb : Below W.heap.size W w1) : (∀ b o, b < W.heap.size → w1.cell? ⟨b, o, none⟩ = W.cell? ⟨b, o, none⟩) ∧ (∀ b o, b < W.heap.size → w1.frozen? ⟨b, o, none⟩ = W.frozen? ⟨b, o, none⟩) :=
  ⟨fun b o h => hb.cell (p := ⟨b, o, none⟩) h, fun b o h => hb.frozen (p := ⟨b, o, none⟩) h⟩

def joinsB (k : Int) : Bool := decide (1 ≤ k) && decide (k ≤ 3)
def companyB (n : Int) : Bool := decide (0 ≤ n) && decide (n ≤ 7)
def endsB (d : Dev) (n : Int) : Bool := decide (0 ≤ d.a) && decide (d.a < n) && (if joinsB d.kind then decide (0 ≤ d.b) && decide (d.b < n) && (d.b != d.a) else (d.b == -1))
def nodeErr (x : Node) (used : List (List UInt8)) : Int :=
  if nameB x.name = false then 3 else if x.name.data.toList ∈ used then 4 else if x.cust < 0 ∨ 1048576 < x.cust ∨ companyB x.comp = false then 5 else 0
def devErr (n : Int) (d : Dev) (used : List (List UInt8)) : Int :=
  if nameB d.name = false then 3 else if d.name.data.toList ∈ used then 4 else if d.kind < 1 ∨ 6 < d.kind then 6 else if endsB d n = false then 7 else if companyB d.comp = false then 5 else 0
def chkD (n : Int) : List Dev → List (List UInt8) → Int
  | [], _ => 0
  | d :: ds, u => if devErr n d u = 0 then chkD n ds (d.name.data.toList :: u) else devErr n d u
def chkN (n : Int) (ds : List Dev) : List Node → List (List UInt8) → Int
  | [], u => chkD n ds u
  | x :: xs, u => if nodeErr x u = 0 then chkN n ds xs (x.name.data.toList :: u) else nodeErr x u
def checkL (ns : List Node) (ds : List Dev) : Int := if 32 < ns.length ∨ 64 < ds.length then 1 else chkN ns.length ds ns []

theorem joins_any (k : Int) (w : World) : Calls Tryd.prog 37 #[.int .i64 k] w fun e w' => e = .returned (.bool (joinsB k)) ∧ w = w' := by
  by_cases h1 : 1 ≤ k
  · go_enter Tryd.func37, Tryd.ntmps37
    go_wp2
    go_ret
    exact ⟨retB (by simp [joinsB, h1]), rfl⟩
  · go_enter Tryd.func37, Tryd.ntmps37
    go_wp2
    go_ret
    exact ⟨retB (by simp [joinsB]; omega), rfl⟩
theorem company_any (k : Int) (w : World) : Calls Tryd.prog 101 #[.int .i64 k] w fun e w' => e = .returned (.bool (companyB k)) ∧ w = w' := by
  by_cases h1 : 0 ≤ k
  · go_enter Tryd.func101, Tryd.ntmps101
    go_wp2
    go_ret
    exact ⟨retB (by simp [companyB, h1]), rfl⟩
  · go_enter Tryd.func101, Tryd.ntmps101
    go_wp2
    go_ret
    exact ⟨retB (by simp [companyB]; omega), rfl⟩
theorem ends_any (d : Dev) (n : Int) (w : World) : Calls Tryd.prog 102 #[.agg #[.string d.name, .int .i64 d.kind, .int .i64 d.a, .int .i64 d.b, .int .i64 d.comp], .int .i64 n] w fun e w' => e = .returned (.bool (endsB d n)) ∧ Below w.heap.size w w' := by
  have hb := fun o => (Below.refl w.heap.size w).alloc (Nat.le_refl _) o
  by_cases h1 : d.a < 0
  · go_enter Tryd.func102, Tryd.ntmps102
    go_wp2_with (fail)
    go_ret
    exact ⟨retB (by simp [endsB]; omega), hb _⟩
  · by_cases h2 : n ≤ d.a
    · go_enter Tryd.func102, Tryd.ntmps102
      go_wp2_with (fail)
      go_ret
      exact ⟨retB (by simp [endsB]; omega), hb _⟩
    · have e1 : endsB d n = if joinsB d.kind then decide (0 ≤ d.b) && decide (d.b < n) && (d.b != d.a) else (d.b == -1) := by
        unfold endsB
        rw [decide_eq_true (by omega), decide_eq_true (by omega)]; rfl
      have E1 := Lib.hid e1
      clear e1
      have HJ := joins_any d.kind
      generalize joinsB d.kind = jj at *
      have HJ := Lib.hid HJ
      cases jj
      · go_enter Tryd.func102, Tryd.ntmps102
        go_wp2_with (go_at_call 37; (with_reducible refine (HJ.out _).mono ?_); rintro e w' ⟨rfl, rfl⟩)
        go_ret
        exact ⟨retB (by rw [E1.out]; simp), hb _⟩
      · by_cases h3 : 0 ≤ d.b
        · by_cases h4 : d.b < n
          · go_enter Tryd.func102, Tryd.ntmps102
            go_wp2_with (go_at_call 37; (with_reducible refine (HJ.out _).mono ?_); rintro e w' ⟨rfl, rfl⟩)
            go_ret
            exact ⟨retB (by rw [E1.out]; simp [h3, h4]), by first | exact hb _ | exact (hb _).drew⟩
          · go_enter Tryd.func102, Tryd.ntmps102
            go_wp2_with (go_at_call 37; (with_reducible refine (HJ.out _).mono ?_); rintro e w' ⟨rfl, rfl⟩)
            go_ret
            exact ⟨retB (by rw [E1.out]; simp; omega), hb _⟩
        · go_enter Tryd.func102, Tryd.ntmps102
          go_wp2_with (go_at_call 37; (with_reducible refine (HJ.out _).mono ?_); rintro e w' ⟨rfl, rfl⟩)
          go_ret
          exact ⟨retB (by rw [E1.out]; simp; omega), hb _⟩

set_option maxHeartbeats 4000000 in
theorem check_any (w : World) (h : TabC w) (S : Nat → Prop) (A1 A2 : Option Addr) (c1 c2 : Nat) (ns : List Node) (ds : List Dev) (hn : NetIn w S A1 A2 ns ds) (hl1 : ns.length ≤ 65536) (hl2 : ds.length ≤ 65536) :
    Calls Tryd.prog 22 #[.agg #[.slice A1 ns.length c1, .slice A2 ds.length c2]] w fun e w' => e = .returned (.int .i64 (checkL ns ds)) ∧ Below w.heap.size w w' := by
  by_cases h32 : 32 < ns.length
  · have e1 := Lib.hid (show checkL ns ds = 1 by unfold checkL; rw [if_pos (.inl h32)])
    go_enter Tryd.func22, Tryd.ntmps22
    go_wp2_with (fail)
    go_ret
    exact ⟨by rw [e1.out]; rfl, (Below.refl _ _).alloc (Nat.le_refl _) _⟩
  · by_cases h64 : 64 < ds.length
    · have e1 := Lib.hid (show checkL ns ds = 1 by unfold checkL; rw [if_pos (.inr h64)])
      go_enter Tryd.func22, Tryd.ntmps22
      go_wp2_with (fail)
      go_ret
      exact ⟨by rw [e1.out]; rfl, (Below.refl _ _).alloc (Nat.le_refl _) _⟩
    · have e1 := Lib.hid (show checkL ns ds = chkN ns.length ds ns [] by unfold checkL; rw [if_neg (by omega)])
      have hmm := @run_makeMap Tryd.prog
      have d32 : decide ((32 : Int) < (ns.length : Int)) = false := decide_eq_false (by omega)
      have d64 : decide ((64 : Int) < (ds.length : Int)) = false := decide_eq_false (by omega)
      go_enter Tryd.func22, Tryd.ntmps22
      go_wp2_with (fail)
      clear d32 d64 hmm
      have hU0 : USet ((w.alloc (.cells #[.slice A1 ns.length c1, .slice A2 ds.length c2] 26)).alloc (.map #[] 0)) (w.heap.size + 1) 0 [] := by
        have := USet.made (w.alloc (.cells #[.slice A1 ns.length c1, .slice A2 ds.length c2] 26))
        simpa using this
      go_loopg [22] ns.length (fun g i wr => ∃ (k : Nat) (used : List (List UInt8)), k + g = ns.length ∧ i = .int .i64 k ∧ USet wr (w.heap.size + 1) k used ∧ Below w.heap.size w wr ∧
        wr.heap[w.heap.size]? = some (.cells #[.slice A1 ns.length c1, .slice A2 ds.length c2] 26 (0, 0)) ∧ checkL ns ds = chkN ns.length ds (ns.drop k) used)
      case atStart =>
        refine ⟨0, [], by omega, rfl, hU0, ((Below.refl _ _).alloc (Nat.le_refl _) _).alloc (by simp) _, ?_, e1.out⟩
        rw [Below.heap_alloc _ _ _ (by simp)]
        exact heap_alloc_new w _
      case round =>
        clear hU0
        obtain ⟨k, used, hk, rfl, hU, hbel, hbox, hi⟩ := hrel
        have Hi := Lib.hid hi
        have Hk := Lib.hid hk
        have Hbox := Lib.hid hbox
        clear hi hk hbox e1
        have hUl := hU.lt
        by_cases hlt : k < ns.length
        · obtain ⟨b, off, rfl, hS, hbl, q0, q1, q2⟩ := (hn.below hbel).node hlt
          have Hd := Lib.hid (show chkN ns.length ds (ns.drop k) used = if nodeErr ns[k] used = 0 then chkN ns.length ds (ns.drop (k + 1)) (ns[k].name.data.toList :: used) else nodeErr ns[k] used by rw [List.drop_eq_getElem_cons hlt]; rfl)
          have hsz := hn.nsz ns[k] (List.getElem_mem hlt)
          have HE := Lib.hid (show nodeErr ns[k] used = if nameB ns[k].name = false then 3 else if decide (ns[k].name.data.toList ∈ used) then 4 else if ns[k].cust < 0 ∨ 1048576 < ns[k].cust ∨ companyB ns[k].comp = false then 5 else 0 by unfold nodeErr; simp only [decide_eq_true_eq])
          go_wp2_with (fail)
          refine (name_yes ns[k].name _ (h.below (hbel.alloc hbel.size _)) hsz).mono ?_
          rintro e w1 ⟨rfl, hb1⟩
          have hbA : Below w.heap.size w w1 := (hbel.alloc hbel.size _).trans (hb1.mono (by have := hbel.size; simp; omega))
          have hU1 := (hU.keep ((Below.refl _ _).alloc (Nat.le_refl _) (.cells #[.string ns[k].name, .int .i64 ns[k].cust, .int .i64 ns[k].comp] 92))).keep hb1
          obtain ⟨hcc, hff⟩ := bcell hb1
          have hnb := @nameB_size ns[k].name
          have Hbox1 := Lib.hid ((hb1.block w.heap.size (by have := hbel.size; simp; omega)).trans ((Below.heap_alloc _ _ _ (by omega)).trans Hbox.out))
          generalize nameB ns[k].name = nb at *
          cases nb
          · clear hnb
            go_wp2_with (fail)
            go_ret
            refine ⟨?_, hbA⟩
            rw [Hi.out, Hd.out, HE.out]
            rfl
          · have hsz2 : ns[k].name.size ≤ maxLen := hsz
            have hlk := hU1.look hsz2
            rw [if_neg (by decide)] at HE
            generalize decide (ns[k].name.data.toList ∈ used) = mem at *
            cases mem
            · obtain ⟨w2, hup, hU2, hg2⟩ := hU1.put (show k < maxLen by unfold maxLen; omega) hsz2
              have hbB : Below w.heap.size w w2 := hbA.grown hg2 hbA.size (fun g hg => by injection hg with hg; omega)
              have Hbox2 := Lib.hid ((hg2.block w.heap.size (by have := Hbox1.out; exact (Array.getElem?_eq_some_iff.1 this).1) (by intro e; injection e with e; omega)).trans Hbox1.out)
              have HCo := company_any ns[k].comp
              generalize companyB ns[k].comp = cb at *
              have HCo := Lib.hid HCo
              have Hup := Lib.hid hup
              clear hup
              by_cases g1 : ns[k].cust < 0
              · go_wp2_with (fail)
                go_ret
                refine ⟨?_, hbA⟩
                rw [Hi.out, Hd.out, HE.out]
                simp [g1]
              · by_cases g2 : 1048576 < ns[k].cust
                · go_wp2_with (fail)
                  go_ret
                  refine ⟨?_, hbA⟩
                  rw [Hi.out, Hd.out, HE.out]
                  simp [g2]
                · cases cb
                  · go_wp2_with (fail)
                    refine (HCo.out _).mono ?_
                    rintro e w' ⟨rfl, rfl⟩
                    go_wp2_with (fail)
                    go_ret
                    refine ⟨?_, hbA⟩
                    rw [Hi.out, Hd.out, HE.out]
                    simp
                  · have hup := Hup.out
                    go_wp2_with (fail)
                    refine (HCo.out _).mono ?_
                    rintro e w' ⟨rfl, rfl⟩
                    go_wp2_with (fail)
                    go_roundg (gk - 1)
                    case measure => have := Hk.out; omega
                    case rel =>
                      refine ⟨k + 1, _, by have := Hk.out; omega, by go_num, hU2, hbB, Hbox2.out, ?_⟩
                      rw [Hi.out, Hd.out, HE.out]
                      simp [g1, g2]
            · go_wp2_with (fail)
              go_ret
              refine ⟨?_, hbA⟩
              rw [Hi.out, Hd.out, HE.out]
              rfl
        · have e1 := Hi.out
          rw [List.drop_of_length_le (by omega)] at e1
          have e1 := Lib.hid (show checkL ns ds = chkD ns.length ds used from e1)
          have n0 : wr.cell? ⟨w.heap.size, 0, none⟩ = some (.slice A1 ns.length c1) := by rw [cell_of_row wr _ 0 _ _ _ Hbox.out]; rfl
          have n1 : wr.cell? ⟨w.heap.size, 1, none⟩ = some (.slice A2 ds.length c2) := by rw [cell_of_row wr _ 1 _ _ _ Hbox.out]; rfl
          go_wp2_with (fail)
          clear n0 n1 Hi hlt
          obtain ⟨wo, rfl⟩ : ∃ wo : World, wo = wr := ⟨_, rfl⟩
          have hkk := Hk.out
          go_loopg [58] ds.length (fun g i wr => ∃ (m : Nat) (us : List (List UInt8)), m + g = ds.length ∧ i = .int .i64 m ∧ USet wr (w.heap.size + 1) (k + m) us ∧ Below w.heap.size w wr ∧
            wr.heap[w.heap.size]? = some (.cells #[.slice A1 ns.length c1, .slice A2 ds.length c2] 26 (0, 0)) ∧ checkL ns ds = chkD ns.length (ds.drop m) us)
          case atStart => exact ⟨0, used, by omega, rfl, hU, hbel, Hbox.out, e1.out⟩
          case round =>
            clear hU hUl Hbox e1 hbel
            obtain ⟨m, us, hm, rfl, hU, hbel, hbox, hi⟩ := hrel
            have Hi := Lib.hid hi
            have Hm := Lib.hid hm
            have Hbox := Lib.hid hbox
            have Hkk := Lib.hid hkk
            have hklt : k ≤ 65536 := by omega
            clear hi hm hbox hkk Hk
            have hUl := hU.lt
            by_cases hlt : m < ds.length
            · obtain ⟨b, off, rfl, hS, hbl, q0, q1, q2, q3, q4⟩ := (hn.below hbel).dev hlt
              have Hd := Lib.hid (show chkD ns.length (ds.drop m) us = if devErr ns.length ds[m] us = 0 then chkD ns.length (ds.drop (m + 1)) (ds[m].name.data.toList :: us) else devErr ns.length ds[m] us by rw [List.drop_eq_getElem_cons hlt]; rfl)
              have hsz := hn.dsz ds[m] (List.getElem_mem hlt)
              have HE := Lib.hid (show devErr ns.length ds[m] us = if nameB ds[m].name = false then 3 else if decide (ds[m].name.data.toList ∈ us) then 4 else if ds[m].kind < 1 ∨ 6 < ds[m].kind then 6 else if endsB ds[m] ns.length = false then 7 else if companyB ds[m].comp = false then 5 else 0 by unfold devErr; simp only [decide_eq_true_eq])
              go_wp2_with (fail)
              refine (name_yes ds[m].name _ (h.below (hbel.alloc hbel.size _)) hsz).mono ?_
              rintro e w1 ⟨rfl, hb1⟩
              have hbA : Below w.heap.size w w1 := (hbel.alloc hbel.size _).trans (hb1.mono (by have := hbel.size; simp; omega))
              have hU1 := (hU.keep ((Below.refl _ _).alloc (Nat.le_refl _) (.cells #[.string ds[m].name, .int .i64 ds[m].kind, .int .i64 ds[m].a, .int .i64 ds[m].b, .int .i64 ds[m].comp] 81))).keep hb1
              obtain ⟨hcc, hff⟩ := bcell hb1
              have Hbox1 := Lib.hid ((hb1.block w.heap.size (by have := hbel.size; simp; omega)).trans ((Below.heap_alloc _ _ _ (by omega)).trans Hbox.out))
              generalize nameB ds[m].name = nb at *
              cases nb
              · go_wp2_with (fail)
                go_ret
                refine ⟨?_, hbA⟩
                rw [Hi.out, Hd.out, HE.out]
                rfl
              · have hlk := hU1.look hsz
                rw [if_neg (by decide)] at HE
                generalize decide (ds[m].name.data.toList ∈ us) = mem at *
                cases mem
                · by_cases g1 : ds[m].kind < 1
                  · go_wp2_with (fail)
                    go_ret
                    refine ⟨?_, hbA⟩
                    rw [Hi.out, Hd.out, HE.out]
                    simp [g1]
                  · by_cases g2 : 6 < ds[m].kind
                    · go_wp2_with (fail)
                      go_ret
                      refine ⟨?_, hbA⟩
                      rw [Hi.out, Hd.out, HE.out]
                      simp [g2]
                    · have hgk : ¬ (ds[m].kind < 1 ∨ 6 < ds[m].kind) := by omega
                      rw [if_neg (by decide), if_neg hgk] at HE
                      clear hgk
                      have n0' : w1.cell? ⟨w.heap.size, 0, none⟩ = some (.slice A1 ns.length c1) := by rw [cell_of_row w1 _ 0 _ _ _ Hbox1.out]; rfl
                      go_wp2_with (fail)
                      refine (ends_any ds[m] ns.length w1).mono ?_
                      rintro e w2 ⟨rfl, hb2⟩
                      have hbB : Below w.heap.size w w2 := hbA.trans (hb2.mono hbA.size)
                      have hU2 := hU1.keep hb2
                      have hcc2 := (bcell hb2).1
                      have hsize1 : wr.heap.size < w1.heap.size := by have := hb1.size; simp at this; omega
                      have Hbox2 := Lib.hid ((hb2.block w.heap.size (by have := hbel.size; omega)).trans Hbox1.out)
                      clear Hbox1 hlk
                      generalize endsB ds[m] ns.length = eb at *
                      cases eb
                      · go_wp2_with (fail)
                        go_ret
                        refine ⟨?_, hbB⟩
                        rw [Hi.out, Hd.out, HE.out]
                        rfl
                      · have HCo := company_any ds[m].comp
                        generalize companyB ds[m].comp = cb at *
                        have HCo := Lib.hid HCo
                        obtain ⟨w3, hup, hU3, hg3⟩ := hU2.put (show k + m < maxLen by unfold maxLen; omega) hsz
                        have hbC : Below w.heap.size w w3 := hbB.grown hg3 hbB.size (fun g hg => by injection hg with hg; omega)
                        have Hbox3 := Lib.hid ((hg3.block w.heap.size (by have := Hbox2.out; exact (Array.getElem?_eq_some_iff.1 this).1) (by intro e; injection e with e; omega)).trans Hbox2.out)
                        have Hup := Lib.hid hup
                        clear hup
                        go_wp2_with (fail)
                        refine (HCo.out _).mono ?_
                        rintro e w' ⟨rfl, rfl⟩
                        cases cb
                        · go_wp2_with (fail)
                          go_ret
                          refine ⟨?_, hbB⟩
                          rw [Hi.out, Hd.out, HE.out]
                          rfl
                        · have hup := Hup.out
                          go_wp2_with (fail)
                          go_roundg (gk - 1)
                          case measure => have := Hm.out; omega
                          case rel =>
                            refine ⟨m + 1, _, by have := Hm.out; omega, by go_num, hU3, hbC, Hbox3.out, ?_⟩
                            rw [Hi.out, Hd.out, HE.out]
                            rfl
                · go_wp2_with (fail)
                  go_ret
                  refine ⟨?_, hbA⟩
                  rw [Hi.out, Hd.out, HE.out]
                  rfl
            · have e1 := Hi.out
              rw [List.drop_of_length_le (by omega)] at e1
              have e1 := Lib.hid (show checkL ns ds = 0 from e1)
              go_wp2_with (fail)
              go_ret
              exact ⟨by rw [e1.out]; rfl, hbel⟩
end Go.Proofs.YtglhplddjjoggaaDoor

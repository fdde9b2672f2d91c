/-
  Plain: parts depend on the devices that join alone; what the sources and the earths give to the colours.
-/
import Derived.Test.YtglhplddjjoggaaDoorColP
namespace Go.Proofs.YtglhplddjjoggaaDoor
set_option maxHeartbeats 400000

theorem across_not {d : Dev} (h : joinsB d.kind = false) (v : Int) : acrossL d v = -1 := by unfold acrossL; rw [if_pos h]
/-- The states of the devices that join are the same. -/
inductive SameJ : List Dev → List Int → List Int → Prop
  | nil : SameJ [] [] []
  | cons {d : Dev} {ds : List Dev} {x y : Int} {st st' : List Int} (h : joinsB d.kind = true → x = y) (t : SameJ ds st st') : SameJ (d :: ds) (x :: st) (y :: st')
theorem SameJ.nb {ds : List Dev} {st st' : List Int} (h : SameJ ds st st') (v : Nat) : nbZ (ds.zip (useOf st)) v = nbZ (ds.zip (useOf st')) v := by
  induction h with
  | nil => rfl
  | @cons d ds x y st st' hj t ih =>
    unfold nbZ useOf at *
    simp only [List.map_cons, List.zip_cons_cons, List.filterMap_cons]
    cases hk : joinsB d.kind
    · rw [across_not hk]
      simpa using ih
    · rw [hj hk, ih]
theorem SameJ.parts {ds : List Dev} {st st' : List Int} (h : SameJ ds st st') (n : Nat) : partsL n ds st = partsL n ds st' := by
  have e : nbZ (ds.zip (useOf st)) = nbZ (ds.zip (useOf st')) := funext h.nb
  have f : partStep n ds st = partStep n ds st' := by
    funext out v
    unfold partStep floodD
    rw [e]
  unfold partsL partsTo
  rw [f]

/-- The devices of a sort opened. -/
def putL (p : Dev → Bool) : List Dev → List Int → List Int
  | d :: ds, x :: st => (if p d then 1 else x) :: putL p ds st
  | _, st => st
theorem putL_len (p : Dev → Bool) : ∀ (ds : List Dev) (st : List Int), (putL p ds st).length = st.length
  | [], st => by cases st <;> rfl
  | _ :: _, [] => rfl
  | d :: ds, x :: st => by simp [putL, putL_len p ds st]
theorem putL_at (p : Dev → Bool) : ∀ (ds : List Dev) (st : List Int) (i : Nat) (h1 : i < ds.length) (h2 : i < st.length), (putL p ds st)[i]'(by rw [putL_len]; exact h2) = if p ds[i] then 1 else st[i]
  | [], _, _, h, _ => by simp at h
  | _ :: _, [], _, _, h => by simp at h
  | d :: ds, x :: st, 0, _, _ => rfl
  | d :: ds, x :: st, i + 1, h1, h2 => by simpa [putL] using putL_at p ds st i (by simpa using h1) (by simpa using h2)
theorem putL_same {p : Dev → Bool} (hp : ∀ d, joinsB d.kind = true → p d = false) : ∀ (ds : List Dev) (st : List Int), st.length = ds.length → SameJ ds (putL p ds st) st
  | [], [], _ => .nil
  | [], _ :: _, h => by simp at h
  | _ :: _, [], h => by simp at h
  | d :: ds, x :: st, h => .cons (fun hj => by simp [hp d hj]) (putL_same hp ds st (by simpa using h))
theorem putL_pos {p : Dev → Bool} : ∀ (ds : List Dev) (st : List Int), (∀ x ∈ st, x = 1 ∨ x = 2) → ∀ x ∈ putL p ds st, x = 1 ∨ x = 2
  | [], st, h => by cases st <;> exact h
  | _ :: _, [], h => h
  | d :: ds, x :: st, h => fun y hy => by
    rcases List.mem_cons.1 hy with rfl | hy
    · split
      · exact .inl rfl
      · exact h x (by simp)
    · exact putL_pos ds st (fun z hz => h z (by simp [hz])) y hy
def isSrc (d : Dev) : Bool := (d.kind == 5) || (d.kind == 6)
def isEar (d : Dev) : Bool := d.kind == 4
theorem joins_src (d : Dev) (h : joinsB d.kind = true) : isSrc d = false := by unfold joinsB at h; simp [isSrc] at *; omega
theorem joins_ear (d : Dev) (h : joinsB d.kind = true) : isEar d = false := by unfold joinsB at h; simp [isEar] at *; omega

theorem live_dark (ps : List Int) (p : Int) : ∀ (ds : List Dev) (st : List Int), (ds.zip (putL isSrc ds st)).any (liveZ ps p) = false
  | [], st => by cases st <;> rfl
  | _ :: _, [] => rfl
  | d :: ds, x :: st => by
    simp only [putL, List.zip_cons_cons, List.any_cons, live_dark ps p ds st, Bool.or_false]
    unfold liveZ isSrc
    cases h5 : (d.kind == 5) <;> cases h6 : (d.kind == 6) <;> simp
theorem earth_dark (ps : List Int) (p : Int) : ∀ (ds : List Dev) (st : List Int), (ds.zip (putL isSrc ds st)).any (earthZ ps p) = (ds.zip st).any (earthZ ps p)
  | [], st => by cases st <;> rfl
  | _ :: _, [] => rfl
  | d :: ds, x :: st => by
    simp only [putL, List.zip_cons_cons, List.any_cons, earth_dark ps p ds st]
    congr 1
    unfold earthZ isSrc
    cases h4 : (d.kind == 4)
    · simp
    · have : d.kind = 4 := by simpa using h4
      simp [this]
theorem earth_free (ps : List Int) (p : Int) : ∀ (ds : List Dev) (st : List Int), (ds.zip (putL isEar ds st)).any (earthZ ps p) = false
  | [], st => by cases st <;> rfl
  | _ :: _, [] => rfl
  | d :: ds, x :: st => by
    simp only [putL, List.zip_cons_cons, List.any_cons, earth_free ps p ds st, Bool.or_false]
    unfold earthZ isEar
    cases h4 : (d.kind == 4) <;> simp
theorem live_free (ps : List Int) (p : Int) : ∀ (ds : List Dev) (st : List Int), (ds.zip (putL isEar ds st)).any (liveZ ps p) = (ds.zip st).any (liveZ ps p)
  | [], st => by cases st <;> rfl
  | _ :: _, [] => rfl
  | d :: ds, x :: st => by
    simp only [putL, List.zip_cons_cons, List.any_cons, live_free ps p ds st]
    congr 1
    unfold liveZ isEar
    cases h4 : (d.kind == 4)
    · simp
    · have : d.kind = 4 := by simpa using h4
      simp [this]

theorem mask_ok {ns : List Node} {ds : List Dev} {st : List Int} (hc : checkL ns ds = 0) (hl : st.length = ds.length) (hp : ∀ x ∈ st, x = 1 ∨ x = 2) : maskC isPos ns ds st = 0 := by
  have ha : st.all isPos = true := List.all_eq_true.2 (fun x hx => by rcases hp x hx with rfl | rfl <;> rfl)
  unfold maskC
  rw [if_neg (by simpa using hc), if_neg (by simpa using hl), if_pos ha]
theorem colours_ok {ns : List Node} {ds : List Dev} {st : List Int} (hc : checkL ns ds = 0) (hl : st.length = ds.length) (hp : ∀ x ∈ st, x = 1 ∨ x = 2) : coloursE ns ds st = (colL ds st (partsL ns.length ds st), 0) := by
  unfold coloursE; rw [mask_ok hc hl hp]; rfl
theorem parts_ok {ns : List Node} {ds : List Dev} {st : List Int} (hc : checkL ns ds = 0) (hl : st.length = ds.length) (hp : ∀ x ∈ st, x = 1 ∨ x = 2) : partsE ns ds st = (partsL ns.length ds st, 0) := by
  unfold partsE; rw [mask_ok hc hl hp]; rfl
theorem colL_len (ds : List Dev) (st ps : List Int) : (colL ds st ps).length = ps.length := by simp [colL]

/-- What the three lists of colours hold at a node. -/
theorem sources_at {n : Nat} {ds : List Dev} {st : List Int} (hl : st.length = ds.length) (v : Nat) (hv : v < n) : ∃ l e : Bool,
    PO.at_ (colL ds (putL isSrc ds st) (partsL n ds (putL isSrc ds st))) v = colV false e ∧ PO.at_ (colL ds (putL isEar ds st) (partsL n ds (putL isEar ds st))) v = colV l false ∧ PO.at_ (colL ds st (partsL n ds st)) v = colV l e := by
  rw [(putL_same joins_src ds st hl).parts, (putL_same joins_ear ds st hl).parts]
  have hlen := partsL_len n ds st
  generalize partsL n ds st = ps at *
  have hv' : v < ps.length := by omega
  rw [at_get (by rw [colL_len]; exact hv'), at_get (by rw [colL_len]; exact hv'), at_get (by rw [colL_len]; exact hv')]
  simp only [colL, List.getElem_map, bitsZ, live_dark, earth_dark, live_free, earth_free]
  exact ⟨_, _, rfl, rfl, rfl⟩
theorem flt_mem : ∀ (cs : List Int) (k v : Nat), (((v : Nat) : Int) ∈ flt cs k) ↔ k ≤ v ∧ cs[v - k]? = some 3
  | [], k, v => by simp [flt]
  | c :: cs, k, v => by
    have ih := flt_mem cs (k + 1) v
    unfold flt
    by_cases hkv : k = v
    · subst hkv
      have : ¬ ((k : Int) ∈ flt cs (k + 1)) := fun h => by have := ih.1 h; omega
      by_cases hc : c = 3
      · simp [hc]
      · simp [hc, this]
    · by_cases hlt : k < v
      · have e : v - k = (v - (k + 1)) + 1 := by omega
        rw [e, List.getElem?_cons_succ]
        have ne : ¬ ((v : Int) = k) := by omega
        split
        · rw [List.mem_cons, ih]
          simp only [ne, false_or]
          constructor <;> rintro ⟨_, h⟩ <;> exact ⟨by omega, h⟩
        · rw [ih]
          constructor <;> rintro ⟨_, h⟩ <;> exact ⟨by omega, h⟩
      · have h1 : ¬ ((v : Int) ∈ flt cs (k + 1)) := fun h => by have := ih.1 h; omega
        have ne : ¬ ((v : Int) = k) := by omega
        split
        · simp [ne, h1]; omega
        · simp [h1]; omega
end Go.Proofs.YtglhplddjjoggaaDoor

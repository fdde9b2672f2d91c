/-
  Plain theory of breadth-first search and of steps between nodes; nothing of the program is in sight.
-/
namespace Go.Proofs.YtglhplddjjoggaaDoor
namespace PO

/-- The value at a place, -1 outside. -/
def at_ (out : List Int) (v : Nat) : Int := (out[v]?).getD (-1)

theorem at_set (out : List Int) (w v : Nat) (x : Int) : at_ (out.set w x) v = if w = v ∧ v < out.length then x else at_ out v := by
  unfold at_
  rw [List.getElem?_set]
  by_cases h : w = v
  · subst h
    by_cases h2 : w < out.length
    · simp [h2]
    · simp [h2]
  · simp [h]

def scan (x : Int) : List Nat → List Int → List Nat → List Int × List Nat
  | [], out, q => (out, q)
  | w :: ws, out, q => if at_ out w < 0 then scan x ws (out.set w x) (q ++ [w]) else scan x ws out q

def bfs (nb : Nat → List Nat) : Nat → List Int → List Nat → List Int
  | 0, out, _ => out
  | _ + 1, out, [] => out
  | f + 1, out, v :: q => bfs nb f (scan (at_ out v + 1) (nb v) out q).1 (scan (at_ out v + 1) (nb v) out q).2

def negs (out : List Int) : Nat := out.countP (fun x => decide (x < 0))

theorem negs_set {out : List Int} {w : Nat} {x : Int} (hw : w < out.length) (h : at_ out w < 0) (hx : 0 ≤ x) : negs (out.set w x) + 1 = negs out := by
  induction out generalizing w with
  | nil => simp at hw
  | cons y l ih =>
    cases w with
    | zero =>
      have hy : y < 0 := by simpa [at_] using h
      have hx' : ¬ x < 0 := by omega
      simp [negs, hy, hx']
    | succ w =>
      have h1 : at_ l w < 0 := by simpa [at_] using h
      have h2 := ih (by simpa using hw) h1
      simp only [negs, List.set_cons_succ, List.countP_cons] at h2 ⊢
      omega

structure Scanned (N : Nat) (x : Int) (ws : List Nat) (out : List Int) (q : List Nat) (out' : List Int) (q' : List Nat) : Prop where
  len : out'.length = out.length
  old : ∀ u, 0 ≤ at_ out u → at_ out' u = at_ out u
  new : ∃ l, q' = q ++ l ∧ (∀ u ∈ l, at_ out u < 0 ∧ at_ out' u = x ∧ u ∈ ws) ∧ (∀ u, at_ out u < 0 → 0 ≤ at_ out' u → u ∈ l)
  all : ∀ u ∈ ws, 0 ≤ at_ out' u
  neg : negs out' + q'.length = negs out + q.length
  low : ∀ u, at_ out u < 0 → at_ out' u = at_ out u ∨ at_ out' u = x

theorem scanned {N : Nat} {x : Int} (hx : 0 ≤ x) : ∀ (ws : List Nat) (out : List Int) (q : List Nat), (∀ w ∈ ws, w < N) → out.length = N →
    Scanned N x ws out q (scan x ws out q).1 (scan x ws out q).2
  | [], out, q, _, _ => ⟨rfl, fun _ _ => rfl, ⟨[], by simp [scan], by simp, fun u h1 h2 => absurd h2 (by simp [scan]; omega)⟩, by simp, rfl, fun _ _ => .inl rfl⟩
  | w :: ws, out, q, hw, hl => by
    have hwN : w < N := hw w (by simp)
    have hws : ∀ w ∈ ws, w < N := fun u hu => hw u (by simp [hu])
    simp only [scan]
    by_cases h : at_ out w < 0
    · rw [if_pos h]
      have ih := scanned hx ws (out.set w x) (q ++ [w]) hws (by simpa using hl)
      generalize hr : scan x ws (out.set w x) (q ++ [w]) = r at ih
      obtain ⟨len, old, ⟨l, hq, hnew, hall⟩, all, neg, low⟩ := ih
      have hset : ∀ v, at_ (out.set w x) v = if w = v then x else at_ out v := fun v => by
        rw [at_set]
        by_cases e : w = v
        · subst e; simp [hl, hwN]
        · simp [e]
      refine ⟨by simpa using len, fun u hu => ?_, ⟨w :: l, by simp [hq], fun u hu => ?_, fun u h1 h2 => ?_⟩, fun u hu => ?_, ?_, fun u hu => ?_⟩
      · have e : w ≠ u := by rintro rfl; omega
        rw [old u (by rw [hset, if_neg e]; exact hu), hset, if_neg e]
      · rcases List.mem_cons.1 hu with rfl | hu
        · refine ⟨h, ?_, by simp⟩
          rw [old _ (by rw [hset, if_pos rfl]; exact hx), hset, if_pos rfl]
        · obtain ⟨g1, g2, g3⟩ := hnew u hu
          rw [hset] at g1
          by_cases e : w = u
          · rw [if_pos e] at g1; omega
          · rw [if_neg e] at g1
            exact ⟨g1, g2, by simp [g3]⟩
      · by_cases e : w = u
        · subst e; simp
        · exact List.mem_cons_of_mem _ (hall u (by rw [hset, if_neg e]; exact h1) h2)
      · rcases List.mem_cons.1 hu with rfl | hu
        · rw [old _ (by rw [hset, if_pos rfl]; exact hx), hset, if_pos rfl]; exact hx
        · exact all u hu
      · have := negs_set (out := out) (x := x) (by omega) h hx
        simp at neg ⊢
        omega
      · by_cases e : w = u
        · subst e
          right
          rw [old _ (by rw [hset, if_pos rfl]; exact hx), hset, if_pos rfl]
        · have := low u (by rw [hset, if_neg e]; exact hu)
          rwa [hset, if_neg e] at this
    · rw [if_neg h]
      have ih := scanned hx ws out q hws hl
      obtain ⟨len, old, ⟨l, hq, hnew, hall⟩, all, neg, low⟩ := ih
      refine ⟨len, old, ⟨l, hq, fun u hu => ?_, hall⟩, fun u hu => ?_, neg, low⟩
      · obtain ⟨g1, g2, g3⟩ := hnew u hu
        exact ⟨g1, g2, by simp [g3]⟩
      · rcases List.mem_cons.1 hu with rfl | hu
        · rw [old _ (by omega)]; omega
        · exact all u hu

structure Inv (N : Nat) (nb : Nat → List Nat) (goals : List Nat) (out : List Int) (q : List Nat) : Prop where
  len : out.length = N
  low : ∀ v, -1 ≤ at_ out v
  qge : ∀ v ∈ q, 0 ≤ at_ out v
  sorted : q.Pairwise (fun u v => at_ out u ≤ at_ out v)
  near : ∀ u ∈ q, ∀ v ∈ q, at_ out v ≤ at_ out u + 1
  doneLe : ∀ u, 0 ≤ at_ out u → u ∉ q → ∀ v ∈ q, at_ out u ≤ at_ out v
  doneNb : ∀ u, 0 ≤ at_ out u → u ∉ q → ∀ v ∈ nb u, 0 ≤ at_ out v ∧ at_ out v ≤ at_ out u + 1
  pred : ∀ v, 0 < at_ out v → ∃ u, v ∈ nb u ∧ 0 ≤ at_ out u ∧ at_ out v = at_ out u + 1
  zero : ∀ v, at_ out v = 0 ↔ v ∈ goals

theorem inv_step {N : Nat} {nb : Nat → List Nat} {goals : List Nat} (hnb : ∀ v, ∀ w ∈ nb v, w < N) {out : List Int} {v : Nat} {q : List Nat} (h : Inv N nb goals out (v :: q)) :
    Inv N nb goals (scan (at_ out v + 1) (nb v) out q).1 (scan (at_ out v + 1) (nb v) out q).2 := by
  have hv : 0 ≤ at_ out v := h.qge v (by simp)
  have hs := scanned (N := N) (x := at_ out v + 1) (by omega) (nb v) out q (hnb v) h.len
  generalize scan (at_ out v + 1) (nb v) out q = r at hs
  obtain ⟨out', q'⟩ := r
  obtain ⟨len, old, ⟨l, hq, hnew, hall⟩, all, neg, low⟩ := hs
  simp only at hq hnew hall all old low ⊢
  have hsor := List.pairwise_cons.1 h.sorted
  have oldq : ∀ u ∈ q, at_ out' u = at_ out u := fun u hu => old u (h.qge u (by simp [hu]))
  have vle : ∀ u ∈ q, at_ out v ≤ at_ out u := hsor.1
  have ule : ∀ u ∈ q, at_ out u ≤ at_ out v + 1 := fun u hu => h.near v (by simp) u (by simp [hu])
  -- what was found before: the value is that of before, or new
  have cases_ : ∀ u, 0 ≤ at_ out' u → (0 ≤ at_ out u ∧ at_ out' u = at_ out u) ∨ (u ∈ l ∧ at_ out' u = at_ out v + 1) := fun u hu => by
    by_cases h0 : 0 ≤ at_ out u
    · exact .inl ⟨h0, old u h0⟩
    · have hm := hall u (by omega) hu
      exact .inr ⟨hm, (hnew u hm).2.1⟩
  -- all found ones are at most one more than v
  have top : ∀ u, u ∈ nb v → at_ out' u ≤ at_ out v + 1 := fun u hu => by
    rcases cases_ u (all u hu) with ⟨h0, e⟩ | ⟨_, e⟩
    · rw [e]
      by_cases hm : u ∈ v :: q
      · exact h.near v (by simp) u hm
      · have := h.doneLe u h0 hm v (by simp); omega
    · omega
  refine ⟨by rw [len]; exact h.len, fun u => ?_, fun u hu => ?_, ?_, fun u hu w hw => ?_, fun u hu hn w hw => ?_, fun u hu hn w hw => ?_, fun u hu => ?_, fun u => ?_⟩
  · by_cases h0 : 0 ≤ at_ out u
    · rw [old u h0]; omega
    · rcases low u (by omega) with e | e
      · rw [e]; exact h.low u
      · omega
  · rw [hq] at hu
    rcases List.mem_append.1 hu with hu | hu
    · rw [oldq u hu]; exact h.qge u (by simp [hu])
    · rw [(hnew u hu).2.1]; omega
  · rw [hq, List.pairwise_append]
    refine ⟨?_, ?_, fun a ha b hb => ?_⟩
    · refine List.Pairwise.imp_of_mem (fun ha hb hab => ?_) hsor.2
      rw [oldq _ ha, oldq _ hb]; exact hab
    · refine List.Pairwise.imp_of_mem (R := fun _ _ => True) (fun ha hb _ => ?_) (List.pairwise_of_forall (fun _ _ => trivial))
      rw [(hnew _ ha).2.1, (hnew _ hb).2.1]; omega
    · rw [oldq a ha, (hnew b hb).2.1]; exact ule a ha
  · have lo : ∀ y ∈ q', at_ out v ≤ at_ out' y ∧ at_ out' y ≤ at_ out v + 1 := fun y hy => by
      rw [hq] at hy
      rcases List.mem_append.1 hy with hy | hy
      · rw [oldq y hy]; exact ⟨vle y hy, ule y hy⟩
      · rw [(hnew y hy).2.1]; omega
    have a := lo u hu; have b := lo w hw; omega
  · have hw' : at_ out v ≤ at_ out' w := by
      rw [hq] at hw
      rcases List.mem_append.1 hw with hw | hw
      · rw [oldq w hw]; exact vle w hw
      · rw [(hnew w hw).2.1]; omega
    rcases cases_ u hu with ⟨h0, e⟩ | ⟨hm, _⟩
    · rw [e]
      by_cases hm : u ∈ v :: q
      · rcases List.mem_cons.1 hm with rfl | hm
        · exact hw'
        · exact absurd (by rw [hq]; simp [hm]) hn
      · have := h.doneLe u h0 hm v (by simp); omega
    · exact absurd (by rw [hq]; simp [hm]) hn
  · rcases cases_ u hu with ⟨h0, e⟩ | ⟨hm, _⟩
    · by_cases hm : u ∈ v :: q
      · rcases List.mem_cons.1 hm with rfl | hm
        · rw [e]; exact ⟨all w hw, top w hw⟩
        · exact absurd (by rw [hq]; simp [hm]) hn
      · have := h.doneNb u h0 hm w hw
        rw [old w this.1, e]; exact this
    · exact absurd (by rw [hq]; simp [hm]) hn
  · rcases cases_ u (by omega) with ⟨h0, e⟩ | ⟨hm, e⟩
    · obtain ⟨p, hp1, hp2, hp3⟩ := h.pred u (by omega)
      exact ⟨p, hp1, by rw [old p hp2]; exact hp2, by rw [e, old p hp2]; exact hp3⟩
    · exact ⟨v, (hnew u hm).2.2, by rw [old v hv]; exact hv, by rw [e, old v hv]⟩
  · rw [← h.zero u]
    constructor
    · intro hu
      rcases cases_ u (by omega) with ⟨_, e⟩ | ⟨_, e⟩
      · omega
      · omega
    · intro hu
      rw [old u (by omega)]; exact hu

theorem inv_bfs {N : Nat} {nb : Nat → List Nat} {goals : List Nat} (hnb : ∀ v, ∀ w ∈ nb v, w < N) : ∀ (f : Nat) (out : List Int) (q : List Nat), Inv N nb goals out q → negs out + q.length ≤ f →
    Inv N nb goals (bfs nb f out q) []
  | 0, out, q, h, hf => by
    have : q = [] := List.eq_nil_of_length_eq_zero (by omega)
    subst this; exact h
  | f + 1, out, [], h, _ => h
  | f + 1, out, v :: q, h, hf => by
    simp only [bfs]
    have hs := scanned (N := N) (x := at_ out v + 1) (by have := h.qge v (by simp); omega) (nb v) out q (hnb v) h.len
    exact inv_bfs hnb f _ _ (inv_step hnb h) (by have := hs.neg; simp at hf; omega)

/-- What the distances are in the end. -/
structure Dist (N : Nat) (nb : Nat → List Nat) (goals : List Nat) (out : List Int) : Prop where
  len : out.length = N
  low : ∀ v, -1 ≤ at_ out v
  edge : ∀ u, 0 ≤ at_ out u → ∀ v ∈ nb u, 0 ≤ at_ out v ∧ at_ out v ≤ at_ out u + 1
  pred : ∀ v, 0 < at_ out v → ∃ u, v ∈ nb u ∧ 0 ≤ at_ out u ∧ at_ out v = at_ out u + 1
  zero : ∀ v, at_ out v = 0 ↔ v ∈ goals

theorem Inv.dist {N : Nat} {nb : Nat → List Nat} {goals : List Nat} {out : List Int} (h : Inv N nb goals out []) : Dist N nb goals out :=
  ⟨h.len, h.low, fun u hu v hv => h.doneNb u hu (by simp) v hv, h.pred, h.zero⟩

def mark (out : List Int) : List Nat → List Int
  | [] => out
  | g :: gs => mark (out.set g 0) gs

theorem mark_len : ∀ (gs : List Nat) (out : List Int), (mark out gs).length = out.length
  | [], _ => rfl
  | g :: gs, out => by simp [mark, mark_len gs]

theorem at_mark : ∀ (gs : List Nat) (out : List Int) (v : Nat), (∀ g ∈ gs, g < out.length) → at_ (mark out gs) v = if v ∈ gs then 0 else at_ out v
  | [], _, _, _ => by simp [mark]
  | g :: gs, out, v, h => by
    simp only [mark]
    rw [at_mark gs _ v (by intro x hx; simp; exact h x (by simp [hx])), at_set]
    have := h g (by simp)
    by_cases e : g = v
    · subst e; simp [this]
    · by_cases m : v ∈ gs
      · simp [m]
      · simp [m, e, Ne.symm e]

theorem at_rep (n v : Nat) : at_ (List.replicate n (-1)) v = -1 := by
  unfold at_
  rw [List.getElem?_replicate]
  split <;> rfl

theorem inv_start {N : Nat} {nb : Nat → List Nat} {goals : List Nat} (hg : ∀ g ∈ goals, g < N) : Inv N nb goals (mark (List.replicate N (-1)) goals) goals := by
  have hat : ∀ v, at_ (mark (List.replicate N (-1)) goals) v = if v ∈ goals then 0 else -1 := fun v => by
    rw [at_mark _ _ _ (by simpa using hg), at_rep]
  refine ⟨by simp [mark_len], fun v => ?_, fun v hv => ?_, ?_, fun u hu v hv => ?_, fun u hu hn => ?_, fun u hu hn => ?_, fun v hv => ?_, fun v => ?_⟩
  · rw [hat]; split <;> omega
  · rw [hat, if_pos hv]; omega
  · refine List.Pairwise.imp_of_mem (R := fun _ _ => True) (fun ha hb _ => ?_) (List.pairwise_of_forall (fun _ _ => trivial))
    rw [hat, if_pos ha, hat, if_pos hb]; omega
  · rw [hat, hat, if_pos hu, if_pos hv]; omega
  · rw [hat, if_neg hn] at hu; omega
  · rw [hat, if_neg hn] at hu; omega
  · rw [hat] at hv; split at hv <;> omega
  · rw [hat]; by_cases m : v ∈ goals <;> simp [m]

end PO
namespace PO
def Steps (nb : Nat → List Nat) : Nat → Nat → Nat → Prop
  | 0, u, v => u = v
  | n + 1, u, v => ∃ m, m ∈ nb u ∧ Steps nb n m v
theorem Steps.snoc {nb : Nat → List Nat} : ∀ {n u m v : Nat}, Steps nb n u m → v ∈ nb m → Steps nb (n + 1) u v
  | 0, u, m, v, h, hv => by
    have h : u = m := h
    subst h
    exact ⟨v, hv, rfl⟩
  | n + 1, u, m, v, ⟨x, hx, h⟩, hv => ⟨x, hx, Steps.snoc h hv⟩
theorem Steps.symm {nb : Nat → List Nat} (hs : ∀ u v, v ∈ nb u → u ∈ nb v) : ∀ {n u v : Nat}, Steps nb n u v → Steps nb n v u
  | 0, u, v, h => by
    have h : u = v := h
    exact h.symm
  | n + 1, u, v, ⟨x, hx, h⟩ => (Steps.symm hs h).snoc (hs u x hx)
theorem Steps.mono {nb nb' : Nat → List Nat} (hs : ∀ u v, v ∈ nb u → v ∈ nb' u) : ∀ {n u v : Nat}, Steps nb n u v → Steps nb' n u v
  | 0, _, _, h => h
  | _ + 1, u, _, ⟨x, hx, h⟩ => ⟨x, hs u x hx, Steps.mono hs h⟩
theorem Steps.trans {nb : Nat → List Nat} : ∀ {n m u x v : Nat}, Steps nb n u x → Steps nb m x v → ∃ k, Steps nb k u v
  | 0, m, u, x, v, h, h2 => by
    have h : u = x := h
    subst h
    exact ⟨m, h2⟩
  | n + 1, m, u, x, v, ⟨y, hy, h⟩, h2 => by
    obtain ⟨k, hk⟩ := Steps.trans h h2
    exact ⟨k + 1, y, hy, hk⟩

theorem Dist.le {N : Nat} {nb : Nat → List Nat} {goals : List Nat} {out : List Int} (h : Dist N nb goals out) : ∀ {n u v : Nat}, 0 ≤ at_ out u → Steps nb n u v → 0 ≤ at_ out v ∧ at_ out v ≤ at_ out u + n
  | 0, u, v, hu, hs => by
    have hs : u = v := hs
    subst hs
    omega
  | n + 1, u, v, hu, ⟨x, hx, hs⟩ => by
    have h1 := h.edge u hu x hx
    have h2 := Dist.le h h1.1 hs
    omega
theorem Dist.path {N : Nat} {nb : Nat → List Nat} {goals : List Nat} {out : List Int} (h : Dist N nb goals out) : ∀ (k v : Nat), at_ out v = k → ∃ g, g ∈ goals ∧ Steps nb k g v
  | 0, v, hk => ⟨v, (h.zero v).1 hk, rfl⟩
  | k + 1, v, hk => by
    obtain ⟨u, hu, h0, e⟩ := h.pred v (by omega)
    obtain ⟨g, hg, hs⟩ := Dist.path h k u (by omega)
    exact ⟨g, hg, hs.snoc hu⟩
/-- The distance of two nodes is one, whichever is the goal. -/
theorem Dist.symm {N : Nat} {nb : Nat → List Nat} {a b : Nat} {o1 o2 : List Int} (hs : ∀ u v, v ∈ nb u → u ∈ nb v) (h1 : Dist N nb [a] o1) (h2 : Dist N nb [b] o2) : at_ o1 b = at_ o2 a := by
  have key : ∀ {a b : Nat} {o1 o2 : List Int}, Dist N nb [a] o1 → Dist N nb [b] o2 → 0 ≤ at_ o1 b → 0 ≤ at_ o2 a ∧ at_ o2 a ≤ at_ o1 b := by
    intro a b o1 o2 h1 h2 h0
    obtain ⟨g, hg, hst⟩ := h1.path (at_ o1 b).toNat b (by omega)
    obtain rfl : g = a := by simpa using hg
    have := h2.le (u := b) (by rw [(h2.zero b).2 (by simp)]; omega) (hst.symm hs)
    rw [(h2.zero b).2 (by simp)] at this
    omega
  have l1 := h1.low b
  have l2 := h2.low a
  by_cases c1 : 0 ≤ at_ o1 b
  · have := key h1 h2 c1
    have := key h2 h1 this.1
    omega
  · by_cases c2 : 0 ≤ at_ o2 a
    · have := key h2 h1 c2; omega
    · omega
theorem Dist.mono {N : Nat} {nb nb' : Nat → List Nat} {gs : List Nat} {o1 o2 : List Int} (hs : ∀ u v, v ∈ nb u → v ∈ nb' u) (h1 : Dist N nb gs o1) (h2 : Dist N nb' gs o2) (v : Nat) (h0 : 0 ≤ at_ o1 v) : 0 ≤ at_ o2 v ∧ at_ o2 v ≤ at_ o1 v := by
  obtain ⟨g, hg, hst⟩ := h1.path (at_ o1 v).toNat v (by omega)
  have z := (h2.zero g).2 hg
  have := h2.le (u := g) (by omega) (hst.mono hs)
  omega
theorem pig : ∀ (N : Nat) (l : List Nat), l.Nodup → (∀ x ∈ l, x < N) → l.length ≤ N
  | 0, l, _, h => by
    cases l with
    | nil => simp
    | cons x l => exact absurd (h x (by simp)) (by omega)
  | N + 1, l, hn, h => by
    have ih := pig N (l.erase N) (hn.erase N) (fun x hx => by
      have := (hn.mem_erase_iff).1 hx
      have := h x this.2
      omega)
    rw [List.length_erase] at ih
    split at ih <;> omega
end PO
end Go.Proofs.YtglhplddjjoggaaDoor

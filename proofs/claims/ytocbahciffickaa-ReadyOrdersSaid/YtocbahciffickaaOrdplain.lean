import Derived.Test.YtocbahciffickaaKnown
namespace Go.Proofs.Ytocbahciffickaa
open Go.RowKit

/-- What holds while all are taken: lp, ln are the priority and the number of the one that was taken last. -/
structure Inv (len : Nat) (all : Bool) (ys : List J) (lp ln : Int) (seen : List Bool) : Prop where
  pos : ∀ j ∈ ys, 1 ≤ j.p ∧ j.p ≤ lp
  nom : ∀ j ∈ ys, ∃ q : Nat, j.n = (q : Int) ∧ q < len ∧ seen[q]? = some false
  inc : ys.Pairwise (fun a b => a.n < b.n)
  fst : all = true → ∀ j ∈ ys, j.p = lp → ln < j.n

theorem idxs_first (q : Int) (xs : List J) : ∀ (b i : Nat), (idxs q xs b)[0]? = some i → ∀ k, b ≤ k → k < i → ∀ j, xs[k - b]? = some j → j.p ≠ q := by
  induction xs with
  | nil => intro b i h; simp [idxs] at h
  | cons a xs ih =>
    intro b i h k hb hk j hj
    simp only [idxs] at h
    by_cases ha : a.p = q
    · rw [if_pos ha] at h
      simp at h
      omega
    · rw [if_neg ha] at h
      by_cases hkb : k = b
      · subst hkb
        simp at hj
        rw [← hj]
        exact ha
      · refine ih (b + 1) i h k (by omega) hk j ?_
        rw [show k - b = (k - (b + 1)) + 1 by omega] at hj
        simpa using hj

theorem best_ge (xs : List J) : ∀ j ∈ xs, j.p ≤ best xs := most_all xs 0

/-- The one that is taken, and what is left. -/
theorem Inv.step {len : Nat} {all : Bool} {ys : List J} {lp ln : Int} {seen : List Bool} (h : Inv len all ys lp ln seen) (hne : ys ≠ []) (pick : Int) (hp : all = true → pick = 0) (hsl : seen.length = len) :
    ∃ (i : Nat) (j : J) (q : Nat), takeJ ys 0 pick = j ∧ takeB ys 0 = true ∧ takeL ys 0 pick = ys.eraseIdx i ∧ i < ys.length ∧ j.n = (q : Int) ∧ q < len ∧ seen[q]? = some false ∧ j.p ≤ lp ∧ (all = true → j.p = lp → ln < j.n) ∧
      Inv len all (ys.eraseIdx i) j.p j.n (seen.set q true) ∧ 1 ≤ j.p := by
  have hb : best ys ≠ 0 := by
    intro e
    exact hne (idxs_none ys (fun j hj => (h.pos j hj).1) e)
  have hb0 := most_ge ys 0
  have hb1 : ¬ (best ys ≤ 0 ∨ best ys = 0) := by unfold best at hb ⊢; omega
  obtain ⟨k, i, j, hk, hk2, hk3, hi, hil, hj⟩ := takeAt_get ys pick hb
  have hm := List.mem_of_getElem? hj
  obtain ⟨q, hq1, hq2, hq3⟩ := h.nom j hm
  obtain ⟨_, j', hj', hjp⟩ := idxs_get _ _ _ _ _ hk3
  simp only [Nat.sub_zero] at hj'
  rw [hj] at hj'
  injection hj' with hj'
  subst hj'
  have sub : ∀ y ∈ ys.eraseIdx i, ∃ k', k' ≠ i ∧ ys[k']? = some y := by
    intro y hy
    obtain ⟨k', hk'⟩ := List.mem_iff_getElem?.1 hy
    rw [List.getElem?_eraseIdx] at hk'
    split at hk'
    · exact ⟨k', by omega, hk'⟩
    · exact ⟨k' + 1, by omega, hk'⟩
  have apart : ∀ k' y, k' ≠ i → ys[k']? = some y → y.n ≠ j.n := by
    intro k' y hne hy
    obtain ⟨a1, a2⟩ := List.getElem?_eq_some_iff.1 hy
    obtain ⟨b1, b2⟩ := List.getElem?_eq_some_iff.1 hj
    rcases Nat.lt_or_gt_of_ne hne with hlt | hlt
    · have := List.pairwise_iff_getElem.1 h.inc k' i a1 b1 hlt
      rw [a2, b2] at this
      omega
    · have := List.pairwise_iff_getElem.1 h.inc i k' b1 a1 hlt
      rw [a2, b2] at this
      omega
  refine ⟨i, j, q, ?_, ?_, ?_, hil, hq1, hq2, hq3, (h.pos j hm).2, fun ha e => h.fst ha j hm e, ⟨?_, ?_, ?_, ?_⟩, (h.pos j hm).1⟩
  · simp only [takeJ, if_neg hb1, hi, List.getD_eq_getElem?_getD, hj, Option.getD_some]
  · simp [takeB, hb1]
  · simp only [takeL, if_neg hb1, hi]
  · intro y hy
    have hy' := List.mem_of_mem_eraseIdx hy
    refine ⟨(h.pos y hy').1, ?_⟩
    rw [hjp]
    exact best_ge ys y hy'
  · intro y hy
    obtain ⟨k', hne', hk'⟩ := sub y hy
    obtain ⟨q', e1, e2, e3⟩ := h.nom y (List.mem_of_mem_eraseIdx hy)
    have := apart k' y hne' hk'
    refine ⟨q', e1, e2, ?_⟩
    rw [List.getElem?_set_ne (by omega)]
    exact e3
  · exact h.inc.sublist (List.eraseIdx_sublist _ _)
  · intro ha y hy e
    obtain ⟨k', hne', hk'⟩ := sub y hy
    have h0 : pick = 0 := hp ha
    have hk0 : k = 0 := by
      rw [h0] at hk
      simp at hk
      omega
    subst hk0
    rcases Nat.lt_or_gt_of_ne hne' with hlt | hlt
    · exact absurd (e.trans hjp) (idxs_first _ _ 0 i hk3 k' (by omega) hlt y (by simpa using hk'))
    · obtain ⟨a1, a2⟩ := List.getElem?_eq_some_iff.1 hk'
      obtain ⟨b1, b2⟩ := List.getElem?_eq_some_iff.1 hj
      have := List.pairwise_iff_getElem.1 h.inc i k' b1 a1 hlt
      rw [a2, b2] at this
      exact this

/-- What has been put so far. -/
structure Acc (i : Nat) (xs : List J) : Prop where
  pos : ∀ j ∈ xs, 1 ≤ j.p ∧ j.p ≤ 100
  nom : ∀ j ∈ xs, ∃ q : Nat, j.n = (q : Int) ∧ q < i
  inc : xs.Pairwise (fun a b => a.n < b.n)
  len : xs.length ≤ i
theorem Acc.nil : Acc 0 [] := ⟨by simp, by simp, by simp, by simp⟩
theorem Acc.skip {i : Nat} {xs : List J} (h : Acc i xs) : Acc (i + 1) xs :=
  ⟨h.pos, fun j hj => by obtain ⟨q, h1, h2⟩ := h.nom j hj; exact ⟨q, h1, by omega⟩, h.inc, by have := h.len; omega⟩
theorem Acc.put {i : Nat} {xs : List J} (h : Acc i xs) (t p : Int) (h1 : 1 ≤ p) (h2 : p ≤ 100) : Acc (i + 1) (xs ++ [⟨t, p, (i : Int)⟩]) := by
  refine ⟨?_, ?_, ?_, by have := h.len; simp; omega⟩
  · intro j hj
    rcases List.mem_append.1 hj with hj | hj
    · exact h.pos j hj
    · simp at hj; subst hj; exact ⟨h1, h2⟩
  · intro j hj
    rcases List.mem_append.1 hj with hj | hj
    · obtain ⟨q, h1, h2⟩ := h.nom j hj; exact ⟨q, h1, by omega⟩
    · simp at hj; subst hj; exact ⟨i, rfl, by omega⟩
  · rw [List.pairwise_append]
    refine ⟨h.inc, by simp, fun a ha b hb => ?_⟩
    simp at hb
    subst hb
    obtain ⟨q, h1, h2⟩ := h.nom a ha
    show a.n < (i : Int)
    omega
theorem Acc.inv {len : Nat} {xs : List J} (h : Acc len xs) (all : Bool) : Inv len all xs 101 (-1) (List.replicate len false) := by
  refine ⟨fun j hj => by have := h.pos j hj; omega, fun j hj => ?_, h.inc, fun _ j hj e => by have := h.pos j hj; omega⟩
  obtain ⟨q, h1, h2⟩ := h.nom j hj
  exact ⟨q, h1, h2, by simp [h2]⟩
end Go.Proofs.Ytocbahciffickaa

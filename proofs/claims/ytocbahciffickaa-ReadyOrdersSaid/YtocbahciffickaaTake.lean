import Derived.Test.YtocbahciffickaaPlain
namespace Go.Proofs.Ytocbahciffickaa
open Go.RowKit

def zeroJ : J := ⟨0, 0, 0⟩
def idxs (q : Int) : List J → Nat → List Nat
  | [], _ => []
  | j :: l, i => if j.p = q then i :: idxs q l (i + 1) else idxs q l (i + 1)
def best (xs : List J) : Int := mostGo xs 0
/-- Which one is taken. -/
def takeAt (xs : List J) (pick : Int) : Nat := (idxs (best xs) xs 0).getD (pick % ((idxs (best xs) xs 0).length : Int)).toNat 0
def takeB (xs : List J) (above : Int) : Bool := !(decide (best xs ≤ above ∨ best xs = 0))
def takeJ (xs : List J) (above pick : Int) : J := if best xs ≤ above ∨ best xs = 0 then zeroJ else xs.getD (takeAt xs pick) zeroJ
def takeL (xs : List J) (above pick : Int) : List J := if best xs ≤ above ∨ best xs = 0 then xs else xs.eraseIdx (takeAt xs pick)

theorem most_ge (xs : List J) : ∀ q, q ≤ mostGo xs q := by
  induction xs with
  | nil => intro q; exact Int.le_refl _
  | cons j xs ih => intro q; have := ih (max q j.p); simp only [mostGo]; omega
theorem most_all (xs : List J) : ∀ q, ∀ j ∈ xs, j.p ≤ mostGo xs q := by
  induction xs with
  | nil => intro q j h; cases h
  | cons a xs ih =>
    intro q j h
    simp only [mostGo]
    rcases List.mem_cons.1 h with rfl | h
    · have := most_ge xs (max q j.p); omega
    · exact ih _ j h
theorem bestGo_idxs (xs : List J) : ∀ (i : Nat) (l : List Nat) (q m : Int), mostGo xs q = m → (bestGo xs i l q).1 = if q < m then idxs m xs i else l ++ idxs q xs i := by
  induction xs with
  | nil => intro i l q m h; simp only [mostGo] at h; subst h; simp [bestGo, idxs]
  | cons j xs ih =>
    intro i l q m h
    simp only [mostGo] at h
    simp only [bestGo, idxs]
    by_cases h1 : q < j.p
    · rw [show max q j.p = j.p by omega] at h
      rw [if_pos h1, ih _ _ _ m h]
      have := most_ge xs j.p
      rw [if_pos (show q < m by omega)]
      by_cases h2 : j.p < m
      · rw [if_pos h2, if_neg (by omega)]
      · have e : m = j.p := by omega
        rw [if_neg h2, if_pos e.symm, e]
        rfl
    · rw [show max q j.p = q by omega] at h
      rw [if_neg h1]
      by_cases h2 : j.p = q
      · rw [if_pos h2, ih _ _ _ m h]
        by_cases h3 : q < m
        · rw [if_pos h3, if_pos h3, if_neg (by omega)]
        · rw [if_neg h3, if_neg h3, if_pos h2]
          simp
      · rw [if_neg h2, ih _ _ _ m h]
        by_cases h3 : q < m
        · rw [if_pos h3, if_pos h3, if_neg (by omega)]
        · rw [if_neg h3, if_neg h3, if_neg h2]
theorem bestOf_eq (xs : List J) : bestOf xs = (idxs (best xs) xs 0, best xs) := by
  have h1 := bestGo_idxs xs 0 [] 0 _ rfl
  have h2 := best_most xs 0 [] 0
  unfold bestOf best
  refine Prod.ext ?_ h2
  rw [h1]
  by_cases h : 0 < mostGo xs 0
  · rw [if_pos h]
  · have := most_ge xs 0
    have e : mostGo xs 0 = 0 := by omega
    rw [if_neg h, e]
    rfl
theorem idxs_get (q : Int) (xs : List J) : ∀ (b k i : Nat), (idxs q xs b)[k]? = some i → b ≤ i ∧ ∃ j, xs[i - b]? = some j ∧ j.p = q := by
  induction xs with
  | nil => intro b k i h; simp [idxs] at h
  | cons a xs ih =>
    intro b k i h
    simp only [idxs] at h
    by_cases ha : a.p = q
    · rw [if_pos ha] at h
      cases k with
      | zero => simp at h; subst h; exact ⟨Nat.le_refl _, a, by simp, ha⟩
      | succ k =>
        simp only [List.getElem?_cons_succ] at h
        obtain ⟨h1, j, h2, h3⟩ := ih _ _ _ h
        refine ⟨by omega, j, ?_, h3⟩
        rw [show i - b = (i - (b + 1)) + 1 by omega]
        simpa using h2
    · rw [if_neg ha] at h
      obtain ⟨h1, j, h2, h3⟩ := ih _ _ _ h
      refine ⟨by omega, j, ?_, h3⟩
      rw [show i - b = (i - (b + 1)) + 1 by omega]
      simpa using h2
theorem idxs_len (q : Int) (xs : List J) : ∀ b, (idxs q xs b).length ≤ xs.length := by
  induction xs with
  | nil => intro b; simp [idxs]
  | cons a xs ih =>
    intro b
    simp only [idxs]
    have := ih (b + 1)
    split <;> simp <;> omega
theorem idxs_mem (q : Int) (xs : List J) : ∀ b, (∃ j ∈ xs, j.p = q) → 0 < (idxs q xs b).length := by
  induction xs with
  | nil => intro b ⟨j, hj, _⟩; cases hj
  | cons a xs ih =>
    intro b ⟨j, hj, hq⟩
    simp only [idxs]
    by_cases ha : a.p = q
    · rw [if_pos ha]; simp
    · rw [if_neg ha]
      rcases List.mem_cons.1 hj with rfl | hj
      · exact absurd hq ha
      · exact ih _ ⟨j, hj, hq⟩
theorem most_mem (xs : List J) : ∀ q, q < mostGo xs q → ∃ j ∈ xs, j.p = mostGo xs q := by
  induction xs with
  | nil => intro q h; simp [mostGo] at h
  | cons a xs ih =>
    intro q h
    simp only [mostGo] at h ⊢
    by_cases h1 : max q a.p < mostGo xs (max q a.p)
    · obtain ⟨j, hj, he⟩ := ih _ h1
      exact ⟨j, List.mem_cons_of_mem _ hj, he⟩
    · have := most_ge xs (max q a.p)
      exact ⟨a, List.mem_cons_self, by omega⟩
/-- Where there is a best one, there are places. -/
theorem idxs_pos (xs : List J) (h : best xs ≠ 0) : 0 < (idxs (best xs) xs 0).length := by
  have := most_ge xs 0
  exact idxs_mem _ _ _ (most_mem xs 0 (by unfold best at h; omega))
theorem idxs_none (xs : List J) (hp : ∀ j ∈ xs, 1 ≤ j.p) (h : best xs = 0) : xs = [] := by
  cases xs with
  | nil => rfl
  | cons j xs =>
    have h1 := most_all (j :: xs) 0 j List.mem_cons_self
    have h2 := hp j List.mem_cons_self
    unfold best at h
    omega
/-- The place that is taken. -/
theorem takeAt_get (xs : List J) (pick : Int) (h : best xs ≠ 0) : ∃ k i j, ((k : Nat) : Int) = pick % ((idxs (best xs) xs 0).length : Int) ∧ k < (idxs (best xs) xs 0).length ∧ (idxs (best xs) xs 0)[k]? = some i ∧ takeAt xs pick = i ∧ i < xs.length ∧ xs[i]? = some j := by
  have hpos := idxs_pos xs h
  have h0 := Int.emod_nonneg pick (b := ((idxs (best xs) xs 0).length : Int)) (by omega)
  have h1 := Int.emod_lt_of_pos pick (b := ((idxs (best xs) xs 0).length : Int)) (by omega)
  obtain ⟨k, hk⟩ := Int.eq_ofNat_of_zero_le h0
  have hlt : k < (idxs (best xs) xs 0).length := by omega
  obtain ⟨hb, j, hj, hq⟩ := idxs_get _ _ _ _ _ (List.getElem?_eq_getElem hlt)
  refine ⟨k, _, j, hk.symm, hlt, List.getElem?_eq_getElem hlt, ?_, ?_, hj⟩
  · unfold takeAt
    rw [hk, Int.toNat_natCast, List.getD_eq_getElem?_getD, List.getElem?_eq_getElem hlt]
    rfl
  · have := (List.getElem?_eq_some_iff.1 hj).1
    exact this

/-- What Take answers, and leaves. -/
def TakePost (T E : TypeId) (w : World) (p : Nat) (v : Value) (xs : List J) (above pick : Int) (e : Ending) (w' : World) : Prop :=
  e = .returned (.tuple #[jv (takeJ xs above pick), .bool (takeB xs above)]) ∧ ∃ v', SetAt T E w' p v' (takeL xs above pick) ∧ Chg (fun k => k = p ∨ v.ownBlock = some k) w w' ∧ (∀ k, v'.ownBlock = some k → v.ownBlock = some k ∨ w.heap.size ≤ k)
end Go.Proofs.Ytocbahciffickaa

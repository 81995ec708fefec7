import Derived.Test.YtocbahciffickaaTakew
namespace Go.Proofs.Ytocbahciffickaa
open Go.RowKit

/-- What the document's loop gathers: what is left, and what is taken. -/
def rtGo (q : Int) : List J → Int → List J → J → List J × J
  | [], _, out, got => (out, got)
  | j :: l, k, out, got => if j.p = q then (if k - 1 = -1 then rtGo q l (k - 1) out j else rtGo q l (k - 1) (out ++ [j]) got) else rtGo q l k (out ++ [j]) got

theorem rtGo_behind (q : Int) (l : List J) : ∀ (k : Int) (out : List J) (got : J), k < 0 → rtGo q l k out got = (out ++ l, got) := by
  induction l with
  | nil => intro k out got _; simp [rtGo]
  | cons j l ih =>
    intro k out got hk
    simp only [rtGo]
    by_cases h : j.p = q
    · rw [if_pos h, if_neg (by omega), ih _ _ _ (by omega)]; simp
    · rw [if_neg h, ih _ _ _ hk]; simp
theorem idxs_shift (q : Int) (l : List J) : ∀ b, idxs q l (b + 1) = (idxs q l b).map (· + 1) := by
  induction l with
  | nil => intro b; rfl
  | cons j l ih =>
    intro b
    simp only [idxs]
    by_cases h : j.p = q
    · rw [if_pos h, if_pos h, ih (b + 1)]; rfl
    · rw [if_neg h, if_neg h, ih (b + 1)]
theorem rtGo_at (q : Int) (l : List J) : ∀ (k i : Nat) (out : List J) (got j : J), (idxs q l 0)[k]? = some i → l[i]? = some j → rtGo q l (k : Int) out got = (out ++ l.eraseIdx i, j) := by
  induction l with
  | nil => intro k i out got j h; simp [idxs] at h
  | cons a l ih =>
    intro k i out got j h hj
    simp only [idxs, idxs_shift q l 0] at h
    simp only [rtGo]
    by_cases ha : a.p = q
    · rw [if_pos ha] at h ⊢
      cases k with
      | zero =>
        simp at h
        subst h
        simp at hj
        subst hj
        rw [if_pos (by omega), rtGo_behind _ _ _ _ _ (by omega)]
        simp
      | succ k =>
        simp only [List.getElem?_cons_succ, List.getElem?_map, Option.map_eq_some_iff] at h
        obtain ⟨i', h, rfl⟩ := h
        rw [if_neg (by omega), show ((k + 1 : Nat) : Int) - 1 = (k : Int) by omega, ih k i' _ _ j h (by simpa using hj)]
        simp
    · rw [if_neg ha] at h ⊢
      simp only [List.getElem?_map, Option.map_eq_some_iff] at h
      obtain ⟨i', h, rfl⟩ := h
      rw [ih k i' _ _ j h (by simpa using hj)]
      simp
theorem rtGo_step {q : Int} {xs : List J} {c : Nat} {j : J} {k : Int} {out : List J} {got : J} {R : List J × J} (hj : xs[c]? = some j) (h : rtGo q (xs.drop c) k out got = R) :
    (if j.p = q then (if k - 1 = -1 then rtGo q (xs.drop (c + 1)) (k - 1) out j else rtGo q (xs.drop (c + 1)) (k - 1) (out ++ [j]) got) else rtGo q (xs.drop (c + 1)) k (out ++ [j]) got) = R := by
  rw [drop_step hj] at h
  exact h
theorem idxs_drop {q : Int} {xs : List J} {c : Nat} {j : J} (hj : xs[c]? = some j) : (idxs q (xs.drop c) c).length = (if j.p = q then 1 else 0) + (idxs q (xs.drop (c + 1)) (c + 1)).length := by
  rw [drop_step hj]
  simp only [idxs]
  split <;> simp <;> omega

theorem take_end2 {T E : TypeId} {w W' : World} {p i : Nat} {v v' : Value} {xs ys : List J} {above pick : Int} {j : J} {n : Nat} {x : Value} {a b c : Value}
    (h : SetAt T E w p v xs) (hTE : E ≠ T) (hb : W'.heap[p]? = some (.cells #[v] T (0, 0)))
    (ho : Own W' E 3 v' n (jcs ys)) (hn : n = ys.length) (hys : ys = xs.eraseIdx i) (hc : Chg (fun _ => False) w W') (hbl : ∀ k, v'.ownBlock = some k → w.heap.size ≤ k)
    (hnb : best xs ≠ 0) (ha : ¬ best xs ≤ above) (hti : takeAt xs pick = i) (hj : xs[i]? = some j) (hx : x = .tuple #[jv j, .bool true]) {g : Nat} (hg : W'.heap[g]? = some (.cells #[a, b, c] E (0, 0))) (hgv : ∀ k, v'.ownBlock = some k → k ≠ g) (hgw : w.heap.size ≤ g) (a' b' c' : Value) :
    TakePost T E w p v xs above pick (.returned x) ((((W'.setCell ⟨p, 0, none⟩ v').setCell ⟨g, 0, none⟩ a').setCell ⟨g, 1, none⟩ b').setCell ⟨g, 2, none⟩ c') := by
  have h1 : ¬ (best xs ≤ above ∨ best xs = 0) := by omega
  have hpg : p ≠ g := by
    intro e
    subst e
    have := h.lt
    omega
  refine ⟨?_, v', ?_, ?_, ?_⟩
  · rw [hx]
    simp only [takeJ, takeB, if_neg h1, hti, h1, decide_false, Bool.not_false, List.getD_eq_getElem?_getD, hj, Option.getD_some, if_false]
  · have hs : SetAt T E (W'.setCell ⟨p, 0, none⟩ v') p v' (takeL xs above pick) := by
      have e : takeL xs above pick = ys := by simp only [takeL, if_neg h1, hti, hys]
      rw [e]
      exact SetAt.store hb hTE ho hn rfl
    have hk : ∀ u o W1, SetAt T E W1 p v' (takeL xs above pick) → SetAt T E (W1.setCell ⟨g, o, none⟩ u) p v' (takeL xs above pick) := fun u o W1 hw =>
      hw.keep (S := fun k => k = g) (Chg.setCell (S := fun k => k = g) (Chg.refl _ _) (fun _ => rfl) u) hpg (fun k hk => hgv k hk)
    exact hk _ _ _ (hk _ _ _ (hk _ _ _ hs))
  · refine Chg.set3 ?_ hgw _ _ _
    exact Chg.setCell (hc.mono (T := fun k => k = p ∨ v.ownBlock = some k) (fun _ _ f => f.elim)) (fun _ => .inl rfl) v'
  · exact fun k hk => .inr (hbl k hk)
end Go.Proofs.Ytocbahciffickaa

import Derived.Test.YtnhnmjdmenehoaaTknw
namespace Go.Proofs.Ytnhnmjdmenehoaa
open Go.RowKit

theorem ins_last' (x : D × Int) : ∀ L : List (D × Int), (∀ y ∈ L, ltD y.1 x.1 = true) → ins x L = L ++ [x]
  | [], _ => rfl
  | y :: L, h => by
    rw [ins_cons, if_pos (h y List.mem_cons_self), ins_last' x L (fun z hz => h z (List.mem_cons_of_mem _ hz))]
    rfl
/-! ### One task, one jitter -/
def queue (a : Int) (M : List Int) : List (D × Int) := M.map (fun m => (⟨0, m⟩, m + a))
def onto (p s : Int) (M : List Int) : List Int := if s % p = 0 then M ++ [s] else M
theorem late_lay (p s a : Int) (M : List Int) (h0 : 0 ≤ a) (h1 : a ≤ 255) (hM : ∀ m ∈ M, m < s) : lay [p] s (queue a M) [a] = queue a (onto p s M) := by
  have hj : jit [a] = a := by simp only [jit, clamp]; omega
  unfold lay onto
  by_cases h : s % p = 0
  · simp only [rels, h, if_true, insAll, List.foldl_cons, List.foldl_nil]
    rw [ins_last', hj]
    · simp [queue]
    · intro y hy
      simp only [queue, List.mem_map] at hy
      obtain ⟨m, hm, rfl⟩ := hy
      have := hM m hm
      simp [ltD, this]
  · simp [rels, h, insAll]
def Inc (M : List Int) : Prop := M.Pairwise (· < ·)
theorem split_inc (c : Int) : ∀ M : List Int, Inc M → M.filter (fun m => decide (m ≤ c)) ++ M.filter (fun m => !decide (m ≤ c)) = M
  | [], _ => rfl
  | x :: M, h => by
    obtain ⟨h1, h2⟩ := List.pairwise_cons.1 h
    by_cases hx : x ≤ c
    · simp only [List.filter_cons, hx, decide_true, if_true, Bool.not_true, Bool.false_eq_true, if_false, List.cons_append, split_inc c M h2]
    · have e : M.filter (fun m => decide (m ≤ c)) = [] := by
        rw [List.filter_eq_nil_iff]
        intro y hy
        have := h1 y hy
        simp; omega
      have e2 : M.filter (fun m => !decide (m ≤ c)) = M := by
        rw [List.filter_eq_self]
        intro y hy
        have := h1 y hy
        simp; omega
      simp only [List.filter_cons, hx, decide_false, Bool.false_eq_true, if_false, Bool.not_false, if_true, e, e2, List.nil_append]
def front (a s : Int) (M : List Int) : List Int := M.filter (fun m => decide (m ≤ s - a))
def back (a s : Int) (M : List Int) : List Int := M.filter (fun m => !decide (m ≤ s - a))
theorem late_told (p s a : Int) (M : List Int) (h0 : 0 ≤ a) (h1 : a ≤ 255) (hM : ∀ m ∈ M, m < s) :
    told [p] s (queue a M) [a] = (front a s (onto p s M)).map (fun m => ⟨0, m⟩) ∧ left [p] s (queue a M) [a] = queue a (back a s (onto p s M)) := by
  unfold told left
  rw [late_lay p s a M h0 h1 hM]
  constructor
  · simp only [queue, front, List.filter_map, List.map_map, Function.comp_def]
    congr 1
    refine List.filter_congr fun x _ => ?_
    simp only [decide_eq_decide]
    omega
  · simp only [queue, back, List.filter_map, Function.comp_def]
    congr 1
    refine List.filter_congr fun x _ => ?_
    congr 1
    simp only [decide_eq_decide]
    omega

/-- E was told, M waits; R was released. -/
structure Lat (p a : Int) (s : Nat) (R E M : List Int) : Prop where
  all : R = E ++ M
  inc : Inc R
  told : ∀ m ∈ E, m + a < s
  wait : ∀ m ∈ M, (s : Int) ≤ m + a
  low : ∀ m ∈ R, m < s
  len : R.length ≤ s
theorem Lat.nil (p a : Int) : Lat p a 0 [] [] [] := ⟨rfl, List.Pairwise.nil, by simp, by simp, by simp, by simp⟩
theorem onto_app (p s : Int) (E M : List Int) : onto p s (E ++ M) = E ++ onto p s M := by
  unfold onto
  split <;> simp
theorem Lat.step {p a : Int} {s : Nat} {R E M : List Int} (h0 : 0 ≤ a) (h : Lat p a s R E M) : Lat p a (s + 1) (onto p s R) (E ++ front a s (onto p s M)) (back a s (onto p s M)) ∧ (front a s (onto p s M)).length ≤ 1 := by
  have hinc : Inc (onto p s R) := by
    unfold onto
    split
    · unfold Inc
      rw [List.pairwise_append]
      exact ⟨h.inc, by simp, fun x hx y hy => by simp at hy; subst hy; exact h.low x hx⟩
    · exact h.inc
  have hsub : onto p s R = E ++ onto p s M := by rw [h.all, onto_app]
  have hM : Inc (onto p s M) := by
    rw [hsub] at hinc
    exact (List.pairwise_append.1 hinc).2.1
  have hw : ∀ m ∈ onto p s M, (s : Int) ≤ m + a ∧ m ≤ s := by
    intro m hm
    have hmR : ∀ m ∈ M, m < s := fun m hm => h.low m (by rw [h.all]; exact List.mem_append_right _ hm)
    unfold onto at hm
    split at hm
    · rcases List.mem_append.1 hm with hm | hm
      · have := h.wait m hm; have := hmR m hm; omega
      · simp at hm; omega
    · have := h.wait m hm; have := hmR m hm; omega
  refine ⟨⟨?_, hinc, ?_, ?_, ?_, ?_⟩, ?_⟩
  · rw [hsub, List.append_assoc]
    congr 1
    exact (split_inc _ _ hM).symm
  · intro m hm
    rcases List.mem_append.1 hm with hm | hm
    · have := h.told m hm; omega
    · have := (List.mem_filter.1 hm).2
      simp at this; omega
  · intro m hm
    have := (List.mem_filter.1 hm).2
    simp at this; omega
  · intro m hm
    rw [hsub] at hm
    rcases List.mem_append.1 hm with hm | hm
    · have := h.low m (by rw [h.all]; exact List.mem_append_left _ hm); omega
    · have := (hw m hm).2; omega
  · have := h.len
    unfold onto
    split
    · simp; omega
    · omega
  · have hf : Inc (front a s (onto p s M)) := hM.sublist List.filter_sublist
    match hq : front a s (onto p s M) with
    | [] => simp
    | [x] => simp
    | x :: y :: l =>
      exfalso
      rw [hq] at hf
      have hxy : x < y := (List.pairwise_cons.1 hf).1 y List.mem_cons_self
      have hx : x ∈ front a s (onto p s M) := by rw [hq]; simp
      have hy : y ∈ front a s (onto p s M) := by rw [hq]; simp
      have h1 := (hw x (List.mem_filter.1 hx).1).1
      have h2 := (List.mem_filter.1 hy).2
      simp at h2
      omega
theorem Lat.le {p a b : Int} {s : Nat} {R E M E' M' : List Int} (hab : a ≤ b) (h : Lat p a s R E M) (h' : Lat p b s R E' M') : E'.length ≤ E.length := by
  rcases Nat.lt_or_ge E.length E'.length with hl | hl
  · exfalso
    have h1 : R[E.length]? = E'[E.length]? := by rw [h'.all, List.getElem?_append_left hl]
    have h2 : R[E.length]? = M[0]? := by rw [h.all, List.getElem?_append_right (by omega)]; simp
    obtain ⟨x, hx⟩ : ∃ x, E'[E.length]? = some x := ⟨E'[E.length], List.getElem?_eq_getElem hl⟩
    have h3 := h'.told x (List.mem_of_getElem? hx)
    have h4 := h.wait x (List.mem_of_getElem? (h2.symm.trans (h1.trans hx)))
    omega
  · exact hl

section
variable {w w' : World} {p b p' b' : Nat} {va va' : Value} {ps ps' : List Int} {now now' : Int} {L L' : List (D × Int)}
/-- A timer beside another one that ticks. -/
theorem Tim.apart (h : Tim w p b va ps now L) (h' : Tim w p' b' va' ps' now' L') (hp : p ≠ p') (hb : b ≠ b') (hc : Chg (fun i => i = p' ∨ i = b') w w') : Tim w' p b va ps now L := by
  refine ⟨h.at_.keep hc (fun e => ?_) (fun e => ?_) (fun k hk e => ?_), h.good, h.neat, h.low⟩
  · rcases e with e | e
    · exact hp e
    · exact h'.at_.map.ne_cells (e ▸ h.at_.heap) rfl
  · rcases e with e | e
    · exact h.at_.map.ne_cells (e ▸ h'.at_.heap) rfl
    · exact hb e
  · rcases e with e | e
    · subst e
      exact h.at_.per.ne_blk h'.at_.heap (by decide) k hk rfl
    · subst e
      exact h'.at_.map.ne_own h.at_.per hk
end
end Go.Proofs.Ytnhnmjdmenehoaa

import Derived.Test.YtnhnmjdmenehoaaLatep
namespace Go.Proofs.Ytnhnmjdmenehoaa
open Go.RowKit

/-! ### Two tasks, of which the second is told as it is alone -/
/-- Of task 1: the nominal slot and when it is due. -/
def one (L : List (D × Int)) : List (Int × Int) := (L.filter (fun x => decide (x.1.t = 1))).map (fun x => (x.1.n, x.2))
def zero (L : List (D × Int)) : List (Int × Int) := L.map (fun x => (x.1.n, x.2))
/-- The two timers before slot s. -/
structure Twin (s : Int) (L L1 : List (D × Int)) : Prop where
  same : one L = zero L1
  tasks : ∀ x ∈ L, x.1.t = 0 ∨ x.1.t = 1
  task : ∀ x ∈ L1, x.1.t = 0
theorem Twin.nil : Twin 0 [] [] := ⟨rfl, by simp, by simp⟩

theorem one_append (L M : List (D × Int)) : one (L ++ M) = one L ++ one M := by simp [one]
theorem one_ins_zero (s v : Int) (L : List (D × Int)) : one (ins (⟨0, s⟩, v) L) = one L := by
  have h : one (ins (⟨0, s⟩, v) L) = one (L.takeWhile (fun y => ltD y.1 ⟨0, s⟩) ++ L.dropWhile (fun y => ltD y.1 ⟨0, s⟩)) := by
    unfold ins
    rw [one_append, one_append]
    congr 1
  rw [h, List.takeWhile_append_dropWhile]
theorem one_filter (c : Int) (L : List (D × Int)) (f : Bool → Bool) : one (L.filter (fun x => f (decide (x.2 ≤ c)))) = (one L).filter (fun x => f (decide (x.2 ≤ c))) := by
  unfold one
  rw [List.filter_map, List.filter_filter, List.filter_filter]
  congr 1
  refine List.filter_congr fun x _ => ?_
  simp [Bool.and_comm]
theorem zero_filter (c : Int) (L : List (D × Int)) (f : Bool → Bool) : zero (L.filter (fun x => f (decide (x.2 ≤ c)))) = (zero L).filter (fun x => f (decide (x.2 ≤ c))) := by
  unfold zero
  rw [List.filter_map]
  rfl
theorem lay_two (a b s j : Int) (L : List (D × Int)) (hj0 : 0 ≤ j) (hj1 : j ≤ 255) : lay [a, b] s L (if s % a = 0 then [j, j] else [j]) =
    (if s % b = 0 then ins (⟨1, s⟩, s + j) (if s % a = 0 then ins (⟨0, s⟩, s + j) L else L) else (if s % a = 0 then ins (⟨0, s⟩, s + j) L else L)) := by
  have hj : clamp j = j := by simp only [clamp]; omega
  by_cases ha : s % a = 0 <;> by_cases hb : s % b = 0 <;> simp [lay, rels, insAll, ha, hb, jit, hj]
theorem lay_one (b s j : Int) (L : List (D × Int)) (hj0 : 0 ≤ j) (hj1 : j ≤ 255) : lay [b] s L [j] = if s % b = 0 then ins (⟨0, s⟩, s + j) L else L := by
  have hj : clamp j = j := by simp only [clamp]; omega
  by_cases hb : s % b = 0 <;> simp [lay, rels, insAll, hb, jit, hj]
theorem Twin.lay {a b s j : Int} {L L1 : List (D × Int)} (h : Twin s L L1) (hn : ∀ x ∈ L, x.1.n < s) (hn1 : ∀ x ∈ L1, x.1.n < s) (hj0 : 0 ≤ j) (hj1 : j ≤ 255) :
    one (lay [a, b] s L (if s % a = 0 then [j, j] else [j])) = zero (lay [b] s L1 [j]) ∧ (∀ x ∈ lay [a, b] s L (if s % a = 0 then [j, j] else [j]), x.1.t = 0 ∨ x.1.t = 1) ∧ (∀ x ∈ lay [b] s L1 [j], x.1.t = 0) := by
  rw [lay_two a b s j L hj0 hj1, lay_one b s j L1 hj0 hj1]
  obtain ⟨M, hM⟩ : ∃ M, (if s % a = 0 then ins (⟨0, s⟩, s + j) L else L) = M := ⟨_, rfl⟩
  have hM1 : one M = one L := by
    rw [← hM]
    split
    · exact one_ins_zero s (s + j) L
    · rfl
  have hM2 : ∀ x ∈ M, x.1.t = 0 ∨ (x.1.t = 1 ∧ x.1.n < s) := by
    rw [← hM]
    intro x hx
    split at hx
    · rcases List.mem_cons.1 ((ins_perm _ _).mem_iff.1 hx) with rfl | hx
      · exact .inl rfl
      · exact (h.tasks x hx).imp id (fun e => ⟨e, hn x hx⟩)
    · exact (h.tasks x hx).imp id (fun e => ⟨e, hn x hx⟩)
  rw [hM]
  by_cases hb : s % b = 0
  · rw [if_pos hb, if_pos hb]
    rw [ins_last' (⟨1, s⟩, s + j) M (fun y hy => by
      simp only [ltD, decide_eq_true_eq]
      rcases hM2 y hy with e | ⟨e, e2⟩ <;> omega), ins_last' (⟨0, s⟩, s + j) L1 (fun y hy => by
      simp only [ltD, decide_eq_true_eq]
      have := h.task y hy
      have := hn1 y hy
      omega)]
    refine ⟨?_, ?_, ?_⟩
    · rw [one_append, hM1, h.same]
      simp [one, zero]
    · intro x hx
      rcases List.mem_append.1 hx with hx | hx
      · rcases hM2 x hx with e | ⟨e, _⟩
        · exact .inl e
        · exact .inr e
      · simp at hx; subst hx; exact .inr rfl
    · intro x hx
      rcases List.mem_append.1 hx with hx | hx
      · exact h.task x hx
      · simp at hx; subst hx; rfl
  · rw [if_neg hb, if_neg hb]
    refine ⟨hM1.trans h.same, fun x hx => ?_, h.task⟩
    rcases hM2 x hx with e | ⟨e, _⟩
    · exact .inl e
    · exact .inr e
/-- The picks of the two. -/
def both (a s j : Int) : List Int := if s % a = 0 then [j, j] else [j]
/-- Of task 1, what was told: the nominal slots. -/
def noms (l : List D) : List Int := (l.filter (fun d => decide (d.t = 1))).map (·.n)
theorem Twin.next {a b s j : Int} {L L1 : List (D × Int)} (h : Twin s L L1) (hn : ∀ x ∈ L, x.1.n < s) (hn1 : ∀ x ∈ L1, x.1.n < s) (hj0 : 0 ≤ j) (hj1 : j ≤ 255) :
    Twin (s + 1) (left [a, b] s L (both a s j)) (left [b] s L1 [j]) ∧ noms (told [a, b] s L (both a s j)) = (told [b] s L1 [j]).map (·.n) ∧ (∀ d ∈ told [b] s L1 [j], d.t = 0) := by
  obtain ⟨h1, h2, h3⟩ := h.lay (a := a) (b := b) hn hn1 hj0 hj1
  unfold both
  refine ⟨⟨?_, fun x hx => h2 x (List.mem_filter.1 hx).1, fun x hx => h3 x (List.mem_filter.1 hx).1⟩, ?_, ?_⟩
  · unfold left
    rw [one_filter s _ (fun b => !b), zero_filter s _ (fun b => !b), h1]
  · have h4 := one_filter s (Go.Proofs.Ytnhnmjdmenehoaa.lay [a, b] s L (if s % a = 0 then [j, j] else [j])) (fun b => b)
    have h5 := zero_filter s (Go.Proofs.Ytnhnmjdmenehoaa.lay [b] s L1 [j]) (fun b => b)
    have h6 : ∀ M : List (D × Int), noms (M.map Prod.fst) = (one M).map (·.1) := by
      intro M
      simp only [noms, one, List.filter_map, List.map_map]
      rfl
    have h7 : ∀ M : List (D × Int), (M.map Prod.fst).map (·.n) = (zero M).map (·.1) := by
      intro M
      simp only [zero, List.map_map]
      rfl
    unfold told
    rw [h6, h7, h4, h5, h1]
  · intro d hd
    unfold told at hd
    obtain ⟨x, hx, rfl⟩ := List.mem_map.1 hd
    exact h3 x (List.mem_filter.1 hx).1
theorem noms_cons (d : D) (l : List D) : noms (d :: l) = if d.t = 1 then d.n :: noms l else noms l := by
  by_cases h : d.t = 1 <;> simp [noms, h]
end Go.Proofs.Ytnhnmjdmenehoaa

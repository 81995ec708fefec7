import Derived.Test.YtnhnmjdmenehoaaAlonew
namespace Go.Proofs.Ytnhnmjdmenehoaa
open Go.RowKit

/-! Each release is told once, its jitter later, or waits: the plain law. -/
/-- How many of the periods divide the slot. -/
def cnt (s : Int) : List Int → Nat
  | [] => 0
  | p :: r => if s % p = 0 then cnt s r + 1 else cnt s r
theorem cnt_snoc (s x : Int) : ∀ ps : List Int, cnt s (ps ++ [x]) = if s % x = 0 then cnt s ps + 1 else cnt s ps
  | [] => by simp [cnt]
  | p :: r => by
    have ih := cnt_snoc s x r
    simp only [List.cons_append, cnt]
    rw [ih]
    by_cases h1 : s % x = 0 <;> by_cases h2 : s % p = 0 <;> simp [h1, h2]
theorem rels_snoc (s x : Int) (Q : List Int) : ∀ (ps : List Int) (k : Nat) (P : List Int), cnt s ps = P.length → rels s (ps ++ [x]) k (P ++ Q) = rels s ps k P ++ rels s [x] (k + ps.length) Q
  | [], k, P, h => by
    have h0 : P = [] := List.eq_nil_of_length_eq_zero (by simpa [cnt] using h.symm)
    subst h0
    simp [rels]
  | p :: r, k, P, h => by
    simp only [cnt] at h
    have hk : k + (p :: r).length = k + 1 + r.length := by simp only [List.length_cons]; omega
    rw [hk]
    by_cases hm : s % p = 0
    · simp only [hm, if_true] at h
      cases P with
      | nil => simp at h
      | cons y P' =>
        have ih := rels_snoc s x Q r (k + 1) P' (by simpa using h)
        simp only [List.cons_append, rels, hm, if_true, List.tail_cons, ih, jit]
    · simp only [hm, if_false] at h
      have ih := rels_snoc s x Q r (k + 1) P h
      simp only [List.cons_append, rels, hm, if_false] at ih ⊢
      exact ih
theorem rels_yes {s x : Int} {ps P : List Int} {i : Nat} {j : Int} (hx : ps[i]? = some x) (hc : cnt s (ps.take i) = P.length) (hm : s % x = 0) (h0 : 0 ≤ j) (h1 : j ≤ 255) :
    rels s (ps.take (i + 1)) 0 (P ++ [j]) = rels s (ps.take i) 0 P ++ [(⟨(i : Int), s⟩, s + j)] ∧ cnt s (ps.take (i + 1)) = (P ++ [j]).length := by
  have hi : i < ps.length := (List.getElem?_eq_some_iff.1 hx).1
  rw [take_one hx, rels_snoc s x [j] _ 0 P hc, cnt_snoc, hc, List.length_take, Nat.min_eq_left (by omega)]
  simp only [rels, hm, if_true, jit, List.length_append, List.length_cons, List.length_nil]
  have hj : clamp j = j := by simp only [clamp]; omega
  rw [hj]
  simp
theorem rels_no {s x : Int} {ps P : List Int} {i : Nat} (hx : ps[i]? = some x) (hc : cnt s (ps.take i) = P.length) (hm : ¬ s % x = 0) :
    rels s (ps.take (i + 1)) 0 P = rels s (ps.take i) 0 P ∧ cnt s (ps.take (i + 1)) = P.length := by
  have h := rels_snoc s x [] (ps.take i) 0 P hc
  rw [List.append_nil] at h
  rw [take_one hx, h, cnt_snoc, hc]
  simp [rels, hm]
theorem rels_range (s : Int) : ∀ (ps : List Int) (k : Nat) (P : List Int), ∀ y ∈ rels s ps k P, y.1.n = s ∧ (k : Int) ≤ y.1.t ∧ y.1.t < (k : Int) + ps.length ∧ s ≤ y.2
  | [], k, P => by simp [rels]
  | p :: r, k, P => by
    intro y hy
    simp only [rels] at hy
    have hj : 0 ≤ jit P := by cases P <;> simp only [jit, clamp] <;> omega
    have ih := fun Q => rels_range s r (k + 1) Q y
    split at hy
    · rcases List.mem_cons.1 hy with rfl | hy
      · refine ⟨rfl, Int.le_refl _, ?_, ?_⟩
        · show (k : Int) < k + ((p :: r).length : Nat)
          simp only [List.length_cons]; omega
        show s ≤ s + jit P
        omega
      · have := ih _ hy
        simp only [List.length_cons]
        omega
    · have := ih _ hy
      simp only [List.length_cons]
      omega
theorem insAll_length : ∀ (R L : List (D × Int)), (insAll L R).length = L.length + R.length
  | [], L => by simp [insAll]
  | x :: R, L => by rw [insAll_cons, insAll_length R, ins_length]; simp only [List.length_cons]; omega
theorem parts_length (now : Int) : ∀ l : List (D × Int), (l.filter (fun x => decide (x.2 ≤ now))).length + (l.filter (fun x => !decide (x.2 ≤ now))).length = l.length := by
  intro l
  induction l with
  | nil => rfl
  | cons x l ih => by_cases hx : x.2 ≤ now <;> simp [hx] at ih ⊢ <;> omega

/-- What was told (Z), what waits (L), what was to come (W). -/
structure Once (ps : List Int) (s : Int) (L Z W : List (D × Int)) : Prop where
  said : ∀ x ∈ Z, x ∈ W
  wait : ∀ x ∈ L, x ∈ W ∧ s ≤ x.2 ∧ x.1.n < s ∧ 0 ≤ x.1.t ∧ x.1.t < ps.length
  count : Z.length + L.length = W.length
theorem Once.nil (ps : List Int) (s : Int) : Once ps s [] [] [] := ⟨by simp, by simp, rfl⟩
theorem Once.step {ps : List Int} {s : Int} {L Z W : List (D × Int)} (h : Once ps s L Z W) (hN : Neat ps s L) (P : List Int) :
    Once ps (s + 1) (left ps s L P) (Z ++ (told ps s L P).map (fun d => (d, s))) (W ++ rels s ps 0 P) := by
  have hmem : ∀ x ∈ lay ps s L P, x ∈ W ++ rels s ps 0 P ∧ s ≤ x.2 ∧ x.1.n < s + 1 ∧ 0 ≤ x.1.t ∧ x.1.t < ps.length := by
    intro x hx
    rcases (hN.lay_mem P x).1 hx with h1 | h1
    · obtain ⟨a, b, c, d, e⟩ := h.wait x h1
      exact ⟨List.mem_append_left _ a, b, by omega, d, e⟩
    · obtain ⟨a, b, c, d⟩ := rels_range s ps 0 P x h1
      refine ⟨List.mem_append_right _ h1, d, by omega, by simpa using b, by simpa using c⟩
  refine ⟨fun x hx => ?_, fun x hx => ?_, ?_⟩
  · rcases List.mem_append.1 hx with hx | hx
    · exact List.mem_append_left _ (h.said x hx)
    · obtain ⟨d, hd, rfl⟩ := List.mem_map.1 hx
      unfold told at hd
      obtain ⟨y, hy, rfl⟩ := List.mem_map.1 hd
      obtain ⟨hy1, hy2⟩ := List.mem_filter.1 hy
      have hy3 : y.2 ≤ s := by simpa using hy2
      obtain ⟨a, b, _⟩ := hmem y hy1
      have he : y = (y.1, s) := by
        obtain ⟨y1, y2⟩ := y
        have : y2 = s := by simp only at b hy3; omega
        rw [this]
      rw [← he]
      exact a
  · obtain ⟨hy1, hy2⟩ := List.mem_filter.1 hx
    have hy3 : ¬ x.2 ≤ s := by simpa using hy2
    obtain ⟨a, _, c⟩ := hmem x hy1
    exact ⟨a, by omega, c⟩
  · have h1 := parts_length s (lay ps s L P)
    have h2 := insAll_length (rels s ps 0 P) L
    have h3 := h.count
    unfold told left
    simp only [List.length_append, List.length_map]
    unfold lay at h1 ⊢
    omega

/-! Slices of one's own beside a timer. -/
section
variable {w w' : World} {p b : Nat} {va : Value} {ps : List Int} {now : Int} {L : List (D × Int)} {E : TypeId} {sz n : Nat} {v : Value} {xs : List Value}
theorem Tim.besideN (h : Tim w p b va ps now L) (ho : Own w E sz v n xs) (hE : E ≠ 53) (hc : Chg (fun i => i = p ∨ i = b) w w') : Own w' E sz v n xs := by
  refine ho.keep hc fun k hk e => ?_
  rcases e with rfl | rfl
  · exact ho.ne_blk h.at_.heap hE k hk rfl
  · exact h.at_.map.ne_own ho hk
/-- A timer stands while slices of one's own are turned that are not its periods. -/
theorem Tim.keepS {S : Nat → Prop} (h : Tim w p b va ps now L) (hc : Chg S w w') (hp : ¬ S p) (hb : ¬ S b) (hv : ∀ k, va.ownBlock = some k → ¬ S k) : Tim w' p b va ps now L :=
  ⟨h.at_.keep hc hp hb hv, h.good, h.neat, h.low⟩
theorem Tim.not_own (h : Tim w p b va ps now L) (ho : Own w E sz v n xs) (hE : E ≠ 53) : ¬ v.ownBlock = some p ∧ ¬ v.ownBlock = some b :=
  ⟨fun e => ho.ne_blk h.at_.heap hE p e rfl, fun e => h.at_.map.ne_own ho e⟩
theorem Own.pickAt {c : Nat} {A : Option Addr} {l : List Int} (h : Own w E 1 (.slice A n c) n (ints l)) (hn : n = l.length) : PickAt w (.slice A n c) l := by
  have hr := h.reads hn
  refine ⟨A, c, by rw [hn], ?_, ?_, hr⟩
  · rcases h.2 with ⟨h1, h2⟩ | ⟨g, cap, cur, h1, _, h2, h3, _⟩
    · omega
    · simp at h1; omega
  · rcases h.2 with ⟨h1, h2⟩ | ⟨g, cap, cur, h1, _, h2, h3, _⟩
    · simp at h1; simp [h1]
    · simp at h1; omega
theorem Own.wait1 {g cap : Nat} {l : List (D × Int)} {k : Nat} {d : D × Int} (h : Own w E 1 (.slice (some ⟨g, 0, none⟩) n cap) n (wcs l)) (hn : n = l.length * 3) (hx : l[k]? = some d) :
    w.cell? ⟨g, k * 3, none⟩ = some (.int .i64 d.1.t) ∧ w.cell? ⟨g, k * 3 + 1, none⟩ = some (.int .i64 d.1.n) ∧ w.cell? ⟨g, k * 3 + 2, none⟩ = some (.int .i64 d.2) := by
  have hk : k < l.length := (List.getElem?_eq_some_iff.1 hx).1
  have hd : ∀ i, (wcs l)[k * 3 + i]? = ((wcs l).drop (k * 3))[i]? := fun i => by rw [List.getElem?_drop]
  have h2 : l.drop k = d :: l.drop (k + 1) := drop_one hx
  refine ⟨?_, ?_, ?_⟩
  · rw [h.cell _ (by omega), show k * 3 = k * 3 + 0 from rfl, hd 0, wcs_drop, h2]; rfl
  · rw [h.cell _ (by omega), hd 1, wcs_drop, h2]; rfl
  · rw [h.cell _ (by omega), hd 2, wcs_drop, h2]; rfl
end
theorem news_three {W : World} {g : Nat} {x y z : Int} {e : TypeId} (hg : W.heap[g]? = some (.cells #[.int .i64 x, .int .i64 y, .int .i64 z] e (0, 0))) :
    0 < 3 → ∃ ad, some (⟨g, 0, none⟩ : Addr) = some ad ∧ ∀ k u, (wcs [((⟨x, y⟩ : D), z)])[k]? = some u → W.cell? (ad.add k) = some u := by
  refine fun _ => ⟨_, rfl, fun k u hu => ?_⟩
  have hadd : (⟨g, 0, none⟩ : Addr).add k = ⟨g, k, none⟩ := by unfold Addr.add; split <;> simp_all
  rw [hadd, cell_of_row W g k _ _ _ hg]
  simpa [wcs] using hu
end Go.Proofs.Ytnhnmjdmenehoaa

/- Going through a map, whatever order the tape gives. -/
import Derived.Test.YtnhnmjdmenehoaaDue
namespace Go.Proofs.Ytnhnmjdmenehoaa
open Go.RowKit

/-- Block r goes through the map at block b, which holds L; rest is still to come. -/
def Ranging (w : World) (b r : Nat) (L rest : List (D × Int)) : Prop :=
  ∃ (l : List E) (clock : Nat) (seen : Array Nat), MapIs w b l clock ∧ (l.map pr).Perm L ∧ w.heap[r]? = some (.mapIter (some b) clock seen clock) ∧ (l.filter (fun x => !seen.contains x.s)).map pr = rest

section
variable {w w' : World} {b r : Nat} {L rest : List (D × Int)} {S : Nat → Prop}
theorem Ranging.holds (h : Ranging w b r L rest) : Holds w b L := by
  obtain ⟨l, c, seen, h, hp, _⟩ := h
  exact ⟨l, c, h, hp⟩
theorem Ranging.lt (h : Ranging w b r L rest) : r < w.heap.size := by
  obtain ⟨l, c, seen, _, _, h, _⟩ := h
  exact (Array.getElem?_eq_some_iff.1 h).1
theorem Ranging.ne (h : Ranging w b r L rest) : ¬ b = r := by
  obtain ⟨l, c, seen, h, _, hr, _⟩ := h
  intro e
  subst e
  rw [h.heap] at hr
  cases hr
theorem Ranging.keep (h : Ranging w b r L rest) (hc : Chg S w w') (hb : ¬ S b) (hr : ¬ S r) : Ranging w' b r L rest := by
  have hlt := h.lt
  obtain ⟨l, c, seen, h, hp, hi, he⟩ := h
  exact ⟨l, c, seen, h.keep hc hb, hp, (hc.block r hlt hr).trans hi, he⟩
theorem Ranging.alloc (h : Ranging w b r L rest) (o : Obj) : Ranging (w.alloc o) b r L rest := h.keep (S := fun _ => False) ((Chg.refl _ _).alloc o) (fun f => f) (fun f => f)

/-- range m. -/
theorem Holds.range (h : Holds w b L) : ∃ w' rest, (Instr.range 51 (.map (some b))).run Try.prog w = .ok (.pointer (some ⟨w.heap.size, 0, none⟩)) w' ∧ Ranging w' b w.heap.size L rest ∧ rest.Perm L ∧ Chg (fun _ => False) w w' ∧ w'.heap.size = w.heap.size + 1 := by
  obtain ⟨l, c, h, hp⟩ := h
  have hlt : b < w.heap.size := (Array.getElem?_eq_some_iff.1 h.heap).1
  refine ⟨w.alloc (.mapIter (some b) c #[] c), l.map pr, ?_, ⟨l, c, #[], h.keep (S := fun _ => False) ((Chg.refl _ _).alloc _) (fun f => f), hp, heap_alloc_new w _, by rw [List.filter_eq_self.2]; simp⟩, hp, (Chg.refl _ _).alloc _, by simp⟩
  unfold Instr.range
  rw [Sem.run_bind, run_underlying Try.underlying51 w]
  simp only [Result.andThen_ok, Sem.run_bind, MapKept.run_getObj_map h.heap, Sem.run_pure]
  rfl

theorem filter_push (p : E → Bool) (x : E) : ∀ l : List E, (l.map (·.s)).Nodup → x ∈ l → p x = true → (l.filter p).Perm (x :: l.filter (fun y => p y && !(y.s == x.s)))
  | [], _, h, _ => by cases h
  | y :: l, hn, h, hp => by
    simp only [List.map_cons, List.nodup_cons] at hn
    by_cases hyx : y.s = x.s
    · have e : x = y := by
        rcases List.mem_cons.1 h with h | h
        · exact h
        · exact absurd (hyx ▸ List.mem_map.2 ⟨x, h, rfl⟩) hn.1
      subst e
      have hf : l.filter (fun y => p y && !(y.s == x.s)) = l.filter p := by
        apply List.filter_congr
        intro z hz
        have : ¬ z.s = x.s := fun e => hn.1 (List.mem_map.2 ⟨z, hz, e⟩)
        simp [this]
      rw [List.filter_cons_of_pos hp, List.filter_cons_of_neg (by simp), hf]
    · have hxl : x ∈ l := by
        rcases List.mem_cons.1 h with h | h
        · exact absurd (by rw [h]) hyx
        · exact h
      have ih := filter_push p x l hn.2 hxl hp
      by_cases hpy : p y = true
      · rw [List.filter_cons_of_pos hpy, List.filter_cons_of_pos (by simp [hpy, hyx])]
        exact (ih.cons y).trans (List.Perm.swap x y _)
      · rw [List.filter_cons_of_neg hpy, List.filter_cons_of_neg (by simp [hpy])]
        exact ih

/-- The step: nothing is left, or one comes. -/
theorem Ranging.next (h : Ranging w b r L rest) (ty : TypeId) : (rest = [] ∧ (Instr.next (.pointer (some ⟨r, 0, none⟩)) false ty).run Try.prog w = .ok (.tuple #[.bool false]) w) ∨
    ∃ w' d v rest', (Instr.next (.pointer (some ⟨r, 0, none⟩)) false ty).run Try.prog w = .ok (.tuple #[.bool true, dv d, .int .i64 v]) w' ∧
    Ranging w' b r L rest' ∧ rest.Perm ((d, v) :: rest') ∧ Chg (fun k => k = r) w w' ∧ w'.heap.size = w.heap.size ∧ (Instr.entry (.pointer (some ⟨r, 0, none⟩))).run Try.prog w' = .ok (.tuple #[dv d, .int .i64 v]) w' := by
  have hlt := h.lt
  have hne := h.ne
  obtain ⟨l, c, seen, hm, hp, hi, he⟩ := h
  have hleft : (leftOf (l.map ent).toArray seen).toList = (l.filter (fun x => !seen.contains x.s)).map ent := by
    unfold leftOf
    rw [Array.toList_filter]
    simp only [List.filter_map]
    rfl
  have hold : ∀ x ∈ (l.map ent).toArray.toList, x.born < c := by
    intro x hx
    simp only [List.mem_map] at hx
    obtain ⟨y, hy, rfl⟩ := hx
    exact hm.old y hy
  rcases run_next_at (P := Try.prog) w ty r b c c seen _ c hi hm.heap hold (Nat.le_refl _) with ⟨h0, hrun⟩ | ⟨e, hel, w1, hw1, hrun⟩
  · refine .inl ⟨?_, hrun⟩
    have h1 : ((l.filter (fun x => !seen.contains x.s)).map ent).length = 0 := by rw [← hleft]; simpa using h0
    rw [← he]
    have h2 := List.eq_nil_of_length_eq_zero (by simpa using h1 : (l.filter (fun x => !seen.contains x.s)).length = 0)
    rw [h2]
    rfl
  · right
    rw [hleft] at hel
    obtain ⟨x, hx, rfl⟩ := List.mem_map.1 hel
    obtain ⟨hxl, hxs⟩ := List.mem_filter.1 hx
    have hc1 : Chg (fun k => k = r) w w1 := by
      rcases hw1 with rfl | rfl
      · exact Chg.refl _ _
      · exact (Chg.refl _ _).drew
    have hs1 : w1.heap.size = w.heap.size := by rcases hw1 with rfl | rfl <;> rfl
    have hcs : Chg (fun k => k = r) w (ChangeMaps.setBlock w1 r (.mapIter (some b) c (seen.push x.s) c)) := by
      refine hc1.trans ⟨rfl, rfl, rfl, by simp [ChangeMaps.setBlock], fun k hk hkr => ?_⟩
      show (w1.heap.setIfInBounds r _)[k]? = _
      rw [Array.getElem?_setIfInBounds_ne (fun e => hkr e.symm)]
    have hr2 : (ChangeMaps.setBlock w1 r (.mapIter (some b) c (seen.push x.s) c)).heap[r]? = some (.mapIter (some b) c (seen.push x.s) c) := by
      show (w1.heap.setIfInBounds r _)[r]? = _
      rw [Array.getElem?_setIfInBounds_self_of_lt (by rw [hs1]; exact hlt)]
    have hm2 := hm.keep hcs hne
    refine ⟨_, x.d, x.v, _, hrun, ⟨l, c, seen.push x.s, hm2, hp, hr2, rfl⟩, ?_, hcs, ?_, ?_⟩
    · rw [← he]
      have hf := (filter_push (fun y => !seen.contains y.s) x l hm.stamps hxl hxs).map pr
      rw [List.map_cons] at hf
      refine hf.trans (List.Perm.of_eq ?_)
      congr 2
      apply List.filter_congr
      intro y _
      by_cases h : x.s = y.s
      · simp [h]
      · have h' : ¬ y.s = x.s := fun e => h e.symm
        simp [h']
    · show (w1.heap.setIfInBounds r _).size = _
      simp [hs1]
    · refine run_entry_at (P := Try.prog) _ r b c seen _ c (ent x) hr2 hm2.heap (by simp; exact ⟨x, hxl, rfl⟩) ?_
      have : (l.map ent).toArray.toList.map (·.born) = l.map (·.s) := by simp [ent, Function.comp_def]
      rw [this]
      exact hm.stamps
end

/-! ### The operations, for the walk -/
section
variable {P : Program} {ops : Array Oper} {rest : List Oper} {o : Oper} {a : Act} {w : World} {Q : Exit → Act → World → Prop} {L : List (D × Int)} {b : Nat}
theorem wpList_range_D (hg : o.guard = none) (m : Operand) (hop : o.op = Op.range 51 m) (hm : a.eval m = .map (some b)) (h : Holds w b L)
    (hK : ∀ w' R, Ranging w' b w.heap.size L R → R.Perm L → Chg (fun _ => False) w w' → w'.heap.size = w.heap.size + 1 → wpList Try.prog ops Q rest (a.put o.dst (.pointer (some ⟨w.heap.size, 0, none⟩))) w') :
    wpList Try.prog ops Q (o :: rest) a w := by
  refine wpList_plain hg fun K' hK' => ?_
  obtain ⟨w', R, hrun, r1, r2, r3, r4⟩ := h.range
  unfold Oper.wp
  simp [execOp, hop, hm, hrun, Result.andThen]
  exact hK' _ _ (hK w' R r1 r2 r3 r4)
theorem wpList_next_D (hg : o.guard = none) (it : Operand) (hop : o.op = Op.next it false) {r : Nat} {R : List (D × Int)} (hit : a.eval it = .pointer (some ⟨r, 0, none⟩)) (h : Ranging w b r L R)
    (hDone : R = [] → wpList Try.prog ops Q rest (a.put o.dst (.tuple #[.bool false])) w)
    (hMore : ∀ (x n v : Int) w' R', Ranging w' b r L R' → R.Perm ((⟨x, n⟩, v) :: R') → Chg (fun k => k = r) w w' → w'.heap.size = w.heap.size → (Instr.entry (.pointer (some ⟨r, 0, none⟩))).run Try.prog w' = .ok (.tuple #[.agg #[.int .i64 x, .int .i64 n], .int .i64 v]) w' →
      wpList Try.prog ops Q rest (a.put o.dst (.tuple #[.bool true, .agg #[.int .i64 x, .int .i64 n], .int .i64 v])) w') :
    wpList Try.prog ops Q (o :: rest) a w := by
  refine wpList_plain hg fun K' hK' => ?_
  unfold Oper.wp
  rcases h.next o.type with ⟨h0, hrun⟩ | ⟨w', d, v, R', hrun, r1, r2, r3, r4, r5⟩
  · simp [execOp, hop, hit, hrun, Result.andThen]
    exact hK' _ _ (hDone h0)
  · simp [execOp, hop, hit, hrun, Result.andThen]
    exact hK' _ _ (hMore d.t d.n v w' R' r1 r2 r3 r4 r5)
end
end Go.Proofs.Ytnhnmjdmenehoaa

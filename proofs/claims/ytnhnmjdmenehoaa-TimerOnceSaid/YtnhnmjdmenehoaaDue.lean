/- Releases as keys of a map: what the map's block holds, and what its operations do, whatever order it is gone through in. -/
import Derived.Test.YtnhnmjdmenehoaaRows
import Derived.Test.YtnhnmjdmenehoaaWords
import Derived.Maps.RangeWalk
namespace Go.Proofs.Ytnhnmjdmenehoaa
open Go.RowKit

structure D where
  t : Int
  n : Int
  deriving DecidableEq
def dv (d : D) : Value := .agg #[.int .i64 d.t, .int .i64 d.n]

section
variable {P : Program} {d : Nat} {xs ys : Array Value} {f : Field} {fs : List Field} {a b : Value} {r s : Bool} {w : World}
theorem eqf_cons (hn : (f.name == "_") = false) (ha : (part f.type xs f.offset).run P w = .ok a w) (hb : (part f.type ys f.offset).run P w = .ok b w) (he : (Op.equalIn d f.type a b).run P w = .ok r w) (hr : (Op.eqFields d xs ys fs).run P w = .ok s w) : (Op.eqFields d xs ys (f :: fs)).run P w = .ok (r && s) w := by
  have hn' : f.name ≠ "_" := by simpa using hn
  rw [Op.eqFields]
  simp only [if_pos hn', Sem.run_bind, ha, hb, he, Result.andThen_ok]
  cases r
  · simp
  · simpa using hr
theorem eqf_nil : (Op.eqFields d xs ys []).run P w = .ok true w := by simp [Op.eqFields]
theorem eqA_of {t : TypeId} {fs : Array Field} (hu : P.underlying t = some (.struct fs)) (hp : P.stoodInHeld t = false) (h : (Op.eqFields d xs ys fs.toList).run P w = .ok r w) : (Op.equalIn (d + 1) t (.agg xs) (.agg ys)).run P w = .ok r w := by
  have hf : P.fieldsOf t = fs := by simp [Program.fieldsOf, hu]
  rw [run_equalIn_struct (P := P) w d t xs ys (by rw [hf]; exact hu) hp, hf]
  exact h
end

theorem Try.sih48 : Try.prog.stoodInHeld 48 = false := by kernel_rfl
theorem Try.sih58 : Try.prog.stoodInHeld 58 = false := by kernel_rfl
theorem Try.eqg58 : Try.prog.eqGuardType Try.prog.depth 58 = false := by kernel_rfl

theorem eq_due48 (m : Nat) (i j : D) (W : World) : (Op.equalIn (m + 2) 48 (.agg #[.int .i64 i.t, .int .i64 i.n]) (.agg #[.int .i64 j.t, .int .i64 j.n])).run Try.prog W = .ok (decide (i = j)) W := by
  refine (eqA_of Try.underlying48 Try.sih48 (r := (i.t == j.t && (i.n == j.n && true))) ?_).trans ?_
  · refine eqf_cons (by rfl) (a := .int .i64 i.t) (b := .int .i64 j.t) ?_ ?_ ?_ (eqf_cons (by rfl) (a := .int .i64 i.n) (b := .int .i64 j.n) ?_ ?_ ?_ eqf_nil)
    all_goals first | exact run_equalIn_int (P := Try.prog) W m 3 .i64 .i64 _ _ Try.underlying3 | (go_simp; done) | skip
  · congr 1
    cases i; cases j
    rw [Bool.eq_iff_iff]
    simp
theorem eq_due58 (m : Nat) (i j : D) (W : World) : (Op.equalIn (m + 2) 58 (.agg #[.int .i64 i.t, .int .i64 i.n]) (.agg #[.int .i64 j.t, .int .i64 j.n])).run Try.prog W = .ok (decide (i = j)) W := by
  refine (eqA_of Try.underlying58 Try.sih58 (r := (i.t == j.t && (i.n == j.n && true))) ?_).trans ?_
  · refine eqf_cons (by rfl) (a := .int .i64 i.t) (b := .int .i64 j.t) ?_ ?_ ?_ (eqf_cons (by rfl) (a := .int .i64 i.n) (b := .int .i64 j.n) ?_ ?_ ?_ eqf_nil)
    all_goals first | exact run_equalIn_int (P := Try.prog) W m 3 .i64 .i64 _ _ Try.underlying3 | (go_simp; done) | skip
  · congr 1
    cases i; cases j
    rw [Bool.eq_iff_iff]
    simp
theorem neq_due58 (i j : D) (b : Bool) (hb : b = !decide (i = j)) (W : World) : (binOp .neq 58 (.agg #[.int .i64 i.t, .int .i64 i.n]) (.agg #[.int .i64 j.t, .int .i64 j.n])).run Try.prog W = .ok (.bool b) W := by
  rw [run_neq_struct, eq_due58 9998, hb]
  rfl

/-! ### The key's law -/
theorem run_check (em : Bool) (d : D) (W : World) : (Instr.checkKey em 10000 48 (dv d)).run Try.prog W = .ok () W := by
  have h0 : ∀ (x : Int), (Instr.checkKey em 9999 3 (.int .i64 x)).run Try.prog W = .ok () W := fun x => MapKept.run_checkKey Try.underlying3 (by trivial) em 9998
  rw [show (10000 : Nat) = 9999 + 1 from rfl]
  unfold Instr.checkKey
  rw [Sem.run_bind, run_underlying Try.underlying48 W]
  simp only [dv, Result.andThen_ok]
  rw [← Array.forIn_toList]
  simp only [List.forIn_cons, List.forIn_nil]
  have p0 : (part 3 #[Value.int .i64 d.t, Value.int .i64 d.n] 0).run Try.prog W = .ok (.int .i64 d.t) W := by go_simp
  have p1 : (part 3 #[Value.int .i64 d.t, Value.int .i64 d.n] 1).run Try.prog W = .ok (.int .i64 d.n) W := by go_simp
  rw [if_pos (by decide), if_pos (by decide)]
  simp only [Sem.run_bind, p0, p1, h0, Result.andThen_ok, Sem.run_pure]
theorem run_equal (i j : D) (W : World) : (Op.equal 48 (dv i) (dv j)).run Try.prog W = .ok (decide (i = j)) W := by
  unfold Op.equal
  exact eq_due48 9998 i j W

/-! ### The map's block -/
/-- An entry: the release, when it is due, the stamp of its birth. -/
structure E where
  d : D
  v : Int
  s : Nat
def ent (x : E) : MapEntry := { key := dv x.d, val := .int .i64 x.v, born := x.s }
def pr (x : E) : D × Int := (x.d, x.v)

/-- Where a release stands among the entries. -/
def look (d : D) : List E → Nat → Option (Nat × Value)
  | [], _ => none
  | x :: l, i => if d = x.d then some (i, .int .i64 x.v) else look d l (i + 1)
theorem run_asking (d : D) (W : World) (l : List E) : ∀ i, (Instr.findAsking 48 (dv d) (l.map ent) i).run Try.prog W = .ok (look d l i) W := by
  induction l with
  | nil => intro i; rfl
  | cons x l ih =>
    intro i
    simp only [List.map_cons, Instr.findAsking, look]
    rw [Sem.run_bind]
    have he : (Op.equal 48 (dv d) (ent x).key).run Try.prog W = .ok (decide (d = x.d)) W := run_equal d x.d W
    rw [he]
    simp only [Result.andThen_ok]
    by_cases h : d = x.d
    · simp only [h, decide_true, if_true]
      rfl
    · simp only [h, decide_false, Bool.false_eq_true, if_false]
      exact ih (i + 1)
theorem run_find (d : D) (W : World) (l : List E) : (Instr.findKey 48 (dv d) (l.map ent)).run Try.prog W = .ok (look d l 0) W := by
  unfold Instr.findKey
  rw [Sem.run_bind, run_underlying Try.underlying48 W]
  simp only [Result.andThen_ok]
  cases l with
  | nil => rfl
  | cons x l => exact run_asking d W (x :: l) 0

theorem look_none {d : D} (l : List E) : ∀ i, d ∉ l.map (·.d) → look d l i = none := by
  induction l with
  | nil => intro i _; rfl
  | cons x l ih =>
    intro i h
    simp only [List.map_cons, List.mem_cons, not_or] at h
    simp only [look, if_neg h.1]
    exact ih _ h.2
theorem look_some {d : D} {v : Int} (l : List E) : ∀ i, (d, v) ∈ l.map pr → (l.map (·.d)).Nodup → ∃ j, look d l i = some (i + j, .int .i64 v) ∧ j < l.length ∧ (l.eraseIdx j).map pr = (l.map pr).erase (d, v) ∧ (l[j]?).map (·.d) = some d := by
  induction l with
  | nil => intro i h; cases h
  | cons x l ih =>
    intro i h hn
    simp only [List.map_cons, List.nodup_cons] at hn
    simp only [List.map_cons, List.mem_cons] at h
    by_cases hx : d = x.d
    · subst hx
      have hv : pr x = (x.d, v) := by
        rcases h with h | h
        · exact h.symm
        · obtain ⟨y, hy, he⟩ := List.mem_map.1 h
          exact absurd (List.mem_map.2 ⟨y, hy, congrArg Prod.fst he⟩) hn.1
      have hv2 : x.v = v := congrArg Prod.snd hv
      refine ⟨0, by simp [look, hv2], by simp, ?_, by simp⟩
      simp [hv]
    · have h' : (d, v) ∈ l.map pr := by
        rcases h with h | h
        · exact absurd (congrArg Prod.fst h) hx
        · exact h
      obtain ⟨j, h1, h2, h3, h4⟩ := ih (i + 1) h' hn.2
      refine ⟨j + 1, ?_, by simpa using h2, ?_, by simpa using h4⟩
      · simp only [look, if_neg hx, h1]
        congr 2
        omega
      · simp only [List.eraseIdx_cons_succ, List.map_cons, h3]
        rw [List.erase_cons_tail]
        simp only [beq_iff_eq]
        intro e
        exact hx (congrArg Prod.fst e).symm

theorem map_out {α β : Type} (f : α → β) (l : List α) : ∀ j, (l.map f).eraseIdx j = (l.eraseIdx j).map f := by
  induction l with
  | nil => intro j; rfl
  | cons x l ih =>
    intro j
    cases j with
    | zero => rfl
    | succ j => simp [ih j]
/-- Block b is a map of the entries l. -/
structure MapIs (w : World) (b : Nat) (l : List E) (clock : Nat) : Prop where
  heap : w.heap[b]? = some (.map (l.map ent).toArray clock)
  keys : (l.map (·.d)).Nodup
  stamps : (l.map (·.s)).Nodup
  old : ∀ x ∈ l, x.s < clock
/-- Block b is a map that holds just L. -/
def Holds (w : World) (b : Nat) (L : List (D × Int)) : Prop := ∃ l clock, MapIs w b l clock ∧ (l.map pr).Perm L

section
variable {w w' : World} {b : Nat} {L L' : List (D × Int)} {S : Nat → Prop}
theorem Holds.lt (h : Holds w b L) : b < w.heap.size := by
  obtain ⟨l, c, h, _⟩ := h
  exact (Array.getElem?_eq_some_iff.1 h.heap).1
theorem MapIs.keep {l : List E} {c : Nat} (h : MapIs w b l c) (hc : Chg S w w') (hb : ¬ S b) : MapIs w' b l c :=
  ⟨(hc.block b (Array.getElem?_eq_some_iff.1 h.heap).1 hb).trans h.heap, h.keys, h.stamps, h.old⟩
theorem Holds.keep (h : Holds w b L) (hc : Chg S w w') (hb : ¬ S b) : Holds w' b L := by
  obtain ⟨l, c, h, hp⟩ := h
  exact ⟨l, c, h.keep hc hb, hp⟩
theorem Holds.alloc (h : Holds w b L) (o : Obj) : Holds (w.alloc o) b L := h.keep (S := fun _ => False) ((Chg.refl _ _).alloc o) (fun f => f)
theorem Holds.perm (h : Holds w b L) (hp : L.Perm L') : Holds w b L' := by
  obtain ⟨l, c, h, hq⟩ := h
  exact ⟨l, c, h, hq.trans hp⟩
theorem Holds.made (w : World) : Holds (w.alloc (.map #[] 0)) w.heap.size [] :=
  ⟨[], 0, ⟨heap_alloc_new w _, by simp, by simp, by simp⟩, by simp⟩
theorem map_fst (l : List E) : (l.map pr).map Prod.fst = l.map (·.d) := by simp [pr, Function.comp_def]
theorem Holds.nodup (h : Holds w b L) : (L.map Prod.fst).Nodup := by
  obtain ⟨l, c, h, hp⟩ := h
  rw [← (hp.map Prod.fst).nodup_iff, map_fst]
  exact h.keys
/-- No block of cells is a map. -/
theorem Holds.ne_own {e : TypeId} {size n : Nat} {v : Value} {xs : List Value} (h : Holds w b L) (ho : Own w e size v n xs) : ¬ v.ownBlock = some b := by
  intro hk
  obtain ⟨l, c, h, _⟩ := h
  rcases ho.2 with ⟨rfl, _⟩ | ⟨g, cap, cur, rfl, hg, _⟩
  · simp [Value.ownBlock] at hk
  · simp [Value.ownBlock] at hk
    subst hk
    rw [h.heap] at hg
    cases hg
theorem Holds.ne_cells {cs : Array Value} {e : TypeId} {fr : Nat × Nat} {g : Nat} (h : Holds w b L) (hg : w.heap[g]? = some (.cells cs e fr)) : ¬ b = g := by
  intro e
  subst e
  obtain ⟨l, c, h, _⟩ := h
  rw [h.heap] at hg
  cases hg

/-- m[k], of a release that is there. -/
theorem Holds.lookup {d : D} {v : Int} (h : Holds w b L) (hm : (d, v) ∈ L) : (Instr.lookup 51 (.map (some b)) (dv d) false).run Try.prog w = .ok (.int .i64 v) w := by
  obtain ⟨l, c, h, hp⟩ := h
  obtain ⟨j, hj, _⟩ := look_some l 0 (hp.mem_iff.2 hm) h.keys
  unfold Instr.lookup
  rw [Sem.run_bind, run_underlying Try.underlying51 w]
  simp only [Result.andThen_ok, Sem.run_bind, MapKept.run_getObj_map h.heap, Sem.run_pure, run_check]
  have hf := run_find d w l
  simp only [hf, hj, Result.andThen_ok, Bool.false_eq_true, if_false]
  rfl

/-- m[k] = v, of a release that is not there. -/
theorem Holds.update {d : D} {v : Int} (h : Holds w b L) (hm : d ∉ L.map Prod.fst) : ∃ w', (Instr.mapUpdate 51 (.map (some b)) (dv d) (.int .i64 v)).run Try.prog w = .ok () w' ∧ Holds w' b ((d, v) :: L) ∧ Chg (fun k => k = b) w w' := by
  obtain ⟨l, c, h, hp⟩ := h
  have hnl : d ∉ l.map (·.d) := by
    rw [← map_fst]
    exact fun hh => hm ((hp.map Prod.fst).mem_iff.1 hh)
  have hlt : b < w.heap.size := (Array.getElem?_eq_some_iff.1 h.heap).1
  refine ⟨{ w with heap := w.heap.setIfInBounds b (.map ((l ++ [(⟨d, v, c⟩ : E)]).map ent).toArray (c + 1)) }, ?_, ⟨l ++ [(⟨d, v, c⟩ : E)], c + 1, ⟨?_, ?_, ?_, ?_⟩, ?_⟩, ⟨rfl, rfl, rfl, by simp, ?_⟩⟩
  · unfold Instr.mapUpdate
    rw [Sem.run_bind, run_underlying Try.underlying51 w]
    have hf := run_find d w l
    simp only [Result.andThen_ok, Sem.run_bind, MapKept.run_getObj_map h.heap, run_check, hf, look_none l 0 hnl]
    rw [MapKept.run_setObj_map _ h.heap]
    congr 3
    simp [ent]
  · show (w.heap.setIfInBounds b _)[b]? = _
    rw [Array.getElem?_setIfInBounds_self_of_lt hlt]
  · simp only [List.map_append, List.map_cons, List.map_nil]
    rw [List.nodup_append]
    exact ⟨h.keys, by simp, fun a ha x hx => by simp at hx; subst hx; exact fun e => hnl (e ▸ ha)⟩
  · simp only [List.map_append, List.map_cons, List.map_nil]
    rw [List.nodup_append]
    refine ⟨h.stamps, by simp, fun a ha x hx => ?_⟩
    simp at hx
    subst hx
    obtain ⟨y, hy, rfl⟩ := List.mem_map.1 ha
    have := h.old y hy
    omega
  · intro x hx
    rcases List.mem_append.1 hx with hx | hx
    · have := h.old x hx; omega
    · simp at hx; subst hx; simp
  · simp only [List.map_append, List.map_cons, List.map_nil]
    exact (List.perm_append_singleton _ _).trans (hp.cons _)
  · intro k hk hne
    show (w.heap.setIfInBounds b _)[k]? = _
    rw [Array.getElem?_setIfInBounds_ne (fun e => hne e.symm)]

/-- delete(m, k), of a release that is there. -/
theorem Holds.delete {d : D} {v : Int} (h : Holds w b L) (hm : (d, v) ∈ L) (ty : TypeId) : ∃ w', (Builtin.delete_ #[51, 48] ty #[.map (some b), dv d]).run Try.prog w = .ok (.tuple #[]) w' ∧ Holds w' b (L.erase (d, v)) ∧ Chg (fun k => k = b) w w' := by
  obtain ⟨l, c, h, hp⟩ := h
  obtain ⟨j, hj, hjl, her, _⟩ := look_some l 0 (hp.mem_iff.2 hm) h.keys
  have hlt : b < w.heap.size := (Array.getElem?_eq_some_iff.1 h.heap).1
  have hsub : (l.eraseIdx j).Sublist l := List.eraseIdx_sublist _ _
  refine ⟨{ w with heap := w.heap.setIfInBounds b (.map ((l.eraseIdx j).map ent).toArray c) }, ?_, ⟨l.eraseIdx j, c, ⟨?_, (hsub.map _).nodup h.keys, (hsub.map _).nodup h.stamps, fun x hx => h.old x (hsub.subset hx)⟩, ?_⟩, ⟨rfl, rfl, rfl, by simp, ?_⟩⟩
  · unfold Builtin.delete_
    have hf := run_find d w l
    simp only [List.getElem?_toArray, List.getElem?_cons_zero, List.getElem?_cons_succ]
    rw [Sem.run_bind, run_underlying Try.underlying51 w]
    simp only [Result.andThen_ok, Sem.run_bind, MapKept.run_getObj_map h.heap, Sem.run_pure, run_check, hf, hj, Nat.zero_add]
    rw [MapKept.run_setObj_map _ h.heap]
    simp only [Result.andThen_ok]
    congr 4
    simp [map_out, Array.eraseIdxIfInBounds, hjl]
  · show (w.heap.setIfInBounds b _)[b]? = _
    rw [Array.getElem?_setIfInBounds_self_of_lt hlt]
  · rw [her]
    exact hp.erase _
  · intro k hk hne
    show (w.heap.setIfInBounds b _)[k]? = _
    rw [Array.getElem?_setIfInBounds_ne (fun e => hne e.symm)]
end
end Go.Proofs.Ytnhnmjdmenehoaa

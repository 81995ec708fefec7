/- The jobs of a set, what a set's block holds, and the plain functions that its methods compute. -/
import Derived.Test.YtocbahciffickaaRows
import Derived.Test.YtocbahciffickaaWords
namespace Go.Proofs.Ytocbahciffickaa
open Go.RowKit

structure J where
  t : Int
  p : Int
  n : Int
  deriving DecidableEq

def jc (j : J) : List Value := [.int .i64 j.t, .int .i64 j.p, .int .i64 j.n]
def jv (j : J) : Value := .agg #[.int .i64 j.t, .int .i64 j.p, .int .i64 j.n]
def jcs (l : List J) : List Value := l.flatMap jc
theorem jcs_nil : jcs [] = [] := rfl
theorem jcs_cons (j : J) (l : List J) : jcs (j :: l) = jc j ++ jcs l := rfl
theorem jcs_append (l m : List J) : jcs (l ++ m) = jcs l ++ jcs m := by simp [jcs]
theorem jcs_length (l : List J) : (jcs l).length = l.length * 3 := by
  induction l with
  | nil => rfl
  | cons j l ih => rw [jcs_cons, List.length_append, ih]; simp [jc]; omega
theorem jcs_one (j : J) : jcs [j] = jc j := by simp [jcs]
theorem jcs_take (l : List J) (i : Nat) : (jcs l).take (i * 3) = jcs (l.take i) := by
  induction l generalizing i with
  | nil => simp [jcs]
  | cons j l ih =>
    cases i with
    | zero => simp [jcs]
    | succ i =>
      rw [jcs_cons, List.take_succ_cons, jcs_cons, ← ih, show (i + 1) * 3 = (jc j).length + i * 3 by simp [jc]; omega, List.take_length_add_append]
theorem jcs_drop (l : List J) (i : Nat) : (jcs l).drop (i * 3) = jcs (l.drop i) := by
  induction l generalizing i with
  | nil => simp [jcs]
  | cons j l ih =>
    cases i with
    | zero => simp [jcs]
    | succ i =>
      rw [jcs_cons, List.drop_succ_cons, ← ih, show (i + 1) * 3 = (jc j).length + i * 3 by simp [jc]; omega, List.drop_length_add_append]
theorem jcs_get (l : List J) (i k : Nat) (hi : i < l.length) (hk : k < 3) : (jcs l)[i * 3 + k]? = (jc l[i])[k]? := by
  have h : (jcs l)[i * 3 + k]? = ((jcs l).drop (i * 3))[k]? := by rw [List.getElem?_drop]
  rw [h, jcs_drop, List.drop_eq_getElem_cons hi, jcs_cons, List.getElem?_append_left (by simpa [jc] using hk)]
theorem jcs_one' (l : List J) : ∀ u ∈ jcs l, u.oneCell' = true := by
  intro u hu
  simp only [jcs, List.mem_flatMap, jc] at hu
  obtain ⟨j, _, hj⟩ := hu
  simp at hj
  rcases hj with rfl | rfl | rfl <;> rfl

/-- The set at block p (of struct type T, its elements of type E) holds the jobs xs, by the slice value v. -/
def SetAt (T E : TypeId) (w : World) (p : Nat) (v : Value) (xs : List J) : Prop :=
  w.heap[p]? = some (.cells #[v] T (0, 0)) ∧ Own w E 3 v xs.length (jcs xs)

section
variable {T E : TypeId} {w w' : World} {p : Nat} {v : Value} {xs : List J} {S : Nat → Prop}
theorem SetAt.lt (h : SetAt T E w p v xs) : p < w.heap.size := (Array.getElem?_eq_some_iff.1 h.1).1
theorem SetAt.keep (h : SetAt T E w p v xs) (hc : Chg S w w') (hp : ¬ S p) (hs : ∀ k, v.ownBlock = some k → ¬ S k) : SetAt T E w' p v xs :=
  ⟨(hc.block p h.lt hp).trans h.1, h.2.keep hc hs⟩
theorem SetAt.alloc (h : SetAt T E w p v xs) (o : Obj) : SetAt T E (w.alloc o) p v xs := h.keep (S := fun _ => False) ((Chg.refl _ _).alloc o) (fun f => f) (fun _ _ f => f)
theorem SetAt.cell (h : SetAt T E w p v xs) : w.cell? ⟨p, 0, none⟩ = some v := by rw [cell_of_row w p 0 _ _ _ h.1]; rfl
theorem SetAt.frozen (h : SetAt T E w p v xs) : w.frozen? ⟨p, 0, none⟩ = false := frozen_of_row w p 0 _ _ h.1
theorem SetAt.slice (h : SetAt T E w p v xs) : ∃ A c, v = .slice A xs.length c := h.2.slice
end

/-- The set's own block behind an append onto its row. -/
theorem SetAt.behind {T E : TypeId} {w W W' : World} {p : Nat} {v : Value} {xs : List J} (h : SetAt T E w p v xs) (hTE : E ≠ T) (hW : Chg (fun _ => False) w W) (hc : Chg (fun k => v.ownBlock = some k) W W') :
    W'.heap[p]? = some (.cells #[v] T (0, 0)) := by
  rw [hc.block p (Nat.lt_of_lt_of_le h.lt hW.size) (fun e => h.2.ne_blk h.1 hTE p e rfl), hW.block p h.lt (fun f => f)]
  exact h.1
/-- The new slice is stored. -/
theorem SetAt.store {T E : TypeId} {W : World} {p n : Nat} {v v' : Value} {ys : List J} {cs : List Value} (hb : W.heap[p]? = some (.cells #[v] T (0, 0))) (hTE : E ≠ T) (ho : Own W E 3 v' n cs) (hn : n = ys.length) (hcs : cs = jcs ys) :
    SetAt T E (W.setCell ⟨p, 0, none⟩ v') p v' ys := by
  subst hn; subst hcs
  refine ⟨?_, ho.setFar (fun k hk => ho.ne_blk hb hTE k hk) v'⟩
  rw [heap_setCell_same W p 0 _ _ v' hb]
  simp

theorem jc_one (j : J) : ∀ u ∈ jc j, u.oneCell' = true := fun u hu => jcs_one' [j] u (by rw [jcs_one]; exact hu)
/-- A box that holds one job: the cells that append takes. -/
theorem news_box {W : World} {g : Nat} {j : J} {e : TypeId} (hg : W.heap[g]? = some (.cells #[.int .i64 j.t, .int .i64 j.p, .int .i64 j.n] e (0, 0))) :
    0 < 1 → ∃ ad, some (⟨g, 0, none⟩ : Addr) = some ad ∧ ∀ k u, (jc j)[k]? = some u → W.cell? (ad.add k) = some u := by
  refine fun _ => ⟨_, rfl, fun k u hu => ?_⟩
  have hadd : (⟨g, 0, none⟩ : Addr).add k = ⟨g, k, none⟩ := by unfold Addr.add; split <;> simp_all
  rw [hadd, cell_of_row W g k _ _ _ hg]
  simpa [jc] using hu

/-- What Put answers, and leaves. -/
def putE (xs : List J) (j : J) : Int := if j.p < 1 ∨ j.p > 100 then 1 else if 10000 ≤ xs.length then 4 else 0
def putL (xs : List J) (j : J) : List J := if j.p < 1 ∨ j.p > 100 then xs else if 10000 ≤ xs.length then xs else xs ++ [j]
def PutPost (T E : TypeId) (w : World) (p : Nat) (v : Value) (xs : List J) (j : J) (e : Ending) (w' : World) : Prop :=
  e = .returned (.int .i64 (putE xs j)) ∧ ∃ v', SetAt T E w' p v' (putL xs j) ∧ Chg (fun k => k = p ∨ v.ownBlock = some k) w w' ∧ (∀ k, v'.ownBlock = some k → v.ownBlock = some k ∨ w.heap.size ≤ k)

theorem put_end {T E : TypeId} {w W W' : World} {p : Nat} {v v' : Value} {xs : List J} {j : J} {z : Int} (h : SetAt T E w p v xs) (hTE : E ≠ T) (hW : Chg (fun _ => False) w W) (hb : W'.heap[p]? = some (.cells #[v] T (0, 0)))
    (ho : Own W' E 3 v' (xs.length + 1) (jcs xs ++ jc j)) (hc : Chg (fun k => v.ownBlock = some k) W W') (hbl : v'.ownBlock = v.ownBlock ∨ v'.ownBlock = some W.heap.size)
    (hj : 1 ≤ j.p) (hj2 : j.p ≤ 100) (hl : xs.length < 10000) (hz : z = 0) : PutPost T E w p v xs j (.returned (.int .i64 z)) (W'.setCell ⟨p, 0, none⟩ v') := by
  have h1 : ¬ (j.p < 1 ∨ j.p > 100) := by omega
  have h2 : ¬ 10000 ≤ xs.length := by omega
  refine ⟨by simp only [putE, if_neg h1, if_neg h2, hz], v', ?_, ?_, ?_⟩
  · simp only [putL, if_neg h1, if_neg h2]
    exact SetAt.store hb hTE ho (by simp) (by rw [jcs_append, jcs_one])
  · refine Chg.setCell ((hW.mono (T := fun k => k = p ∨ v.ownBlock = some k) (fun _ _ f => f.elim)).comp hc (fun i _ hi => .inr hi)) (fun _ => .inl rfl) v'
  · intro k hk
    rcases hbl with hbl | hbl
    · exact .inl (hbl.symm.trans hk)
    · rw [hbl] at hk
      injection hk with hk
      have := hW.size
      exact .inr (by omega)

theorem Try.info30 : (Try.prog.info? 30).map (fun i => (i.zero, i.size, i.bytes)) = some (some (.agg #[.int .i64 0, .int .i64 0, .int .i64 0]), 3, 24) := by kernel_rfl
theorem Try.info36 : (Try.prog.info? 36).map (fun i => (i.zero, i.size, i.bytes)) = some (some (.agg #[.int .i64 0, .int .i64 0, .int .i64 0]), 3, 24) := by kernel_rfl
theorem Try.info3 : (Try.prog.info? 3).map (fun i => (i.zero, i.size, i.bytes)) = some (some (.int .i64 0), 1, 8) := by kernel_rfl
end Go.Proofs.Ytocbahciffickaa

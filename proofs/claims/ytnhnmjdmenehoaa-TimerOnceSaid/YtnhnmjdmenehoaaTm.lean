/- Timers: what their blocks hold, and the plain functions that their methods compute. -/
import Derived.Test.YtnhnmjdmenehoaaRng
namespace Go.Proofs.Ytnhnmjdmenehoaa
open Go.RowKit

def ints (l : List Int) : List Value := l.map fun x => .int .i64 x
def dcs (l : List D) : List Value := l.flatMap fun d => [.int .i64 d.t, .int .i64 d.n]
/-- A release that waits: three cells. -/
def wcs (l : List (D × Int)) : List Value := l.flatMap fun x => [.int .i64 x.1.t, .int .i64 x.1.n, .int .i64 x.2]

theorem dcs_append (l m : List D) : dcs (l ++ m) = dcs l ++ dcs m := by simp [dcs]
theorem wcs_append (l m : List (D × Int)) : wcs (l ++ m) = wcs l ++ wcs m := by simp [wcs]
theorem dcs_length (l : List D) : (dcs l).length = l.length * 2 := by
  induction l with
  | nil => rfl
  | cons d l ih => simp only [dcs, List.flatMap_cons, List.length_append, List.length_cons, List.length_nil] at ih ⊢; omega
theorem wcs_length (l : List (D × Int)) : (wcs l).length = l.length * 3 := by
  induction l with
  | nil => rfl
  | cons d l ih => simp only [wcs, List.flatMap_cons, List.length_append, List.length_cons, List.length_nil] at ih ⊢; omega
theorem ints_length (l : List Int) : (ints l).length = l.length := by simp [ints]
theorem dcs_drop (l : List D) : ∀ i, (dcs l).drop (i * 2) = dcs (l.drop i) := by
  induction l with
  | nil => intro i; simp [dcs]
  | cons d l ih =>
    intro i
    cases i with
    | zero => simp
    | succ i =>
      rw [List.drop_succ_cons, ← ih, show (i + 1) * 2 = i * 2 + 2 by omega]
      simp [dcs]
theorem wcs_drop (l : List (D × Int)) : ∀ i, (wcs l).drop (i * 3) = wcs (l.drop i) := by
  induction l with
  | nil => intro i; simp [wcs]
  | cons d l ih =>
    intro i
    cases i with
    | zero => simp
    | succ i =>
      rw [List.drop_succ_cons, ← ih, show (i + 1) * 3 = i * 3 + 3 by omega]
      simp [wcs]
theorem dcs_one' (l : List D) : ∀ u ∈ dcs l, u.oneCell' = true := by
  intro u hu
  simp only [dcs, List.mem_flatMap] at hu
  obtain ⟨j, _, hj⟩ := hu
  simp at hj
  rcases hj with rfl | rfl <;> rfl
theorem wcs_one' (l : List (D × Int)) : ∀ u ∈ wcs l, u.oneCell' = true := by
  intro u hu
  simp only [wcs, List.mem_flatMap] at hu
  obtain ⟨j, _, hj⟩ := hu
  simp at hj
  rcases hj with rfl | rfl | rfl <;> rfl
theorem ints_one' (l : List Int) : ∀ u ∈ ints l, u.oneCell' = true := by
  intro u hu
  simp only [ints, List.mem_map] at hu
  obtain ⟨x, _, rfl⟩ := hu
  rfl

section
variable {w : World} {e : TypeId} {g n cap : Nat}
theorem Own.int {l : List Int} {k : Nat} {x : Int} (h : Own w e 1 (.slice (some ⟨g, 0, none⟩) n cap) n (ints l)) (hn : n = l.length) (hx : l[k]? = some x) : w.cell? ⟨g, k, none⟩ = some (.int .i64 x) := by
  have hk : k < l.length := (List.getElem?_eq_some_iff.1 hx).1
  rw [h.cell k (by omega)]
  simp [ints, hx]
theorem Own.due {l : List D} {k : Nat} {d : D} (h : Own w e 2 (.slice (some ⟨g, 0, none⟩) n cap) n (dcs l)) (hn : n = l.length) (hx : l[k]? = some d) : w.cell? ⟨g, k * 2, none⟩ = some (.int .i64 d.t) ∧ w.cell? ⟨g, k * 2 + 1, none⟩ = some (.int .i64 d.n) := by
  have hk : k < l.length := (List.getElem?_eq_some_iff.1 hx).1
  have hd : ∀ i, (dcs l)[k * 2 + i]? = ((dcs l).drop (k * 2))[i]? := fun i => by rw [List.getElem?_drop]
  have h2 : l.drop k = d :: l.drop (k + 1) := by
    obtain ⟨hk, he⟩ := List.getElem?_eq_some_iff.1 hx
    rw [List.drop_eq_getElem_cons hk, he]
  constructor
  · rw [h.cell _ (by omega), show k * 2 = k * 2 + 0 from rfl, hd 0, dcs_drop, h2]; rfl
  · rw [h.cell _ (by omega), hd 1, dcs_drop, h2]; rfl
theorem Own.wait {l : List (D × Int)} {k : Nat} {d : D × Int} (h : Own w e 3 (.slice (some ⟨g, 0, none⟩) n cap) n (wcs l)) (hn : n = l.length) (hx : l[k]? = some d) :
    w.cell? ⟨g, k * 3, none⟩ = some (.int .i64 d.1.t) ∧ w.cell? ⟨g, k * 3 + 1, none⟩ = some (.int .i64 d.1.n) ∧ w.cell? ⟨g, k * 3 + 2, none⟩ = some (.int .i64 d.2) := by
  have hk : k < l.length := (List.getElem?_eq_some_iff.1 hx).1
  have hd : ∀ i, (wcs l)[k * 3 + i]? = ((wcs l).drop (k * 3))[i]? := fun i => by rw [List.getElem?_drop]
  have h2 : l.drop k = d :: l.drop (k + 1) := by
    obtain ⟨hk, he⟩ := List.getElem?_eq_some_iff.1 hx
    rw [List.drop_eq_getElem_cons hk, he]
  refine ⟨?_, ?_, ?_⟩
  · rw [h.cell _ (by omega), show k * 3 = k * 3 + 0 from rfl, hd 0, wcs_drop, h2]; rfl
  · rw [h.cell _ (by omega), hd 1, wcs_drop, h2]; rfl
  · rw [h.cell _ (by omega), hd 2, wcs_drop, h2]; rfl
end

/-! ### The plain functions -/
def ltD (a b : D) : Bool := decide (a.t < b.t ∨ a.t = b.t ∧ a.n < b.n)
def Sorted (l : List D) : Prop := l.Pairwise (fun a b => ltD a b = true)
/-- The jitter of a pick, and of the first pick there is. -/
def clamp (x : Int) : Int := max 0 (min x 1048576)
def jit : List Int → Int
  | [] => 0
  | x :: _ => clamp x
/-- The releases of this slot. -/
def rels (now : Int) : List Int → Nat → List Int → List (D × Int)
  | [], _, _ => []
  | p :: r, i, picks => if now % p = 0 then (⟨(i : Int), now⟩, now + jit picks) :: rels now r (i + 1) picks.tail else rels now r (i + 1) picks
/-- Laid among the others, in order. -/
def ins (x : D × Int) (L : List (D × Int)) : List (D × Int) := L.takeWhile (fun y => ltD y.1 x.1) ++ x :: L.dropWhile (fun y => ltD y.1 x.1)
def insAll (L : List (D × Int)) (R : List (D × Int)) : List (D × Int) := R.foldl (fun L x => ins x L) L
def lay (ps : List Int) (now : Int) (L : List (D × Int)) (picks : List Int) : List (D × Int) := insAll L (rels now ps 0 picks)
def told (ps : List Int) (now : Int) (L : List (D × Int)) (picks : List Int) : List D := ((lay ps now L picks).filter (fun x => decide (x.2 ≤ now))).map Prod.fst
def left (ps : List Int) (now : Int) (L : List (D × Int)) (picks : List Int) : List (D × Int) := (lay ps now L picks).filter (fun x => !decide (x.2 ≤ now))

/-- A timer at block p: its periods, the slot, what waits (in order), the map's block. -/
structure TimerAt (w : World) (p : Nat) (va : Value) (b : Nat) (ps : List Int) (now : Int) (L : List (D × Int)) : Prop where
  heap : w.heap[p]? = some (.cells #[va, .int .i64 now, .map (some b)] 53 (0, 0))
  per : Own w 3 1 va ps.length (ints ps)
  map : Holds w b L
/-- The document's timer at block q. -/
structure RefAt (w : World) (q : Nat) (va vl : Value) (ps : List Int) (now : Int) (L : List (D × Int)) : Prop where
  heap : w.heap[q]? = some (.cells #[va, .int .i64 now, vl] 44 (0, 0))
  per : Own w 3 1 va ps.length (ints ps)
  row : Own w 62 3 vl L.length (wcs L)

theorem Try.info48 : (Try.prog.info? 48).map (fun i => (i.zero, i.size, i.bytes)) = some (some (.agg #[.int .i64 0, .int .i64 0]), 2, 16) := by kernel_rfl
theorem Try.info58 : (Try.prog.info? 58).map (fun i => (i.zero, i.size, i.bytes)) = some (some (.agg #[.int .i64 0, .int .i64 0]), 2, 16) := by kernel_rfl
theorem Try.info62 : (Try.prog.info? 62).map (fun i => (i.zero, i.size, i.bytes)) = some (some (.agg #[.int .i64 0, .int .i64 0, .int .i64 0]), 3, 24) := by kernel_rfl
theorem Try.info3 : (Try.prog.info? 3).map (fun i => (i.zero, i.size, i.bytes)) = some (some (.int .i64 0), 1, 8) := by kernel_rfl
end Go.Proofs.Ytnhnmjdmenehoaa

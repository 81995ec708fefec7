import Derived.Test.YtnhnmjdmenehoaaTm
namespace Go.Proofs.Ytnhnmjdmenehoaa
open Go.RowKit

section
variable {w w' : World} {p b : Nat} {va : Value} {ps : List Int} {now : Int} {L : List (D × Int)} {S : Nat → Prop}
theorem cells3 {W : World} {g : Nat} {x y z : Value} {T : TypeId} (h : W.heap[g]? = some (.cells #[x, y, z] T (0, 0))) :
    W.cell? ⟨g, 0, none⟩ = some x ∧ W.cell? ⟨g, 1, none⟩ = some y ∧ W.cell? ⟨g, 2, none⟩ = some z ∧ W.frozen? ⟨g, 0, none⟩ = false ∧ W.frozen? ⟨g, 1, none⟩ = false ∧ W.frozen? ⟨g, 2, none⟩ = false ∧ g < W.heap.size :=
  ⟨by rw [cell_of_row W g 0 _ _ _ h]; rfl, by rw [cell_of_row W g 1 _ _ _ h]; rfl, by rw [cell_of_row W g 2 _ _ _ h]; rfl, frozen_of_row W g 0 _ _ h, frozen_of_row W g 1 _ _ h, frozen_of_row W g 2 _ _ h, (Array.getElem?_eq_some_iff.1 h).1⟩
theorem heap_keep {k : Nat} {o : Obj} (h : w.heap[k]? = some o) (hc : Chg S w w') (hk : ¬ S k) : w'.heap[k]? = some o :=
  (hc.block k (Array.getElem?_eq_some_iff.1 h).1 hk).trans h
theorem TimerAt.keep (h : TimerAt w p va b ps now L) (hc : Chg S w w') (hp : ¬ S p) (hb : ¬ S b) (hs : ∀ k, va.ownBlock = some k → ¬ S k) : TimerAt w' p va b ps now L :=
  ⟨heap_keep h.heap hc hp, h.per.keep hc hs, h.map.keep hc hb⟩
theorem TimerAt.quiet (h : TimerAt w p va b ps now L) (hc : Chg (fun _ => False) w w') : TimerAt w' p va b ps now L := h.keep hc (fun f => f) (fun f => f) (fun _ _ f => f)
theorem TimerAt.alloc (h : TimerAt w p va b ps now L) (o : Obj) : TimerAt (w.alloc o) p va b ps now L := h.quiet ((Chg.refl _ _).alloc o)
theorem TimerAt.drew (h : TimerAt w p va b ps now L) : TimerAt w.drew p va b ps now L := h.quiet (Chg.refl _ _).drew
end
section
variable {w w' : World} {q : Nat} {va vl : Value} {ps : List Int} {now : Int} {L : List (D × Int)} {S : Nat → Prop}
theorem RefAt.keep (h : RefAt w q va vl ps now L) (hc : Chg S w w') (hq : ¬ S q) (hs : ∀ k, va.ownBlock = some k → ¬ S k) (hl : ∀ k, vl.ownBlock = some k → ¬ S k) : RefAt w' q va vl ps now L :=
  ⟨heap_keep h.heap hc hq, h.per.keep hc hs, h.row.keep hc hl⟩
theorem RefAt.quiet (h : RefAt w q va vl ps now L) (hc : Chg (fun _ => False) w w') : RefAt w' q va vl ps now L := h.keep hc (fun f => f) (fun _ _ f => f) (fun _ _ f => f)
theorem RefAt.alloc (h : RefAt w q va vl ps now L) (o : Obj) : RefAt (w.alloc o) q va vl ps now L := h.quiet ((Chg.refl _ _).alloc o)
theorem RefAt.drew (h : RefAt w q va vl ps now L) : RefAt w.drew q va vl ps now L := h.quiet (Chg.refl _ _).drew
end

theorem there_calls (w : World) (p b : Nat) (va : Value) (ps : List Int) (now : Int) (L : List (D × Int)) (h : TimerAt w p va b ps now L) :
    Calls Try.prog 21 #[.pointer (some ⟨p, 0, none⟩)] w (fun e w' => e = .returned (.bool true) ∧ w = w') := by
  obtain ⟨c0, c1, c2, f0, f1, f2, hlt⟩ := cells3 h.heap
  clear h
  have hm := fun (W : World) (r : Option Nat) => run_neq_map_nil (P := Try.prog) W 51 48 3 r Try.underlying51
  go_enter Try.func21, Try.ntmps21
  go_wp2
  go_ret
  exact ⟨rfl, rfl⟩

theorem there_nil (w : World) : Calls Try.prog 21 #[.pointer none] w (fun e w' => e = .returned (.bool false) ∧ w = w') := by
  go_enter Try.func21, Try.ntmps21
  go_wp2
  go_ret
  exact ⟨rfl, rfl⟩
theorem there_zero (w : World) (p : Nat) (x y : Value) (h : w.heap[p]? = some (.cells #[x, y, .map none] 53 (0, 0))) : Calls Try.prog 21 #[.pointer (some ⟨p, 0, none⟩)] w (fun e w' => e = .returned (.bool false) ∧ w = w') := by
  obtain ⟨c0, c1, c2, f0, f1, f2, hlt⟩ := cells3 h
  clear h
  have hm := fun (W : World) (r : Option Nat) => run_neq_map_nil (P := Try.prog) W 51 48 3 r Try.underlying51
  go_enter Try.func21, Try.ntmps21
  go_wp2
  go_ret
  exact ⟨rfl, rfl⟩

def OnlyBool (b : Bool) (w : World) (e : Ending) (w' : World) : Prop := e = .returned (.bool b) ∧ Chg (fun _ => False) w w'
theorem ahead_calls (w : World) (x n y m : Int) : Calls Try.prog 24 #[.agg #[.int .i64 x, .int .i64 n], .agg #[.int .i64 y, .int .i64 m]] w (OnlyBool (ltD ⟨x, n⟩ ⟨y, m⟩) w) := by
  by_cases h1 : x < y
  · have hb : ltD ⟨x, n⟩ ⟨y, m⟩ = true := by simp [ltD, h1]
    rw [hb]
    clear hb
    go_enter Try.func24, Try.ntmps24
    go_wp2
    go_ret
    exact ⟨rfl, ((Chg.refl _ w).alloc _).alloc _⟩
  · by_cases h2 : x = y
    · subst h2
      by_cases h3 : n < m
      · have hb : ltD ⟨x, n⟩ ⟨x, m⟩ = true := by simp [ltD, h3]
        rw [hb]
        clear hb
        go_enter Try.func24, Try.ntmps24
        go_wp2
        go_ret
        exact ⟨rfl, ((Chg.refl _ w).alloc _).alloc _⟩
      · have hb : ltD ⟨x, n⟩ ⟨x, m⟩ = false := by simp [ltD, h3]
        rw [hb]
        clear hb
        go_enter Try.func24, Try.ntmps24
        go_wp2
        go_ret
        exact ⟨rfl, ((Chg.refl _ w).alloc _).alloc _⟩
    · have hb : ltD ⟨x, n⟩ ⟨y, m⟩ = false := by simp [ltD, h1, h2]
      have he : (x == y) = false := by simp [h2]
      rw [hb]
      clear hb h2
      go_enter Try.func24, Try.ntmps24
      go_wp2
      go_ret
      exact ⟨rfl, ((Chg.refl _ w).alloc _).alloc _⟩

theorem now_calls (w : World) (p b : Nat) (va : Value) (ps : List Int) (now : Int) (L : List (D × Int)) (h : TimerAt w p va b ps now L) :
    Calls Try.prog 20 #[.pointer (some ⟨p, 0, none⟩)] w (fun e w' => e = .returned (.int .i64 now) ∧ w = w') := by
  obtain ⟨c0, c1, c2, f0, f1, f2, hlt⟩ := cells3 h.heap
  clear h
  go_enter Try.func20, Try.ntmps20
  go_wp2
  go_ret
  exact ⟨rfl, rfl⟩

/-- Periods that can be. -/
def GoodP (ps : List Int) : Prop := ∀ p ∈ ps, 1 ≤ p ∧ p ≤ 1048576
def Good (ps : List Int) : Prop := 1 ≤ ps.length ∧ ps.length ≤ 8 ∧ GoodP ps

/-- A slice of ints that came in, or that a call made. -/
def Reads (w : World) (A : Option Addr) (l : List Int) : Prop := l.length ≤ maxLen ∧ (l = [] ∨ ∃ b off, A = some ⟨b, off, none⟩ ∧ ∀ k x, l[k]? = some x → w.cell? ⟨b, off + k, none⟩ = some (.int .i64 x))
theorem Reads.keep {w w' : World} {A : Option Addr} {l : List Int} (h : Reads w A l) (hc : Chg (fun _ => False) w w') : Reads w' A l := by
  refine ⟨h.1, h.2.imp id ?_⟩
  rintro ⟨b, off, rfl, hh⟩
  exact ⟨b, off, rfl, fun k x hx => (hc.none_below.cell (World.block_lt_of_cell? w _ (hh k x hx))).trans (hh k x hx)⟩
theorem Own.reads {w : World} {e : TypeId} {n c : Nat} {A : Option Addr} {l : List Int} (h : Own w e 1 (.slice A n c) n (ints l)) (hn : n = l.length) : Reads w A l := by
  refine ⟨by rw [← hn]; exact h.len_le, ?_⟩
  rcases Nat.eq_zero_or_pos l.length with h0 | h0
  · exact .inl (List.eq_nil_of_length_eq_zero h0)
  · obtain ⟨g, cap, hv, _⟩ := h.form (by omega)
    injection hv with h1 _ h3
    subst h1; subst h3
    exact .inr ⟨g, 0, rfl, fun k x hx => by rw [Nat.zero_add]; exact h.int hn hx⟩
theorem Reads.news {w : World} {A : Option Addr} {l : List Int} (h : Reads w A l) : 0 < l.length → ∃ ad, A = some ad ∧ ∀ j u, (ints l)[j]? = some u → w.cell? (ad.add j) = some u := by
  intro h0
  rcases h.2 with rfl | ⟨b, off, rfl, hh⟩
  · simp at h0
  · refine ⟨_, rfl, fun j u hu => ?_⟩
    simp only [ints, List.getElem?_map, Option.map_eq_some_iff] at hu
    obtain ⟨x, hx, rfl⟩ := hu
    rw [Addr.add_lit]
    exact hh j x hx

/-- What New answers where the periods can be. -/
def NewPost (w : World) (ps : List Int) (e : Ending) (w' : World) : Prop :=
  ∃ p va b, e = .returned (.tuple #[.pointer (some ⟨p, 0, none⟩), .int .i64 0]) ∧ TimerAt w' p va b ps 0 [] ∧ Chg (fun _ => False) w w' ∧ w.heap.size ≤ p ∧ w.heap.size ≤ b ∧ ∀ k, va.ownBlock = some k → w.heap.size ≤ k
def ErrPost (w : World) (e : Ending) (w' : World) : Prop := e = .returned (.tuple #[.pointer none, .int .i64 1]) ∧ Chg (fun _ => False) w w'

set_option maxRecDepth 100000 in
set_option maxHeartbeats 400000 in
theorem new_count (w : World) (A : Option Addr) (n c : Nat) (hn : n ≤ 9223372036854775807) (h : n = 0 ∨ 8 < n) : Calls Try.prog 11 #[.slice A n c] w (ErrPost w) := by
  rcases h with rfl | h
  · go_enter Try.func11, Try.ntmps11
    go_wp2
    go_ret2
    exact ⟨rfl, Chg.refl _ _⟩
  · have h0 : ((n : Int) == 0) = false := by simp; omega
    go_enter Try.func11, Try.ntmps11
    go_wp2
    go_ret2
    exact ⟨rfl, Chg.refl _ _⟩
end Go.Proofs.Ytnhnmjdmenehoaa

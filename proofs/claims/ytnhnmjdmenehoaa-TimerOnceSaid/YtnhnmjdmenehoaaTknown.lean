import Derived.Test.YtnhnmjdmenehoaaTsame
namespace Go.Proofs.Ytnhnmjdmenehoaa
open Go.RowKit

theorem reads_lit {W : World} {b : Nat} {l : List Int} {e : TypeId} (h : W.heap[b]? = some (.cells (ints l).toArray e (0, 0))) (hl : l.length ≤ 1000) : Reads W (some ⟨b, 0, none⟩) l := by
  refine ⟨by simp only [maxLen]; omega, .inr ⟨b, 0, rfl, fun k x hx => ?_⟩⟩
  rw [cell_of_row W b (0 + k) _ _ _ h]
  simp [ints, hx]
theorem pick_lit {W : World} {b : Nat} {l : List Int} {e : TypeId} (h : W.heap[b]? = some (.cells (ints l).toArray e (0, 0))) (hl : l.length ≤ 1000) : PickAt W (.slice (some ⟨b, 0, none⟩) l.length l.length) l :=
  ⟨_, _, rfl, Nat.le_refl _, by simp only [maxLen]; omega, reads_lit h hl⟩
theorem pick_nil (W : World) : PickAt W (.slice none 0 0) [] := ⟨none, 0, rfl, by simp, by simp [maxLen], by simp [maxLen], .inl rfl⟩
theorem pick_one (w : World) (x : Int) : PickAt (w.alloc (.cells #[.int .i64 x] 3)) (.slice (some ⟨w.heap.size, 0, none⟩) 1 1) [x] := pick_lit (l := [x]) (heap_alloc_new w _) (by simp)
theorem pick_two (w : World) (x y : Int) : PickAt (w.alloc (.cells #[.int .i64 x, .int .i64 y] 3)) (.slice (some ⟨w.heap.size, 0, none⟩) 2 2) [x, y] := pick_lit (l := [x, y]) (heap_alloc_new w _) (by simp)
theorem own_due1 (W : World) (x n : Int) : Own (W.alloc (.cells #[.int .i64 x, .int .i64 n] 58)) 58 2 (.slice (some ⟨W.heap.size, 0, none⟩) 1 1) 1 (dcs [⟨x, n⟩]) :=
  ⟨rfl, .inr ⟨W.heap.size, 1, _, rfl, heap_alloc_new W _, Nat.le_refl _, by simp [maxLen], by simp, rfl⟩⟩
theorem neat_nil (ps : List Int) : Neat ps 0 [] := ⟨List.Pairwise.nil, by simp⟩

theorem now_at (w : World) (p b : Nat) (va : Value) (ps : List Int) (now : Int) (L : List (D × Int)) (h : TimerAt w p va b ps now L) :
    Calls Try.prog 20 #[.pointer (some ⟨p, 0, none⟩)] w (fun e w' => e = .returned (.int .i64 now) ∧ w = w') := by
  obtain ⟨c0, c1, c2, f0, f1, f2, hlt⟩ := cells3 h.heap
  clear h
  go_enter Try.func20, Try.ntmps20
  go_wp2
  go_ret
  exact ⟨rfl, rfl⟩

/-- A new timer's post, from a world that lies before the periods were written. -/
theorem NewPost.from {W w : World} {ps : List Int} {e : Ending} {w' : World} (hc : Chg (fun _ => False) W w) (h : NewPost w ps e w') : NewPost W ps e w' := by
  obtain ⟨p, va, b, rfl, h1, h2, h3, h4, h5⟩ := h
  exact ⟨p, va, b, rfl, h1, hc.comp h2 (fun _ _ f => f), Nat.le_trans hc.size h3, Nat.le_trans hc.size h4, fun k hk => Nat.le_trans hc.size (h5 k hk)⟩
theorem new_two (w : World) (x y : Int) (hg : Good [x, y]) : Calls Try.prog 11 #[.slice (some ⟨w.heap.size, 0, none⟩) 2 2] (w.alloc (.cells #[.int .i64 x, .int .i64 y] 3)) (NewPost w [x, y]) :=
  (new_calls _ _ 2 [x, y] (reads_lit (l := [x, y]) (heap_alloc_new w _) (by simp)) hg).mono fun _ _ h => h.from ((Chg.refl _ w).alloc _)
theorem new_one (w : World) (x : Int) (hg : Good [x]) : Calls Try.prog 11 #[.slice (some ⟨w.heap.size, 0, none⟩) 1 1] (w.alloc (.cells #[.int .i64 x] 3)) (NewPost w [x]) :=
  (new_calls _ _ 1 [x] (reads_lit (l := [x]) (heap_alloc_new w _) (by simp)) hg).mono fun _ _ h => h.from ((Chg.refl _ w).alloc _)
theorem err_two (w : World) (x y : Int) (hg : ¬ Good [x, y]) : Calls Try.prog 11 #[.slice (some ⟨w.heap.size, 0, none⟩) 2 2] (w.alloc (.cells #[.int .i64 x, .int .i64 y] 3)) (ErrPost w) :=
  (new_err _ _ 2 [x, y] (reads_lit (l := [x, y]) (heap_alloc_new w _) (by simp)) hg).mono fun _ _ h => ⟨h.1, ((Chg.refl _ w).alloc _).comp h.2 (fun _ _ f => f)⟩
theorem err_one (w : World) (x : Int) (hg : ¬ Good [x]) : Calls Try.prog 11 #[.slice (some ⟨w.heap.size, 0, none⟩) 1 1] (w.alloc (.cells #[.int .i64 x] 3)) (ErrPost w) :=
  (new_err _ _ 1 [x] (reads_lit (l := [x]) (heap_alloc_new w _) (by simp)) hg).mono fun _ _ h => ⟨h.1, ((Chg.refl _ w).alloc _).comp h.2 (fun _ _ f => f)⟩
theorem good23 : Good [2, 3] := ⟨by decide, by decide, fun x hx => by simp at hx; omega⟩
theorem bad20 : ¬ Good [2, 0] := fun h => by have := h.2.2 0 (by simp); omega

/-- A timer of one's own in full: what a law holds of it. -/
structure Tim (w : World) (p b : Nat) (va : Value) (ps : List Int) (now : Int) (L : List (D × Int)) : Prop where
  at_ : TimerAt w p va b ps now L
  good : Good ps
  neat : Neat ps now L
  low : 0 ≤ now
section
variable {w w' : World} {p b : Nat} {va : Value} {ps : List Int} {now : Int} {L : List (D × Int)}
theorem Tim.quiet (h : Tim w p b va ps now L) (hc : Chg (fun _ => False) w w') : Tim w' p b va ps now L := ⟨h.at_.quiet hc, h.good, h.neat, h.low⟩
theorem Tim.alloc (h : Tim w p b va ps now L) (o : Obj) : Tim (w.alloc o) p b va ps now L := h.quiet ((Chg.refl _ _).alloc o)
/-- What a tick tells and leaves, of a timer in full. -/
def TimPost (W : World) (p b : Nat) (va : Value) (ps : List Int) (now : Int) (L : List (D × Int)) (picks : List Int) (e : Ending) (w' : World) : Prop :=
  ∃ A c, e = .returned (.slice A (told ps now L picks).length c) ∧ Own w' 48 2 (.slice A (told ps now L picks).length c) (told ps now L picks).length (dcs (told ps now L picks)) ∧ (∀ i, (Value.slice A (told ps now L picks).length c).ownBlock = some i → W.heap.size ≤ i) ∧ Tim w' p b va ps (now + 1) (left ps now L picks) ∧ Chg (fun i => i = p ∨ i = b) W w'
theorem Tim.tick (h : Tim w p b va ps now L) (picks : List Int) (sv : Value) (hk : PickAt w sv picks) (hn : now ≤ 1000000) (hl : L.length ≤ 4000) :
    Calls Try.prog 14 #[.pointer (some ⟨p, 0, none⟩), sv] w (TimPost w p b va ps now L picks) :=
  (tick_calls w p b va sv ps now L picks h.at_ hk h.good h.low hn h.neat hl).mono fun _ _ ⟨A, c, h1, h2, h3, h4, h5⟩ => ⟨A, c, h1, h2, h3, ⟨h4, h.good, h.neat.next picks, by have := h.low; omega⟩, h5⟩
theorem Tim.waiting (h : Tim w p b va ps now L) (hl : L.length ≤ 4000) : Calls Try.prog 18 #[.pointer (some ⟨p, 0, none⟩)] w (NewDues 48 w (L.map Prod.fst)) :=
  waiting_calls w p b va ps now L h.at_ (by omega) h.neat.sorted
end
theorem Tim.new {w : World} {p b : Nat} {va : Value} {ps : List Int} (h : TimerAt w p va b ps 0 []) (hg : Good ps) : Tim w p b va ps 0 [] := ⟨h, hg, neat_nil ps, by omega⟩

theorem same_one (w : World) (A B : Option Addr) (c d : Nat) (x : D) (h : Own w 58 2 (.slice A 1 c) 1 (dcs [x])) (h' : Own w 58 2 (.slice B 1 d) 1 (dcs [x])) :
    Calls Try.prog 16 #[.slice A 1 c, .slice B 1 d] w (OnlyBool true w) := by
  simpa using same_calls w A B c d [x] [x] h h' (by simp) (by simp)
theorem plain_one (w : World) (A : Option Addr) (c : Nat) (x : D) (h : Own w 48 2 (.slice A 1 c) 1 (dcs [x])) : Calls Try.prog 17 #[.slice A 1 c] w (NewDues 58 w [x]) :=
  plain_calls w A c [x] h (by simp)

/-- known's timer after its ticks. -/
def Known1 (W : World) (p b : Nat) (va : Value) (now : Int) (l : List D) (L : List (D × Int)) (e : Ending) (w' : World) : Prop :=
  ∃ A c, e = .returned (.slice A l.length c) ∧ Own w' 48 2 (.slice A l.length c) l.length (dcs l) ∧ (∀ i, (Value.slice A l.length c).ownBlock = some i → W.heap.size ≤ i) ∧ Tim w' p b va [2, 3] (now + 1) L ∧ Chg (fun i => i = p ∨ i = b) W w'
theorem known_tick {w : World} {p b : Nat} {va : Value} {now : Int} {L : List (D × Int)} (h : Tim w p b va [2, 3] now L) (picks : List Int) (sv : Value) (hk : PickAt w sv picks) (hn : now ≤ 10) (hl : L.length ≤ 40) (l : List D) (L' : List (D × Int)) (h1 : told [2, 3] now L picks = l) (h2 : left [2, 3] now L picks = L') :
    Calls Try.prog 14 #[.pointer (some ⟨p, 0, none⟩), sv] w (Known1 w p b va now l L') := by
  have h3 := h.tick picks sv hk (by omega) (by omega)
  unfold TimPost at h3
  rw [h1, h2] at h3
  exact h3
end Go.Proofs.Ytnhnmjdmenehoaa

import Derived.Test.YtocbahciffickaaTakew
namespace Go.Proofs.Ytocbahciffickaa
open Go.RowKit

/-- A set that the call itself made, since the world w. -/
structure Mine (T E : TypeId) (w W : World) (p : Nat) (v : Value) (xs : List J) : Prop where
  set : SetAt T E W p v xs
  chg : Chg (fun _ => False) w W
  new : w.heap.size ≤ p
  own : ∀ k, v.ownBlock = some k → w.heap.size ≤ k

section
variable {T E : TypeId} {w W W' : World} {p : Nat} {v v' : Value} {xs ys : List J}
theorem Mine.step (h : Mine T E w W p v xs) (hs : SetAt T E W' p v' ys) (hc : Chg (fun k => k = p ∨ v.ownBlock = some k) W W') (hf : ∀ k, v'.ownBlock = some k → v.ownBlock = some k ∨ W.heap.size ≤ k) : Mine T E w W' p v' ys := by
  refine ⟨hs, h.chg.comp hc (fun i hi hk => ?_), h.new, fun k hk => ?_⟩
  · rcases hk with rfl | hk
    · have := h.new; omega
    · have := h.own i hk; omega
  · rcases hf k hk with hf | hf
    · exact h.own k hf
    · have := h.chg.size; omega
theorem Mine.quiet (h : Mine T E w W p v xs) (hc : Chg (fun _ => False) W W') : Mine T E w W' p v xs :=
  ⟨h.set.keep hc (fun f => f) (fun _ _ f => f), h.chg.trans hc, h.new, h.own⟩
theorem Mine.alloc (h : Mine T E w W p v xs) (o : Obj) : Mine T E w (W.alloc o) p v xs := h.quiet ((Chg.refl _ _).alloc o)
/-- A box that is none of the set's. -/
def Beside (W : World) (p : Nat) (v : Value) (b : Nat) (o : Obj) : Prop := W.heap[b]? = some o ∧ b ≠ p ∧ ¬ v.ownBlock = some b
theorem Beside.step {b : Nat} {o : Obj} (h : Beside W p v b o) (hc : Chg (fun k => k = p ∨ v.ownBlock = some k) W W') (hf : ∀ k, v'.ownBlock = some k → v.ownBlock = some k ∨ W.heap.size ≤ k) : Beside W' p v' b o := by
  have hlt : b < W.heap.size := (Array.getElem?_eq_some_iff.1 h.1).1
  refine ⟨(hc.block b hlt (fun e => e.elim h.2.1 h.2.2)).trans h.1, h.2.1, fun e => ?_⟩
  rcases hf b e with hf | hf
  · exact h.2.2 hf
  · omega
theorem Beside.alloc {b : Nat} {o : Obj} (h : Beside W p v b o) (o' : Obj) : Beside (W.alloc o') p v b o :=
  ⟨(Below.heap_alloc W o' b (Array.getElem?_eq_some_iff.1 h.1).1).trans h.1, h.2⟩
theorem Beside.new (h : SetAt T E W p v xs) (o : Obj) : Beside (W.alloc o) p v W.heap.size o :=
  ⟨heap_alloc_new W o, fun e => by have := h.lt; omega, fun e => by have := h.2.lt _ e; omega⟩
end

theorem beside_set {T E T' E' : TypeId} {W W' : World} {p p' : Nat} {v v' : Value} {xs ys : List J} (h : SetAt T E W p v xs) (h' : SetAt T' E' W p' v' ys) (hc : Chg (fun k => k = p ∨ v.ownBlock = some k) W W')
    (h1 : T ≠ T') (h2 : E ≠ E') (h3 : T ≠ E') (h4 : E ≠ T') : SetAt T' E' W' p' v' ys := by
  refine h'.keep hc ?_ ?_
  · rintro (e | e)
    · subst e
      have := h.1.symm.trans h'.1
      injection this with this
      injection this with _ ht
      exact h1 ht
    · exact h.2.ne_blk h'.1 h4 p' e rfl
  · rintro k hk (e | e)
    · exact h'.2.ne_blk h.1 (fun e => h3 e.symm) k hk e
    · exact h'.2.ne h.2 (fun e => h2 e.symm) k hk e

/-! The contracts, with what they answer written out. -/
def PutLit (W : World) (p : Nat) (v : Value) (n : Int) (ys : List J) (e : Ending) (W' : World) : Prop :=
  e = .returned (.int .i64 n) ∧ ∃ v', SetAt 53 30 W' p v' ys ∧ Chg (fun k => k = p ∨ v.ownBlock = some k) W W' ∧ (∀ k, v'.ownBlock = some k → v.ownBlock = some k ∨ W.heap.size ≤ k)
theorem put_lit {W : World} {p : Nat} {v : Value} {xs : List J} (h : SetAt 53 30 W p v xs) (j : J) (n : Int) (ys : List J) (hn : putE xs j = n) (hy : putL xs j = ys) :
    Calls Try.prog 6 #[.pointer (some ⟨p, 0, none⟩), jv j] W (PutLit W p v n ys) := by
  have hc := put_calls W p v xs j h
  unfold PutPost at hc
  rw [hn, hy] at hc
  exact hc
def TakeLit (W : World) (p : Nat) (v : Value) (x y z : Int) (b : Bool) (ys : List J) (e : Ending) (W' : World) : Prop :=
  e = .returned (.tuple #[.agg #[.int .i64 x, .int .i64 y, .int .i64 z], .bool b]) ∧ ∃ v', SetAt 53 30 W' p v' ys ∧ Chg (fun k => k = p ∨ v.ownBlock = some k) W W' ∧ (∀ k, v'.ownBlock = some k → v.ownBlock = some k ∨ W.heap.size ≤ k)
theorem take_lit {W : World} {p : Nat} {v : Value} {xs : List J} (h : SetAt 53 30 W p v xs) (above pick : Int) (x y z : Int) (b : Bool) (ys : List J) (hl : xs.length ≤ 10000) (hp : ∀ j ∈ xs, 1 ≤ j.p) (hj : takeJ xs above pick = ⟨x, y, z⟩) (hb : takeB xs above = b) (hy : takeL xs above pick = ys) :
    Calls Try.prog 9 #[.pointer (some ⟨p, 0, none⟩), .int .i64 above, .int .i64 pick] W (TakeLit W p v x y z b ys) := by
  have hc := take_calls W p v xs above pick h hl hp
  unfold TakePost at hc
  rw [hj, hb, hy] at hc
  exact hc

set_option maxRecDepth 100000 in
set_option maxHeartbeats 2000000 in
theorem known_calls (w : World) : Calls Try.prog 17 #[] w (OnlyBool true w) := by
  go_enter Try.func17, Try.ntmps17
  go_wp2_with (go_at_call 5; refine (new_calls _).mono ?_; rintro e w' ⟨rfl, rfl⟩)
  have M0 : Mine 53 30 w (w.alloc (.cells #[.slice none 0 0] 53)) w.heap.size (.slice none 0 0) [] := ⟨set_new 53 30 w, (Chg.refl _ w).alloc _, Nat.le_refl _, by simp [Value.ownBlock]⟩
  have M := Lib.hid M0
  clear M0
  generalize hW : w.alloc (Obj.cells #[.slice none 0 0] 53) = W0 at *
  have HW := Lib.hid hW
  clear hW
  generalize hp : w.heap.size = p at *
  have Hp := Lib.hid hp
  clear hp
  refine (put_lit M.out.set ⟨1, 2, 0⟩ 0 [⟨1, 2, 0⟩] (by decide) (by decide)).mono ?_
  rintro e W1 ⟨rfl, v1, hs1, hc1, hf1⟩
  have M1 := Lib.hid (M.out.step hs1 hc1 hf1)
  clear M hs1 hc1 hf1
  go_wp2_with fail
  refine (put_lit M1.out.set ⟨2, 5, 0⟩ 0 [⟨1, 2, 0⟩, ⟨2, 5, 0⟩] (by decide) (by decide)).mono ?_
  rintro e W2 ⟨rfl, v2, hs1, hc1, hf1⟩
  have M2 := Lib.hid (M1.out.step hs1 hc1 hf1)
  clear M1 hs1 hc1 hf1
  go_wp2_with fail
  refine (put_lit M2.out.set ⟨3, 5, 0⟩ 0 [⟨1, 2, 0⟩, ⟨2, 5, 0⟩, ⟨3, 5, 0⟩] (by decide) (by decide)).mono ?_
  rintro e W3 ⟨rfl, v3, hs1, hc1, hf1⟩
  have M3 := Lib.hid (M2.out.step hs1 hc1 hf1)
  clear M2 hs1 hc1 hf1
  go_wp2_with fail
  refine (put_lit M3.out.set ⟨4, 0, 0⟩ 1 [⟨1, 2, 0⟩, ⟨2, 5, 0⟩, ⟨3, 5, 0⟩] (by decide) (by decide)).mono ?_
  rintro e W4 ⟨rfl, v4, hs1, hc1, hf1⟩
  have M4 := Lib.hid (M3.out.step hs1 hc1 hf1)
  clear M3 hs1 hc1 hf1
  go_wp2_with fail
  refine (take_lit M4.out.set 5 0 0 0 0 false [⟨1, 2, 0⟩, ⟨2, 5, 0⟩, ⟨3, 5, 0⟩] (by decide) (by decide) (by decide) (by decide) (by decide)).mono ?_
  rintro e W5 ⟨rfl, v5, hs1, hc1, hf1⟩
  have M5 := Lib.hid (M4.out.step hs1 hc1 hf1)
  clear M4 hs1 hc1 hf1
  go_wp2_with fail
  refine (take_lit (M5.out.alloc _).set 4 3 3 5 0 true [⟨1, 2, 0⟩, ⟨2, 5, 0⟩] (by decide) (by decide) (by decide) (by decide) (by decide)).mono ?_
  rintro e W6 ⟨rfl, v6, hs1, hc1, hf1⟩
  have M6 := Lib.hid ((M5.out.alloc _).step hs1 hc1 hf1)
  clear M5 hs1 hc1 hf1
  go_wp2_with fail
  have B6 := Beside.new M6.out.set (.cells #[.int .i64 3, .int .i64 5, .int .i64 0] 30)
  generalize hb6 : W6.heap.size = b6 at *
  have M6' := Lib.hid (M6.out.alloc (.cells #[.int .i64 3, .int .i64 5, .int .i64 0] 30))
  generalize W6.alloc (Obj.cells #[.int .i64 3, .int .i64 5, .int .i64 0] 30) = W6' at *
  clear hb6
  refine (take_lit M6'.out.set 0 (-1) 2 5 0 true [⟨1, 2, 0⟩] (by decide) (by decide) (by decide) (by decide) (by decide)).mono ?_
  rintro e W7 ⟨rfl, v7, hs1, hc1, hf1⟩
  have M7 := Lib.hid (M6'.out.step hs1 hc1 hf1)
  have B7 := Lib.hid (B6.step hc1 hf1)
  clear M6 M6' B6 hs1 hc1 hf1
  obtain ⟨x0, x1, x2, _, _, _⟩ := box3 B7.out.1
  have hlt := block_lt_of_cell x0
  go_wp2_with fail
  have M8 := Lib.hid (M7.out.alloc (.cells #[.int .i64 2, .int .i64 5, .int .i64 0] 30))
  generalize W7.alloc (Obj.cells #[.int .i64 2, .int .i64 5, .int .i64 0] 30) = W8 at *
  refine (Best_calls W8 p _ _ M8.out.set (by decide)).mono ?_
  rintro e W9 ⟨rfl, hc1⟩
  have M9 := Lib.hid (M8.out.quiet hc1)
  clear hc1
  rw [show (bestOf [⟨1, 2, 0⟩]).2 = 2 from by decide]
  go_wp2_with fail
  refine (all_calls W9 p _ _ M9.out.set (by decide)).mono ?_
  rintro e W10 ⟨A, c, rfl, _, hc1, _⟩
  have M10 := Lib.hid (M9.out.quiet hc1)
  clear hc1
  simp only [List.length_cons, List.length_nil]
  go_wp2_with fail
  refine (copy_calls W10 p _ _ M10.out.set (by decide)).mono ?_
  rintro e W11 ⟨p', v', rfl, _, hc1, _⟩
  have M11 := Lib.hid (M10.out.quiet hc1)
  clear hc1
  go_wp2_with fail
  go_ret
  exact ⟨rfl, M11.out.chg⟩
end Go.Proofs.Ytocbahciffickaa

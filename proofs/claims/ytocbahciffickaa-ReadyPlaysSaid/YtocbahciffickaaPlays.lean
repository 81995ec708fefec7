import Derived.Test.YtocbahciffickaaKnown
import Derived.Test.YtocbahciffickaaRtakew
namespace Go.Proofs.Ytocbahciffickaa
open Go.RowKit

/-- A call of the script, as six numbers. -/
structure O where
  kind : Int
  j : J
  a : Int
  b : Int
/-- Place c of the script, as it stands in memory. -/
def OpAt (W : World) (b off c : Nat) (o : O) : Prop :=
  W.cell? ⟨b, off + c * 6, none⟩ = some (.int .i64 o.kind) ∧ W.cell? ⟨b, off + c * 6 + 1, none⟩ = some (.int .i64 o.j.t) ∧ W.cell? ⟨b, off + c * 6 + 2, none⟩ = some (.int .i64 o.j.p) ∧
  W.cell? ⟨b, off + c * 6 + 3, none⟩ = some (.int .i64 o.j.n) ∧ W.cell? ⟨b, off + c * 6 + 4, none⟩ = some (.int .i64 o.a) ∧ W.cell? ⟨b, off + c * 6 + 5, none⟩ = some (.int .i64 o.b)
theorem OpAt.keep {W W' : World} {b off c : Nat} {o : O} (h : OpAt W b off c o) (hc : Chg (fun _ => False) W W') : OpAt W' b off c o := by
  have hk : ∀ a u, W.cell? a = some u → W'.cell? a = some u := fun a u hu => (hc.none_below.cell (World.block_lt_of_cell? W a hu)).trans hu
  exact ⟨hk _ _ h.1, hk _ _ h.2.1, hk _ _ h.2.2.1, hk _ _ h.2.2.2.1, hk _ _ h.2.2.2.2.1, hk _ _ h.2.2.2.2.2⟩

/-- The box of a call: its job's cells. -/
theorem box6 {W : World} {g : Nat} {a b c d e f : Value} {T : TypeId} (h : W.heap[g]? = some (.cells #[a, b, c, d, e, f] T (0, 0))) :
    W.cell? ⟨g, 1, none⟩ = some b ∧ W.cell? ⟨g, 2, none⟩ = some c ∧ W.cell? ⟨g, 3, none⟩ = some d ∧ W.cell? ⟨g, 4, none⟩ = some e ∧ W.cell? ⟨g, 5, none⟩ = some f :=
  ⟨by rw [cell_of_row W g 1 _ _ _ h]; rfl, by rw [cell_of_row W g 2 _ _ _ h]; rfl, by rw [cell_of_row W g 3 _ _ _ h]; rfl, by rw [cell_of_row W g 4 _ _ _ h]; rfl, by rw [cell_of_row W g 5 _ _ _ h]; rfl⟩
/-- The other set, behind a call that turns the one. -/
theorem Mine.other {T E T' E' : TypeId} {w W W' : World} {p p' : Nat} {v v' v'' : Value} {xs ys zs : List J} (h : Mine T E w W p v xs) (h' : Mine T' E' w W p' v' ys) (hs : SetAt T E W' p v'' zs) (hc : Chg (fun k => k = p ∨ v.ownBlock = some k) W W') (hf : ∀ k, v''.ownBlock = some k → v.ownBlock = some k ∨ W.heap.size ≤ k)
    (h1 : T ≠ T') (h2 : E ≠ E') (h3 : T ≠ E') (h4 : E ≠ T') : Mine T' E' w W' p' v' ys :=
  ⟨beside_set h.set h'.set hc h1 h2 h3 h4, (h.step hs hc hf).chg, h'.new, h'.own⟩
theorem Mine.drew {T E : TypeId} {w W : World} {p : Nat} {v : Value} {xs : List J} (h : Mine T E w W p v xs) : Mine T E w W.drew p v xs := h.quiet ((Chg.refl _ _).drew)

theorem Beside.drew {W : World} {p : Nat} {v : Value} {b : Nat} {o : Obj} (h : Beside W p v b o) : Beside W.drew p v b o := h

theorem blk_step {W W' : World} {p : Nat} {v : Value} {b : Nat} {o : Obj} (h : W.heap[b]? = some o) (hc : Chg (fun k => k = p ∨ v.ownBlock = some k) W W') (h1 : b ≠ p ∧ ¬ v.ownBlock = some b) : W'.heap[b]? = some o :=
  (hc.block b (Array.getElem?_eq_some_iff.1 h).1 (fun e => e.elim h1.1 h1.2)).trans h
theorem blk_quiet {W W' : World} {b : Nat} {o : Obj} (h : W.heap[b]? = some o) (hc : Chg (fun _ => False) W W') : W'.heap[b]? = some o :=
  (hc.block b (Array.getElem?_eq_some_iff.1 h).1 (fun f => f)).trans h

theorem same_eq (w : World) (A B : Option Addr) (c d : Nat) (xs : List J) (h : Own w 36 3 (.slice A xs.length c) xs.length (jcs xs)) (h' : Own w 36 3 (.slice B xs.length d) xs.length (jcs xs)) (hl : xs.length ≤ 10000) :
    Calls Try.prog 12 #[.slice A xs.length c, .slice B xs.length d] w (OnlyBool true w) := by
  simpa using same_calls w A B c d xs xs h h' hl hl
theorem putL_len (xs : List J) (j : J) : (putL xs j).length ≤ xs.length + 1 := by
  unfold putL
  split
  · omega
  · split <;> simp
theorem putL_pos (xs : List J) (j : J) (h : ∀ x ∈ xs, 1 ≤ x.p) : ∀ x ∈ putL xs j, 1 ≤ x.p := by
  unfold putL
  split
  · exact h
  · split
    · exact h
    · intro x hx
      rcases List.mem_append.1 hx with hx | hx
      · exact h x hx
      · simp at hx
        subst hx
        omega

def RTakeLit (W : World) (p : Nat) (v : Value) (x y z : Int) (b : Bool) (ys : List J) (e : Ending) (W' : World) : Prop :=
  e = .returned (.tuple #[.agg #[.int .i64 x, .int .i64 y, .int .i64 z], .bool b]) ∧ ∃ v', SetAt 28 36 W' p v' ys ∧ Chg (fun k => k = p ∨ v.ownBlock = some k) W W' ∧ (∀ k, v'.ownBlock = some k → v.ownBlock = some k ∨ W.heap.size ≤ k)
theorem rtake_lit {W : World} {p : Nat} {v : Value} {xs : List J} (h : SetAt 28 36 W p v xs) (above pick : Int) (x y z : Int) (b : Bool) (ys : List J) (hl : xs.length ≤ 10000) (hj : takeJ xs above pick = ⟨x, y, z⟩) (hb : takeB xs above = b) (hy : takeL xs above pick = ys) :
    Calls Try.prog 10 #[.pointer (some ⟨p, 0, none⟩), .int .i64 above, .int .i64 pick] W (RTakeLit W p v x y z b ys) := by
  have hc := rtake_calls W p v xs above pick h hl
  unfold TakePost at hc
  rw [hj, hb, hy] at hc
  exact hc
theorem one_lit (w : World) (x y z : Int) : Calls Try.prog 8 #[.agg #[.int .i64 x, .int .i64 y, .int .i64 z]] w (Makes (.agg #[.int .i64 x, .int .i64 y, .int .i64 z]) w) := one_calls w ⟨x, y, z⟩
theorem takeL_sub (xs : List J) (a k : Int) : (takeL xs a k).length ≤ xs.length ∧ ∀ j ∈ takeL xs a k, j ∈ xs := by
  unfold takeL
  split
  · exact ⟨Nat.le_refl _, fun j h => h⟩
  · exact ⟨List.length_eraseIdx_le _ _, fun j h => List.mem_of_mem_eraseIdx h⟩

/-- A copy stays as it is while the elder set is written. -/
theorem copy_stays {w W0 W W' : World} {p p' : Nat} {v v' : Value} {xs ys : List J} (h0 : SetAt 53 30 W0 p v xs) (h : Mine 53 30 w W p' v' ys) (hp : W0.heap.size ≤ p') (hv : ∀ k, v'.ownBlock = some k → W0.heap.size ≤ k) (hw : Chg (fun _ => False) w W') (hc : Chg (fun k => k = p ∨ v.ownBlock = some k) W W') : Mine 53 30 w W' p' v' ys := by
  refine ⟨h.set.keep hc ?_ ?_, hw, h.new, h.own⟩
  · rintro (e | e)
    · have := h0.lt; omega
    · have := h0.2.lt _ e; omega
  · rintro k hk (e | e)
    · have := h0.lt; have := hv k hk; omega
    · have := h0.2.lt _ e; have := hv k hk; omega

/-- What holds at the head of each round. -/
def PlayRel (W : World) (n r : Nat) (s i : Value) (wr : World) : Prop :=
  ∃ (c p : Nat) (v v2 : Value) (xs : List J), c ≤ n ∧ c ≤ 100 ∧ i = .int .i64 c ∧ s = .pointer (some ⟨p, 0, none⟩) ∧ Mine 53 30 W wr p v xs ∧ Mine 28 36 W wr r v2 xs ∧ xs.length ≤ c ∧ (∀ j ∈ xs, 1 ≤ j.p)

set_option maxRecDepth 100000 in
set_option maxHeartbeats 1000000 in
theorem plays_some (W : World) (b off n cap : Nat) (hn : n ≤ 9223372036854775807) (hops : ∀ c, c < n → ∃ o, OpAt W b off c o) :
    Calls Try.prog 3 #[.slice (some ⟨b, off, none⟩) n cap] W (OnlyBool true W) := by
  have HO := Lib.hid hops
  clear hops
  go_enter Try.func3, Try.ntmps3
  go_wp2_with (go_at_call 5; refine (new_calls _).mono ?_; rintro e w' ⟨rfl, rfl⟩)
  have m1 : Mine 53 30 W ((W.alloc (.cells #[.slice none 0 0] 53)).alloc (.cells #[.slice none 0 0] 28)) W.heap.size (.slice none 0 0) [] :=
    Mine.alloc ⟨set_new 53 30 W, (Chg.refl _ W).alloc _, Nat.le_refl _, by simp [Value.ownBlock]⟩ _
  have m2 : Mine 28 36 W ((W.alloc (.cells #[.slice none 0 0] 53)).alloc (.cells #[.slice none 0 0] 28)) (W.heap.size + 1) (.slice none 0 0) [] :=
    ⟨by have h := set_new 28 36 (W.alloc (.cells #[.slice none 0 0] 53)); rw [World.size_alloc] at h; exact h, ((Chg.refl _ W).alloc _).alloc _, by omega, by simp [Value.ownBlock]⟩
  have M1 := Lib.hid m1
  have M2 := Lib.hid m2
  clear m1 m2
  go_loopw [3, 5] (PlayRel W n (W.heap.size + 1)) (fun _ i _ => n - (intOf i).toNat)
  case atStart => exact ⟨0, _, _, _, [], by omega, by omega, rfl, rfl, M1.out, M2.out, by simp, by simp⟩
  case round =>
    obtain ⟨c, p, v, v2, xs, hcn, hc100, rfl, rfl, m1, m2, hlen, hxp⟩ := hrel
    clear M1 M2
    have hr2 : W.heap.size + 1 < wr.heap.size := m2.set.lt
    have hp2 : p < wr.heap.size := m1.set.lt
    have M1 := Lib.hid m1
    have M2 := Lib.hid m2
    have HX := Lib.hid hxp
    clear m1 m2 hxp
    by_cases hlt : c < n
    · by_cases hlt2 : c < 100
      · obtain ⟨o, ho⟩ := HO.out c hlt
        obtain ⟨c0, c1, c2, c3, c4, c5⟩ := ho.keep M1.out.chg
        clear ho
        by_cases hk0 : o.kind = 0
        · have hb : (o.kind == 0) = true := by simp [hk0]
          clear hk0
          go_wp2_with fail
          have B0 := Lib.hid (Beside.new M1.out.set (.cells #[.int .i64 o.kind, .int .i64 o.j.t, .int .i64 o.j.p, .int .i64 o.j.n, .int .i64 o.a, .int .i64 o.b] 32)).drew
          obtain ⟨s1, s2, s3, _, _⟩ := box6 (W := (wr.alloc (.cells #[.int .i64 o.kind, .int .i64 o.j.t, .int .i64 o.j.p, .int .i64 o.j.n, .int .i64 o.a, .int .i64 o.b] 32)).drew) B0.out.1
          have N1 := Lib.hid ((M1.out.alloc (.cells #[.int .i64 o.kind, .int .i64 o.j.t, .int .i64 o.j.p, .int .i64 o.j.n, .int .i64 o.a, .int .i64 o.b] 32)).drew)
          have N2 := Lib.hid ((M2.out.alloc (.cells #[.int .i64 o.kind, .int .i64 o.j.t, .int .i64 o.j.p, .int .i64 o.j.n, .int .i64 o.a, .int .i64 o.b] 32)).drew)
          have B2 := Lib.hid (Beside.new M2.out.set (.cells #[.int .i64 o.kind, .int .i64 o.j.t, .int .i64 o.j.p, .int .i64 o.j.n, .int .i64 o.a, .int .i64 o.b] 32)).drew
          go_region_held3 (fun w' => w'.cell? ⟨wr.heap.size, 1, none⟩ = some (.int .i64 o.j.t) ∧ w'.cell? ⟨wr.heap.size, 2, none⟩ = some (.int .i64 o.j.p) ∧ w'.cell? ⟨wr.heap.size, 3, none⟩ = some (.int .i64 o.j.n)) (refine ⟨?_, ?_, ?_⟩ <;> assumption)
            (first
              | (go_at_call 6; refine (put_calls _ p v xs o.j N1.out.set).mono ?_; rintro e w1 ⟨rfl, v1, hs1, hc1, hf1⟩; have P1 := Lib.hid (N1.out.step hs1 hc1 hf1); have P2 := Lib.hid (N1.out.other N2.out hs1 hc1 hf1 (by decide) (by decide) (by decide) (by decide)); have X1 := Lib.hid (blk_step B0.out.1 hc1 B0.out.2); obtain ⟨_, _, _, _, _⟩ := box6 X1.out; clear hs1 hc1 hf1)
              | (go_at_call 8; refine (one_calls _ o.j).mono ?_; rintro e w2 ⟨rfl, hc2⟩; have Q1 := Lib.hid (P1.out.quiet hc2); have Q2 := Lib.hid (P2.out.quiet hc2); have X2 := Lib.hid (blk_quiet X1.out hc2); obtain ⟨_, _, _, _, _⟩ := box6 X2.out; clear hc2)
              | (go_at_call 7; refine (rput_calls _ _ v2 xs o.j Q2.out.set).mono ?_; rintro e w3 ⟨rfl, v3, hs3, hc3, hf3⟩; have R2 := Lib.hid (Q2.out.step hs3 hc3 hf3); have R1 := Lib.hid (Q2.out.other Q1.out hs3 hc3 hf3 (by decide) (by decide) (by decide) (by decide)); have X3 := Lib.hid (blk_step X2.out hc3 B2.out.2); obtain ⟨_, _, _, _, _⟩ := box6 X3.out; clear hs3 hc3 hf3))
          go_wp2_with fail
          have T1 := Lib.hid (R1.out.drew)
          have T2 := Lib.hid (R2.out.drew)
          have HYS := Lib.hid ((show (putL xs o.j).length ≤ c + 1 from Nat.le_trans (putL_len xs o.j) (by omega)))
          have HYP := Lib.hid (putL_pos xs o.j HX.out)
          clear c0 c1 c2 c3 c4 c5 s1 s2 s3
          obtain ⟨Ar, cr, hvr⟩ := T2.out.set.slice
          subst hvr
          generalize putL xs o.j = ys at *
          have hys := HYS.out
          have _k0 := T2.out.set.cell
          go_region_held3 (fun w' => w'.cell? ⟨W.heap.size + 1, 0, none⟩ = some (.slice Ar ys.length cr)) (assumption)
            (first
              | (go_at_call 14; refine (all_calls _ _ _ ys T1.out.set (by omega)).mono ?_; rintro e w4 ⟨A4, c4, rfl, ho4, hc4, _⟩; have U1 := Lib.hid (T1.out.quiet hc4); have U2 := Lib.hid (T2.out.quiet hc4); have O4 := Lib.hid ho4; have _k1 := U2.out.set.cell; clear ho4 hc4)
              | (go_at_call 13; refine (plain_calls _ A4 c4 ys O4.out (by omega)).mono ?_; rintro e w5 ⟨A5, c5, rfl, ho5, hc5, _⟩; have V1 := Lib.hid (U1.out.quiet hc5); have V2 := Lib.hid (U2.out.quiet hc5); have O5 := Lib.hid ho5; have _k2 := V2.out.set.cell; clear ho5 hc5)
              | (go_at_call 12; refine (same_eq _ A5 Ar c5 cr ys O5.out V2.out.set.2 (by omega)).mono ?_; rintro e w6 ⟨rfl, hc6⟩; have X1 := Lib.hid (V1.out.quiet hc6); have X2 := Lib.hid (V2.out.quiet hc6); have _k3 := X2.out.set.cell; clear hc6)
              | (go_at_call 15; refine (Best_calls _ _ _ ys X1.out.set (by omega)).mono ?_; rintro e w7 ⟨rfl, hc7⟩; have Y1 := Lib.hid (X1.out.quiet hc7); have Y2 := Lib.hid (X2.out.quiet hc7); have _k4 := Y2.out.set.cell; clear hc7)
              | (go_at_call 16; refine (rbest_calls _ _ _ ys Y2.out.set (by omega)).mono ?_; rintro e w8 ⟨rfl, rfl⟩))
          go_wp2_with fail
          go_roundw
          case rel => exact ⟨c + 1, _, _, _, ys, by omega, by omega, by go_num, rfl, Y1.out, Y2.out, hys, HYP.out⟩
          case measure => simp [intOf]; omega
        · have hb : (o.kind == 0) = false := by simp [hk0]
          clear hk0
          by_cases hk1 : o.kind = 1
          · have hb1 : (o.kind == 1) = true := by simp [hk1]
            clear hk1
            go_wp2_with fail
            have B0 := Lib.hid (Beside.new M1.out.set (.cells #[.int .i64 o.kind, .int .i64 o.j.t, .int .i64 o.j.p, .int .i64 o.j.n, .int .i64 o.a, .int .i64 o.b] 32))
            have B2 := Lib.hid (Beside.new M2.out.set (.cells #[.int .i64 o.kind, .int .i64 o.j.t, .int .i64 o.j.p, .int .i64 o.j.n, .int .i64 o.a, .int .i64 o.b] 32))
            have N1 := Lib.hid (M1.out.alloc (.cells #[.int .i64 o.kind, .int .i64 o.j.t, .int .i64 o.j.p, .int .i64 o.j.n, .int .i64 o.a, .int .i64 o.b] 32))
            have N2 := Lib.hid (M2.out.alloc (.cells #[.int .i64 o.kind, .int .i64 o.j.t, .int .i64 o.j.p, .int .i64 o.j.n, .int .i64 o.a, .int .i64 o.b] 32))
            obtain ⟨⟨x, y, z⟩, htj⟩ : ∃ tj, takeJ xs o.a o.b = tj := ⟨_, rfl⟩
            obtain ⟨tb, htb⟩ : ∃ tb, takeB xs o.a = tb := ⟨_, rfl⟩
            have TJ := Lib.hid htj
            have TB := Lib.hid htb
            clear htj htb
            refine (take_lit N1.out.set o.a o.b x y z tb (takeL xs o.a o.b) (by omega) HX.out TJ.out TB.out rfl).mono ?_
            rintro e w1 ⟨rfl, v1, hs1, hc1, hf1⟩
            have P1 := Lib.hid (N1.out.step hs1 hc1 hf1)
            have P2 := Lib.hid (N1.out.other N2.out hs1 hc1 hf1 (by decide) (by decide) (by decide) (by decide))
            have X1 := Lib.hid (blk_step B0.out.1 hc1 B0.out.2)
            obtain ⟨_, _, _, o4, o5⟩ := box6 X1.out
            have ob := block_lt_of_cell o4
            clear hs1 hc1 hf1
            go_wp2_with fail
            have C2 := Lib.hid (Beside.new P2.out.set (.cells #[.int .i64 x, .int .i64 y, .int .i64 z] 30))
            refine (rtake_lit (P2.out.alloc (.cells #[.int .i64 x, .int .i64 y, .int .i64 z] 30)).set o.a o.b x y z tb (takeL xs o.a o.b) (by omega) TJ.out TB.out rfl).mono ?_
            rintro e w2 ⟨rfl, v3, hs3, hc3, hf3⟩
            have Q2 := Lib.hid ((P2.out.alloc _).step hs3 hc3 hf3)
            have Q1 := Lib.hid ((P2.out.alloc _).other (P1.out.alloc _) hs3 hc3 hf3 (by decide) (by decide) (by decide) (by decide))
            have X3 := Lib.hid (blk_step C2.out.1 hc3 C2.out.2)
            clear hs3 hc3 hf3
            have hne := neq_jobs ⟨x, y, z⟩ ⟨x, y, z⟩ false (by simp)
            have hgd := Try.eqg36
            dsimp only at hne
            go_wp2_with fail
            have R1 := Lib.hid ((Q1.out.alloc (.cells #[.int .i64 x, .int .i64 y, .int .i64 z] 36)).drew)
            have R2 := Lib.hid ((Q2.out.alloc (.cells #[.int .i64 x, .int .i64 y, .int .i64 z] 36)).drew)
            have X4 := Lib.hid ((Below.heap_alloc w2 (.cells #[.int .i64 x, .int .i64 y, .int .i64 z] 36) _ (Array.getElem?_eq_some_iff.1 X3.out).1).trans X3.out)
            have X5 := Lib.hid (heap_alloc_new w2 (.cells #[.int .i64 x, .int .i64 y, .int .i64 z] 36))
            obtain ⟨_, _, _, _, _, _⟩ := box3 (W := (w2.alloc (.cells #[.int .i64 x, .int .i64 y, .int .i64 z] 36)).drew) X4.out
            obtain ⟨_, _, _, _, _, _⟩ := box3 (W := (w2.alloc (.cells #[.int .i64 x, .int .i64 y, .int .i64 z] 36)).drew) X5.out
            go_region_held3 (fun w' => w'.cell? ⟨w1.heap.size, 0, none⟩ = some (.int .i64 x) ∧ w'.cell? ⟨w1.heap.size, 1, none⟩ = some (.int .i64 y) ∧ w'.cell? ⟨w1.heap.size, 2, none⟩ = some (.int .i64 z) ∧ w'.cell? ⟨w2.heap.size, 0, none⟩ = some (.int .i64 x) ∧ w'.cell? ⟨w2.heap.size, 1, none⟩ = some (.int .i64 y) ∧ w'.cell? ⟨w2.heap.size, 2, none⟩ = some (.int .i64 z)) (refine ⟨?_, ?_, ?_, ?_, ?_, ?_⟩ <;> assumption)
              ((go_at_call 8; refine (one_lit _ x y z).mono ?_; rintro e w3 ⟨rfl, hc2⟩; have S1 := Lib.hid (R1.out.quiet hc2); have S2 := Lib.hid (R2.out.quiet hc2); obtain ⟨_, _, _, _, _, _⟩ := box3 (blk_quiet (W := (w2.alloc (.cells #[.int .i64 x, .int .i64 y, .int .i64 z] 36)).drew) X4.out hc2); obtain ⟨_, _, _, _, _, _⟩ := box3 (blk_quiet (W := (w2.alloc (.cells #[.int .i64 x, .int .i64 y, .int .i64 z] 36)).drew) X5.out hc2); clear hc2))
            go_wp2_with fail
            have T1 := Lib.hid (S1.out.drew)
            have T2 := Lib.hid (S2.out.drew)
            have HYS := Lib.hid ((show (takeL xs o.a o.b).length ≤ c + 1 from Nat.le_trans (takeL_sub xs o.a o.b).1 (by omega)))
            have HYP := Lib.hid ((fun j hj => HX.out j ((takeL_sub xs o.a o.b).2 j hj)))
            clear c0 c1 c2 c3 c4 c5 o4 o5
            obtain ⟨Ar, cr, hvr⟩ := T2.out.set.slice
            subst hvr
            generalize takeL xs o.a o.b = ys at *
            have hys := HYS.out
            have _k0 := T2.out.set.cell
            go_region_held3 (fun w' => w'.cell? ⟨W.heap.size + 1, 0, none⟩ = some (.slice Ar ys.length cr)) (assumption)
              (first
                | (go_at_call 14; refine (all_calls _ _ _ ys T1.out.set (by omega)).mono ?_; rintro e w4 ⟨A4, c4, rfl, ho4, hc4, _⟩; have U1 := Lib.hid (T1.out.quiet hc4); have U2 := Lib.hid (T2.out.quiet hc4); have O4 := Lib.hid ho4; have _k1 := U2.out.set.cell; clear ho4 hc4)
                | (go_at_call 13; refine (plain_calls _ A4 c4 ys O4.out (by omega)).mono ?_; rintro e w5 ⟨A5, c5, rfl, ho5, hc5, _⟩; have V1 := Lib.hid (U1.out.quiet hc5); have V2 := Lib.hid (U2.out.quiet hc5); have O5 := Lib.hid ho5; have _k2 := V2.out.set.cell; clear ho5 hc5)
                | (go_at_call 12; refine (same_eq _ A5 Ar c5 cr ys O5.out V2.out.set.2 (by omega)).mono ?_; rintro e w6 ⟨rfl, hc6⟩; have X1 := Lib.hid (V1.out.quiet hc6); have X2 := Lib.hid (V2.out.quiet hc6); have _k3 := X2.out.set.cell; clear hc6)
                | (go_at_call 15; refine (Best_calls _ _ _ ys X1.out.set (by omega)).mono ?_; rintro e w7 ⟨rfl, hc7⟩; have Y1 := Lib.hid (X1.out.quiet hc7); have Y2 := Lib.hid (X2.out.quiet hc7); have _k4 := Y2.out.set.cell; clear hc7)
                | (go_at_call 16; refine (rbest_calls _ _ _ ys Y2.out.set (by omega)).mono ?_; rintro e w8 ⟨rfl, rfl⟩))
            go_wp2_with fail
            go_roundw
            case rel => exact ⟨c + 1, _, _, _, ys, by omega, by omega, by go_num, rfl, Y1.out, Y2.out, hys, HYP.out⟩
            case measure => simp [intOf]; omega
          · have hb1 : (o.kind == 1) = false := by simp [hk1]
            clear hk1
            go_wp2_with fail
            have N1 := Lib.hid (M1.out.alloc (.cells #[.int .i64 o.kind, .int .i64 o.j.t, .int .i64 o.j.p, .int .i64 o.j.n, .int .i64 o.a, .int .i64 o.b] 32))
            have N2 := Lib.hid (M2.out.alloc (.cells #[.int .i64 o.kind, .int .i64 o.j.t, .int .i64 o.j.p, .int .i64 o.j.n, .int .i64 o.a, .int .i64 o.b] 32))
            refine (copy_calls _ p v xs N1.out.set (by omega)).mono ?_
            rintro e w1 ⟨p', v', rfl, hs1, hc1, hp1, hv1⟩
            have HC := Lib.hid (show Mine 53 30 W w1 p' v' xs from ⟨hs1, N1.out.chg.trans hc1, by have := N1.out.chg.size; omega, fun k hk => by have := N1.out.chg.size; have := hv1 k hk; omega⟩)
            have P1 := Lib.hid (N1.out.quiet hc1)
            have P2 := Lib.hid (N2.out.quiet hc1)
            have HP1 := Lib.hid hp1
            have HV1 := Lib.hid hv1
            clear hs1 hc1 hp1 hv1
            go_wp2_with fail
            refine (put_calls _ p v xs ⟨0, 1, 0⟩ P1.out.set).mono ?_
            rintro e w2 ⟨rfl, v3, hs3, hc3, hf3⟩
            have S2 := Lib.hid (P1.out.other P2.out hs3 hc3 hf3 (by decide) (by decide) (by decide) (by decide))
            have S1 := Lib.hid (copy_stays N1.out.set HC.out HP1.out HV1.out S2.out.chg hc3)
            clear hs3 hc3 hf3
            go_wp2_with fail
            have T1 := Lib.hid (S1.out.drew)
            have T2 := Lib.hid (S2.out.drew)
            have HYS := Lib.hid ((show xs.length ≤ c + 1 by omega))
            have HYP := Lib.hid (HX.out)
            clear c0 c1 c2 c3 c4 c5
            obtain ⟨Ar, cr, hvr⟩ := T2.out.set.slice
            subst hvr
            generalize xs = ys at *
            have hys := HYS.out
            have _k0 := T2.out.set.cell
            go_region_held3 (fun w' => w'.cell? ⟨W.heap.size + 1, 0, none⟩ = some (.slice Ar ys.length cr)) (assumption)
              (first
                | (go_at_call 14; refine (all_calls _ _ _ ys T1.out.set (by omega)).mono ?_; rintro e w4 ⟨A4, c4, rfl, ho4, hc4, _⟩; have U1 := Lib.hid (T1.out.quiet hc4); have U2 := Lib.hid (T2.out.quiet hc4); have O4 := Lib.hid ho4; have _k1 := U2.out.set.cell; clear ho4 hc4)
                | (go_at_call 13; refine (plain_calls _ A4 c4 ys O4.out (by omega)).mono ?_; rintro e w5 ⟨A5, c5, rfl, ho5, hc5, _⟩; have V1 := Lib.hid (U1.out.quiet hc5); have V2 := Lib.hid (U2.out.quiet hc5); have O5 := Lib.hid ho5; have _k2 := V2.out.set.cell; clear ho5 hc5)
                | (go_at_call 12; refine (same_eq _ A5 Ar c5 cr ys O5.out V2.out.set.2 (by omega)).mono ?_; rintro e w6 ⟨rfl, hc6⟩; have X1 := Lib.hid (V1.out.quiet hc6); have X2 := Lib.hid (V2.out.quiet hc6); have _k3 := X2.out.set.cell; clear hc6)
                | (go_at_call 15; refine (Best_calls _ _ _ ys X1.out.set (by omega)).mono ?_; rintro e w7 ⟨rfl, hc7⟩; have Y1 := Lib.hid (X1.out.quiet hc7); have Y2 := Lib.hid (X2.out.quiet hc7); have _k4 := Y2.out.set.cell; clear hc7)
                | (go_at_call 16; refine (rbest_calls _ _ _ ys Y2.out.set (by omega)).mono ?_; rintro e w8 ⟨rfl, rfl⟩))
            go_wp2_with fail
            go_roundw
            case rel => exact ⟨c + 1, _, _, _, ys, by omega, by omega, by go_num, rfl, Y1.out, Y2.out, hys, HYP.out⟩
            case measure => simp [intOf]; omega
      · go_wp2_with (go_at_call 17; refine (known_calls _).mono ?_; rintro e w1 ⟨rfl, hc1⟩)
        go_ret
        exact ⟨rfl, M1.out.chg.trans hc1⟩
    · go_wp2_with (go_at_call 17; refine (known_calls _).mono ?_; rintro e w1 ⟨rfl, hc1⟩)
      go_ret
      exact ⟨rfl, M1.out.chg.trans hc1⟩

set_option maxRecDepth 100000 in
set_option maxHeartbeats 1000000 in
theorem plays_nil (W : World) (A : Option Addr) (cap : Nat) :
    Calls Try.prog 3 #[.slice A 0 cap] W (OnlyBool true W) := by
  go_enter Try.func3, Try.ntmps3
  go_wp2_with (go_at_call 5; refine (new_calls _).mono ?_; rintro e w' ⟨rfl, rfl⟩)
  refine wp_loop_rounds 1 ?_
  rw [rounds_succ]
  go_wp2_with (go_at_call 17; refine (known_calls _).mono ?_; rintro e w1 ⟨rfl, hc1⟩)
  go_ret
  exact ⟨rfl, (((Chg.refl _ W).alloc _).alloc _).trans hc1⟩
end Go.Proofs.Ytocbahciffickaa

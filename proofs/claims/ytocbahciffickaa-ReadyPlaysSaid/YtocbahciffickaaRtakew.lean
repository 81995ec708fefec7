import Derived.Test.YtocbahciffickaaRtake
namespace Go.Proofs.Ytocbahciffickaa
open Go.RowKit

theorem rbest_q (w : World) (p : Nat) (v : Value) (xs : List J) (h : SetAt 28 36 w p v xs) (hl : xs.length ≤ 10000) (q : Int) (hq : best xs = q) :
    ∀ W, Chg (fun _ => False) w W → Calls Try.prog 16 #[.pointer (some ⟨p, 0, none⟩)] W (fun e w' => e = .returned (.int .i64 q) ∧ W = w') := fun W hk => by
  have hc := rbest_calls W p v xs (h.keep hk (fun f => f) (fun _ _ f => f)) hl
  rw [bestOf_eq] at hc
  rw [← hq]
  exact hc

set_option maxRecDepth 100000 in
set_option maxHeartbeats 400000 in
theorem rtake_not (w : World) (p : Nat) (v : Value) (xs : List J) (above pick : Int) (h : SetAt 28 36 w p v xs) (hl : xs.length ≤ 10000) (ha : best xs ≤ above ∨ best xs = 0) :
    Calls Try.prog 10 #[.pointer (some ⟨p, 0, none⟩), .int .i64 above, .int .i64 pick] w (TakePost 28 36 w p v xs above pick) := by
  obtain ⟨q, hq⟩ : ∃ q, best xs = q := ⟨_, rfl⟩
  have HC := Lib.hid (rbest_q w p v xs h hl q hq)
  rw [hq] at ha
  have H := Lib.hid h
  have Hq := Lib.hid hq
  clear h hq
  have fin : TakePost 28 36 w p v xs above pick (.returned (.tuple #[jv zeroJ, .bool false])) (w.alloc (Obj.cells #[Value.int IntKind.i64 0, Value.int IntKind.i64 0, Value.int IntKind.i64 0] 36)) := by
    have e : takeL xs above pick = xs := by simp [takeL, Hq.out, ha]
    refine ⟨by simp [takeJ, takeB, Hq.out, ha], v, ?_, (Chg.refl _ _).alloc _, fun _ h => .inl h⟩
    rw [e]
    exact H.out.alloc _
  have Fin := Lib.hid fin
  clear fin
  by_cases h1 : q ≤ above
  · clear ha
    go_enter Try.func10, Try.ntmps10
    go_wp2_with (go_at_call 16; refine (HC.out _ ((Chg.refl _ w).alloc _)).mono ?_; rintro e w' ⟨rfl, rfl⟩)
    exact bodyPost_ret (v := .tuple #[jv zeroJ, .bool false]) (by simp [results, Try.results10, go_sem, jv, zeroJ]) rfl Fin.out
  · have h2 : q = 0 := by omega
    subst h2
    clear ha
    go_enter Try.func10, Try.ntmps10
    go_wp2_with (go_at_call 16; refine (HC.out _ ((Chg.refl _ w).alloc _)).mono ?_; rintro e w' ⟨rfl, rfl⟩)
    exact bodyPost_ret (v := .tuple #[jv zeroJ, .bool false]) (by simp [results, Try.results10, go_sem, jv, zeroJ]) rfl Fin.out

/-- What holds at the head of each round of the second loop. -/
def RtRel (w : World) (xs : List J) (q : Int) (b : Nat) (R : List J × J) (sk so si : Value) (wr : World) : Prop :=
  ∃ (c : Nat) (k : Int) (out : List J) (got : J) (A : Option Addr) (ca : Nat), c ≤ xs.length ∧ si = .int .i64 c ∧ sk = .int .i64 k ∧ so = .slice A out.length ca ∧ Own wr 36 3 (.slice A out.length ca) out.length (jcs out) ∧ out.length ≤ c ∧
    wr.heap[b]? = some (.cells #[.int .i64 got.t, .int .i64 got.p, .int .i64 got.n] 36 (0, 0)) ∧ wr.heap[w.heap.size]? = some (.cells #[.int .i64 0, .int .i64 0, .int .i64 0] 36 (0, 0)) ∧
    Chg (fun _ => False) w wr ∧ (∀ y, (Value.slice A out.length ca).ownBlock = some y → b < y) ∧ -(c : Int) ≤ k ∧ k ≤ 10000 ∧ rtGo q (xs.drop c) k out got = R

theorem keep_blk {v : Value} {wr w' : World} {o o' : Obj} {b : Nat} (hc : Chg (fun k => v.ownBlock = some k) (wr.alloc o) w') (hb : wr.heap[b]? = some o') (hne : ∀ y, v.ownBlock = some y → b < y) : w'.heap[b]? = some o' := by
  have hlt : b < wr.heap.size := (Array.getElem?_eq_some_iff.1 hb).1
  rw [hc.block b (by rw [World.size_alloc]; omega) (fun e => Nat.lt_irrefl _ (hne b e)), Below.heap_alloc wr o b hlt]
  exact hb
theorem fresh_over {v v' : Value} {wr : World} {o : Obj} {b : Nat} (hb : b < wr.heap.size) (hne : ∀ y, v.ownBlock = some y → b < y) (hbl : v'.ownBlock = v.ownBlock ∨ v'.ownBlock = some (wr.alloc o).heap.size) : ∀ y, v'.ownBlock = some y → b < y := by
  intro y hy
  rcases hbl with hbl | hbl
  · exact hne y (hbl.symm.trans hy)
  · rw [hbl] at hy
    injection hy with hy
    rw [World.size_alloc] at hy
    omega
theorem set3_heap {W : World} {b : Nat} {x y z : Value} {T : TypeId} (h : W.heap[b]? = some (.cells #[x, y, z] T (0, 0))) (x' y' z' : Value) :
    (((W.setCell ⟨b, 0, none⟩ x').setCell ⟨b, 1, none⟩ y').setCell ⟨b, 2, none⟩ z').heap[b]? = some (.cells #[x', y', z'] T (0, 0)) := by
  rw [heap_setCell_same _ b 2 _ T z' (heap_setCell_same _ b 1 _ T y' (heap_setCell_same W b 0 _ T x' h))]
  rfl
theorem set3_far {W : World} {b k : Nat} (h : k ≠ b) (x' y' z' : Value) : (((W.setCell ⟨b, 0, none⟩ x').setCell ⟨b, 1, none⟩ y').setCell ⟨b, 2, none⟩ z').heap[k]? = W.heap[k]? := by
  rw [heap_setCell_other _ _ _ _ h, heap_setCell_other _ _ _ _ h, heap_setCell_other _ _ _ _ h]
/-- The round that takes one out. -/
theorem rt_got {w wr : World} {xs : List J} {q : Int} {b : Nat} {R : List J × J} {c : Nat} {k' : Int} {out : List J} {got x : J} {A : Option Addr} {ca : Nat}
    (hbw : b = w.heap.size + 1) (ho : Own wr 36 3 (.slice A out.length ca) out.length (jcs out)) (hoc : out.length ≤ c) (hc : c < xs.length)
    (h1 : wr.heap[b]? = some (.cells #[.int .i64 got.t, .int .i64 got.p, .int .i64 got.n] 36 (0, 0))) (h2 : wr.heap[w.heap.size]? = some (.cells #[.int .i64 0, .int .i64 0, .int .i64 0] 36 (0, 0)))
    (hch : Chg (fun _ => False) w wr) (hfr : ∀ y, (Value.slice A out.length ca).ownBlock = some y → b < y)
    (hk : -((c + 1 : Nat) : Int) ≤ k') (hk2 : k' ≤ 10000) (hgo : rtGo q (xs.drop (c + 1)) k' out x = R) {sk so si : Value} (e1 : si = .int .i64 ((c + 1 : Nat) : Int)) (e2 : sk = .int .i64 k') (e3 : so = .slice A out.length ca) :
    RtRel w xs q b R sk so si (((wr.setCell ⟨b, 0, none⟩ (.int .i64 x.t)).setCell ⟨b, 1, none⟩ (.int .i64 x.p)).setCell ⟨b, 2, none⟩ (.int .i64 x.n)) := by
  have hk : ∀ u o W1, Own W1 36 3 (.slice A out.length ca) out.length (jcs out) → Own (W1.setCell ⟨b, o, none⟩ u) 36 3 (.slice A out.length ca) out.length (jcs out) := fun u o W1 hw =>
    hw.setFar (fun y hy => by have := hfr y hy; show y ≠ b; omega) u
  refine ⟨c + 1, k', out, x, A, ca, by omega, e1, e2, e3, hk _ _ _ (hk _ _ _ (hk _ _ _ ho)), by omega, set3_heap h1 _ _ _, ?_, hch.set3 (by omega) _ _ _, hfr, by assumption, hk2, hgo⟩
  rw [set3_far (by omega)]
  exact h2

/-- A round that puts one job behind the others. -/
theorem rt_app {w wr w' : World} {xs : List J} {q : Int} {b : Nat} {R : List J × J} {c : Nat} {k' : Int} {out : List J} {got x : J} {A : Option Addr} {ca g cap : Nat} {o : Obj}
    (hbw : b = w.heap.size + 1) (ho : Own w' 36 3 (.slice (some ⟨g, 0, none⟩) (out.length + 1) cap) (out.length + 1) (jcs out ++ jc x)) (hoc : out.length ≤ c) (hc : c < xs.length)
    (h1 : wr.heap[b]? = some (.cells #[.int .i64 got.t, .int .i64 got.p, .int .i64 got.n] 36 (0, 0))) (h2 : wr.heap[w.heap.size]? = some (.cells #[.int .i64 0, .int .i64 0, .int .i64 0] 36 (0, 0)))
    (hch : Chg (fun _ => False) w wr) (hfr : ∀ y, (Value.slice A out.length ca).ownBlock = some y → b < y)
    (hchg : Chg (fun k => (Value.slice A out.length ca).ownBlock = some k) (wr.alloc o) w') (hbl : (Value.slice (some ⟨g, 0, none⟩) (out.length + 1) cap).ownBlock = (Value.slice A out.length ca).ownBlock ∨ (Value.slice (some ⟨g, 0, none⟩) (out.length + 1) cap).ownBlock = some (wr.alloc o).heap.size)
    (hk : -((c + 1 : Nat) : Int) ≤ k') (hk2 : k' ≤ 10000) (hgo : rtGo q (xs.drop (c + 1)) k' (out ++ [x]) got = R) {sk so si : Value} (e1 : si = .int .i64 ((c + 1 : Nat) : Int)) (e2 : sk = .int .i64 k') (e3 : so = .slice (some ⟨g, 0, none⟩) (out.length + 1) cap) :
    RtRel w xs q b R sk so si w' := by
  have hlt : b < wr.heap.size := (Array.getElem?_eq_some_iff.1 h1).1
  refine ⟨c + 1, k', out ++ [x], got, some ⟨g, 0, none⟩, cap, by omega, e1, e2, by rw [e3]; simp, ?_, by simp; omega, keep_blk hchg h1 hfr, keep_blk hchg h2 (fun y hy => by have := hfr y hy; omega), ?_, ?_, hk, hk2, hgo⟩
  · rw [jcs_append, jcs_one]
    simpa using ho
  · exact (hch.alloc o).comp hchg (fun y hy e => by have := hfr y e; omega)
  · simpa using fresh_over hlt hfr hbl

set_option maxRecDepth 100000 in
set_option maxHeartbeats 2000000 in
theorem rtake_some (w : World) (p : Nat) (v : Value) (xs : List J) (above pick : Int) (h : SetAt 28 36 w p v xs) (hl : xs.length ≤ 10000) (hn : best xs ≠ 0) (ha : ¬ best xs ≤ above) :
    Calls Try.prog 10 #[.pointer (some ⟨p, 0, none⟩), .int .i64 above, .int .i64 pick] w (TakePost 28 36 w p v xs above pick) := by
  have hpos := idxs_pos xs hn
  have hlen := idxs_len (best xs) xs 0
  obtain ⟨kk, i, j, hk, hk2, hk3, hi, hi2, hj⟩ := takeAt_get xs pick hn
  obtain ⟨gs, cs, rfl, hcs, hcm, _⟩ := h.2.form (by omega)
  obtain ⟨q, hq⟩ : ∃ q, best xs = q := ⟨_, rfl⟩
  have HC := Lib.hid (rbest_q w p _ xs h hl q hq)
  rw [hq] at ha hn
  rw [hq] at hpos hlen hk hk2 hk3
  have hrt := rtGo_at q xs kk i [] zeroJ j hk3 hj
  have H := Lib.hid h
  have Hq := Lib.hid hq
  have Hi := Lib.hid hi
  have Hj := Lib.hid hj
  have Hrt := Lib.hid hrt
  clear h hq hi hj hrt hk3
  obtain ⟨m, hm⟩ : ∃ m, (idxs q xs 0).length = m := ⟨_, rfl⟩
  rw [hm] at hpos hlen hk hk2
  have Hm := Lib.hid hm
  have Hk := Lib.hid hk
  clear hm hk
  have hc0 := H.out.cell
  have hf0 := H.out.frozen
  have hlt := H.out.lt
  have hq0 : (q == 0) = false := by simp [hn]
  have ha' : above < q := by omega
  clear hn ha
  have Hlen := Lib.hid hlen
  go_enter Try.func10, Try.ntmps10
  go_wp2_with (go_at_call 16; refine (HC.out _ ((Chg.refl _ w).alloc _)).mono ?_; rintro e w' ⟨rfl, rfl⟩)
  have hgs : gs < w.heap.size := H.out.2.lt gs rfl
  go_loop [9, 10] (fun s i => ∃ (c m1 : Nat), c ≤ xs.length ∧ i = .int .i64 c ∧ s = .int .i64 m1 ∧ m1 ≤ c ∧ Hid (m1 + (idxs q (xs.drop c) c).length = m)) (fun _ i => xs.length - (intOf i).toNat)
  case atStart => exact ⟨0, 0, by omega, rfl, rfl, by omega, by show 0 + _ = _; rw [Nat.zero_add]; exact Hm.out⟩
  case round =>
    obtain ⟨c, m1, hcx, rfl, rfl, hmc, Hmm⟩ := hrel
    by_cases hlt2 : c < xs.length
    · obtain ⟨x, hx⟩ : ∃ x, xs[c]? = some x := ⟨xs[c], List.getElem?_eq_getElem hlt2⟩
      obtain ⟨c0, c1, c2⟩ := H.out.2.job rfl hx
      have hst := idxs_drop (q := q) hx
      by_cases hxq : x.p = q
      · have hb : (x.p == q) = true := by simp [hxq]
        rw [if_pos hxq] at hst
        have Hst := Lib.hid hst
        clear hxq hst hx
        go_wp2_with fail
        go_round
        case rel => exact ⟨c + 1, m1 + 1, by omega, by go_num, by go_num, by omega, by have h1 := Hst.out; have h2 := Hmm.out; show _ = _; omega⟩
        case measure => simp [intOf]; omega
      · have hb : (x.p == q) = false := by simp [hxq]
        rw [if_neg hxq] at hst
        have Hst := Lib.hid hst
        clear hxq hst hx
        go_wp2_with fail
        go_round
        case rel => exact ⟨c + 1, m1, by omega, by go_num, rfl, by omega, by have h1 := Hst.out; have h2 := Hmm.out; show _ = _; omega⟩
        case measure => simp [intOf]; omega
    · have hk2' : xs.length ≤ c := by omega
      have hmm : m1 = m := by
        have h2 := Hmm.out
        rw [List.drop_eq_nil_of_le hk2'] at h2
        simpa [idxs] using h2
      clear Hmm
      subst hmm
      by_cases hs : 0 ≤ pick.tmod m1
      · have hr := tmod_up pick m1 kk hpos Hk.out hs
        clear hs
        go_wp2_with fail
        go_loopw [11, 12, 14] (RtRel w xs q (w.heap.size + 1) (xs.eraseIdx i, j)) (fun _ _ si _ => xs.length - (intOf si).toNat)
        case atStart =>
          exact ⟨0, kk, [], zeroJ, none, 0, by omega, rfl, rfl, rfl, Own.nil _ _ _, by simp, by exact heap_alloc2_new w _ _, by exact heap_alloc2_old w _ _, ((Chg.refl _ w).alloc _).alloc _, by simp [Value.ownBlock], by omega, by omega, by simpa using Hrt.out⟩
        case round =>
          obtain ⟨c', k', out, got, A, ca, hc', rfl, rfl, rfl, ho, hoc, hb1, hb2, hch, hfr, hk1, hk2', hgo⟩ := hrel
          have hset := H.out.keep hch (fun f => f) (fun _ _ f => f)
          have d0 := hset.cell
          have d1 := hset.frozen
          have hlt1 := hset.lt
          have Ho := Lib.hid ho
          have Hb1 := Lib.hid hb1
          have Hb2 := Lib.hid hb2
          have Hch := Lib.hid hch
          have Hfr := Lib.hid hfr
          have Hgo := Lib.hid hgo
          have Hset := Lib.hid hset
          clear ho hb1 hb2 hch hfr hgo hset hc0 hf0
          by_cases hlt3 : c' < xs.length
          · obtain ⟨x, hx⟩ : ∃ x, xs[c']? = some x := ⟨xs[c'], List.getElem?_eq_getElem hlt3⟩
            obtain ⟨c0, c1, c2⟩ := Hset.out.2.job rfl hx
            have hst := rtGo_step hx Hgo.out
            clear hx
            by_cases hxq : x.p = q
            · have hb : (x.p == q) = true := by simp [hxq]
              rw [if_pos hxq] at hst
              by_cases hk0 : k' - 1 = -1
              · have hb' : (k' - 1 == -1) = true := by simp [hk0]
                rw [if_pos hk0] at hst
                have Hst := Lib.hid hst
                obtain ⟨r0, r1, r2, g0, g1, g2⟩ := box3 Hb1.out
                clear hxq hst hk0
                go_wp2_with fail
                go_roundw
                case rel => exact rt_got rfl Ho.out hoc hlt3 Hb1.out Hb2.out Hch.out Hfr.out (by omega) (by omega) Hst.out (by go_num) rfl rfl
                case measure => simp [intOf]; omega
              · have hb' : (k' - 1 == -1) = false := by simp [hk0]
                rw [if_neg hk0] at hst
                have Hst := Lib.hid hst
                clear hxq hst hk0
                go_wp2_with (at_builtin; refine wpList_append_Own rfl (.tmp 84) (.tmp 92) 26 rfl 36 _ 3 24 Try.underlying26 Try.info36 rfl (by decide) (.slice A out.length ca) out.length (jcs out) rfl (by exact Ho.out.alloc _) (some ⟨wr.heap.size, 0, none⟩) 1 1 (jc x) rfl (by rfl) (news_box (heap_alloc_new _ _)) (jc_one x) (by omega) (by omega) ?_; intro v' w' ho hchg hbl hf; obtain ⟨g', cap', hv'⟩ := hf (by omega); subst hv'; have Hx := Lib.hid ho; have Hc := Lib.hid hchg; have Hb := Lib.hid hbl; clear ho hchg hbl hf)
                go_roundw
                case rel => exact rt_app rfl Hx.out hoc hlt3 Hb1.out Hb2.out Hch.out Hfr.out Hc.out Hb.out (by omega) (by omega) Hst.out (by go_num) rfl rfl
                case measure => simp [intOf]; omega
            · have hb : (x.p == q) = false := by simp [hxq]
              rw [if_neg hxq] at hst
              have Hst := Lib.hid hst
              clear hxq hst
              go_wp2_with (at_builtin; refine wpList_append_Own rfl (.tmp 84) (.tmp 92) 26 rfl 36 _ 3 24 Try.underlying26 Try.info36 rfl (by decide) (.slice A out.length ca) out.length (jcs out) rfl (by exact Ho.out.alloc _) (some ⟨wr.heap.size, 0, none⟩) 1 1 (jc x) rfl (by rfl) (news_box (heap_alloc_new _ _)) (jc_one x) (by omega) (by omega) ?_; intro v' w' ho hchg hbl hf; obtain ⟨g', cap', hv'⟩ := hf (by omega); subst hv'; have Hx := Lib.hid ho; have Hc := Lib.hid hchg; have Hb := Lib.hid hbl; clear ho hchg hbl hf)
              go_roundw
              case rel => exact rt_app rfl Hx.out hoc hlt3 Hb1.out Hb2.out Hch.out Hfr.out Hc.out Hb.out (by omega) (by omega) Hst.out (by go_num) rfl rfl
              case measure => simp [intOf]; omega
          · have hk3' : xs.length ≤ c' := by omega
            have hfin : out = xs.eraseIdx i ∧ got = j := by
              have h2 := Hgo.out
              rw [List.drop_eq_nil_of_le hk3'] at h2
              simpa [rtGo] using h2
            obtain ⟨r0, r1, r2, g0, g1, g2⟩ := box3 Hb1.out
            obtain ⟨s0, s1, s2, z0, z1, z2⟩ := box3 Hb2.out
            have HF := Lib.hid hfin
            clear hfin
            have hne1 : ¬ w.heap.size = p := by omega
            have hne2 : ¬ w.heap.size + 1 = p := by omega
            go_wp2_with fail
            refine bodyPost_ret (v := .tuple #[jv got, .bool true]) (by simp [results, Try.results10, go_sem, s0, s1, s2, z0, z1, z2, jv, hne1]) rfl ?_
            obtain ⟨e1, e2⟩ := HF.out
            refine take_end2 H.out (by decide) Hset.out.1 Ho.out rfl e1 Hch.out (fun y hy => by have := Hfr.out y hy; omega) (by rw [Hq.out]; simpa using hq0) (by rw [Hq.out]; omega) Hi.out Hj.out (by rw [e2]) Hb2.out (fun y hy => by have := Hfr.out y hy; omega) (Nat.le_refl _) _ _ _
      · have hr := tmod_down pick m1 kk Hk.out hs
        clear hs
        go_wp2_with fail
        go_loopw [11, 12, 14] (RtRel w xs q (w.heap.size + 1) (xs.eraseIdx i, j)) (fun _ _ si _ => xs.length - (intOf si).toNat)
        case atStart =>
          exact ⟨0, kk, [], zeroJ, none, 0, by omega, rfl, rfl, rfl, Own.nil _ _ _, by simp, by exact heap_alloc2_new w _ _, by exact heap_alloc2_old w _ _, ((Chg.refl _ w).alloc _).alloc _, by simp [Value.ownBlock], by omega, by omega, by simpa using Hrt.out⟩
        case round =>
          obtain ⟨c', k', out, got, A, ca, hc', rfl, rfl, rfl, ho, hoc, hb1, hb2, hch, hfr, hk1, hk2', hgo⟩ := hrel
          have hset := H.out.keep hch (fun f => f) (fun _ _ f => f)
          have d0 := hset.cell
          have d1 := hset.frozen
          have hlt1 := hset.lt
          have Ho := Lib.hid ho
          have Hb1 := Lib.hid hb1
          have Hb2 := Lib.hid hb2
          have Hch := Lib.hid hch
          have Hfr := Lib.hid hfr
          have Hgo := Lib.hid hgo
          have Hset := Lib.hid hset
          clear ho hb1 hb2 hch hfr hgo hset hc0 hf0
          by_cases hlt3 : c' < xs.length
          · obtain ⟨x, hx⟩ : ∃ x, xs[c']? = some x := ⟨xs[c'], List.getElem?_eq_getElem hlt3⟩
            obtain ⟨c0, c1, c2⟩ := Hset.out.2.job rfl hx
            have hst := rtGo_step hx Hgo.out
            clear hx
            by_cases hxq : x.p = q
            · have hb : (x.p == q) = true := by simp [hxq]
              rw [if_pos hxq] at hst
              by_cases hk0 : k' - 1 = -1
              · have hb' : (k' - 1 == -1) = true := by simp [hk0]
                rw [if_pos hk0] at hst
                have Hst := Lib.hid hst
                obtain ⟨r0, r1, r2, g0, g1, g2⟩ := box3 Hb1.out
                clear hxq hst hk0
                go_wp2_with fail
                go_roundw
                case rel => exact rt_got rfl Ho.out hoc hlt3 Hb1.out Hb2.out Hch.out Hfr.out (by omega) (by omega) Hst.out (by go_num) rfl rfl
                case measure => simp [intOf]; omega
              · have hb' : (k' - 1 == -1) = false := by simp [hk0]
                rw [if_neg hk0] at hst
                have Hst := Lib.hid hst
                clear hxq hst hk0
                go_wp2_with (at_builtin; refine wpList_append_Own rfl (.tmp 84) (.tmp 92) 26 rfl 36 _ 3 24 Try.underlying26 Try.info36 rfl (by decide) (.slice A out.length ca) out.length (jcs out) rfl (by exact Ho.out.alloc _) (some ⟨wr.heap.size, 0, none⟩) 1 1 (jc x) rfl (by rfl) (news_box (heap_alloc_new _ _)) (jc_one x) (by omega) (by omega) ?_; intro v' w' ho hchg hbl hf; obtain ⟨g', cap', hv'⟩ := hf (by omega); subst hv'; have Hx := Lib.hid ho; have Hc := Lib.hid hchg; have Hb := Lib.hid hbl; clear ho hchg hbl hf)
                go_roundw
                case rel => exact rt_app rfl Hx.out hoc hlt3 Hb1.out Hb2.out Hch.out Hfr.out Hc.out Hb.out (by omega) (by omega) Hst.out (by go_num) rfl rfl
                case measure => simp [intOf]; omega
            · have hb : (x.p == q) = false := by simp [hxq]
              rw [if_neg hxq] at hst
              have Hst := Lib.hid hst
              clear hxq hst
              go_wp2_with (at_builtin; refine wpList_append_Own rfl (.tmp 84) (.tmp 92) 26 rfl 36 _ 3 24 Try.underlying26 Try.info36 rfl (by decide) (.slice A out.length ca) out.length (jcs out) rfl (by exact Ho.out.alloc _) (some ⟨wr.heap.size, 0, none⟩) 1 1 (jc x) rfl (by rfl) (news_box (heap_alloc_new _ _)) (jc_one x) (by omega) (by omega) ?_; intro v' w' ho hchg hbl hf; obtain ⟨g', cap', hv'⟩ := hf (by omega); subst hv'; have Hx := Lib.hid ho; have Hc := Lib.hid hchg; have Hb := Lib.hid hbl; clear ho hchg hbl hf)
              go_roundw
              case rel => exact rt_app rfl Hx.out hoc hlt3 Hb1.out Hb2.out Hch.out Hfr.out Hc.out Hb.out (by omega) (by omega) Hst.out (by go_num) rfl rfl
              case measure => simp [intOf]; omega
          · have hk3' : xs.length ≤ c' := by omega
            have hfin : out = xs.eraseIdx i ∧ got = j := by
              have h2 := Hgo.out
              rw [List.drop_eq_nil_of_le hk3'] at h2
              simpa [rtGo] using h2
            obtain ⟨r0, r1, r2, g0, g1, g2⟩ := box3 Hb1.out
            obtain ⟨s0, s1, s2, z0, z1, z2⟩ := box3 Hb2.out
            have HF := Lib.hid hfin
            clear hfin
            have hne1 : ¬ w.heap.size = p := by omega
            have hne2 : ¬ w.heap.size + 1 = p := by omega
            go_wp2_with fail
            refine bodyPost_ret (v := .tuple #[jv got, .bool true]) (by simp [results, Try.results10, go_sem, s0, s1, s2, z0, z1, z2, jv, hne1]) rfl ?_
            obtain ⟨e1, e2⟩ := HF.out
            refine take_end2 H.out (by decide) Hset.out.1 Ho.out rfl e1 Hch.out (fun y hy => by have := Hfr.out y hy; omega) (by rw [Hq.out]; simpa using hq0) (by rw [Hq.out]; omega) Hi.out Hj.out (by rw [e2]) Hb2.out (fun y hy => by have := Hfr.out y hy; omega) (Nat.le_refl _) _ _ _

theorem rtake_calls (w : World) (p : Nat) (v : Value) (xs : List J) (above pick : Int) (h : SetAt 28 36 w p v xs) (hl : xs.length ≤ 10000) :
    Calls Try.prog 10 #[.pointer (some ⟨p, 0, none⟩), .int .i64 above, .int .i64 pick] w (TakePost 28 36 w p v xs above pick) := by
  by_cases ha : best xs ≤ above ∨ best xs = 0
  · exact rtake_not w p v xs above pick h hl ha
  · exact rtake_some w p v xs above pick h hl (by omega) (by omega)
end Go.Proofs.Ytocbahciffickaa

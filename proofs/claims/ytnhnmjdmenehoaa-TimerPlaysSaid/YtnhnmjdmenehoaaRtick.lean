import Derived.Test.YtnhnmjdmenehoaaRput
import Derived.StillTailTactics
namespace Go.Proofs.Ytnhnmjdmenehoaa
open Go.RowKit

/-! The document's Tick. -/
/-- What holds at the head of each round of its first loop. -/
def RefRel (W : World) (q : Nat) (va : Value) (ps : List Int) (now : Int) (n0 : Nat) (T : List (D × Int)) (picks : List Int) (kv iv : Value) (wr : World) : Prop :=
  ∃ (i k : Nat) (vl : Value) (Lk : List (D × Int)), i ≤ ps.length ∧ k ≤ picks.length ∧ iv = .int .i64 i ∧ kv = .int .i64 k ∧ RefAt wr q va vl ps now Lk ∧ insAll Lk (rels now (ps.drop i) i (picks.drop k)) = T ∧ Lk.length ≤ n0 + i ∧ Chg (fun j => j = q) W wr
def rst (now : Int) (T : List (D × Int)) (k : Nat) : List (D × Int) := (T.take k).filter (fun x => !decide (x.2 ≤ now))
/-- .. of its second loop. -/
def RefRel2 (W : World) (now : Int) (T : List (D × Int)) (ov rv iv : Value) (wr : World) : Prop :=
  ∃ (k : Nat) (A : Option Addr) (c : Nat) (B : Option Addr) (d : Nat), k ≤ T.length ∧ iv = .int .i64 k ∧ ov = .slice A (outs now T k).length c ∧ rv = .slice B (rst now T k).length d ∧
    Own wr 58 2 (.slice A (outs now T k).length c) (outs now T k).length (dcs (outs now T k)) ∧ Own wr 62 3 (.slice B (rst now T k).length d) (rst now T k).length (wcs (rst now T k)) ∧ Chg (fun _ => False) W wr ∧
    (∀ j, (Value.slice A (outs now T k).length c).ownBlock = some j → W.heap.size ≤ j) ∧ (∀ j, (Value.slice B (rst now T k).length d).ownBlock = some j → W.heap.size ≤ j)
/-- What it tells and leaves. -/
def RTickPost (W : World) (q : Nat) (va : Value) (ps : List Int) (now : Int) (tl : List D) (L' : List (D × Int)) (e : Ending) (w' : World) : Prop :=
  ∃ A c vl, e = .returned (.slice A tl.length c) ∧ Own w' 58 2 (.slice A tl.length c) tl.length (dcs tl) ∧ RefAt w' q va vl ps (now + 1) L' ∧ Chg (fun i => i = q) W w'

theorem rst_due {now : Int} {T : List (D × Int)} {k : Nat} {x : D × Int} (hx : T[k]? = some x) (h : x.2 ≤ now) : rst now T (k + 1) = rst now T k := by
  unfold rst; rw [take_one hx, List.filter_append]; simp [h]
theorem rst_not {now : Int} {T : List (D × Int)} {k : Nat} {x : D × Int} (hx : T[k]? = some x) (h : ¬ x.2 ≤ now) : rst now T (k + 1) = rst now T k ++ [x] := by
  unfold rst; rw [take_one hx, List.filter_append]; simp [h]
theorem rst_length (now : Int) (T : List (D × Int)) (k : Nat) : (rst now T k).length ≤ T.length := by
  unfold rst
  refine Nat.le_trans (List.length_filter_le _ _) ?_
  rw [List.length_take]; omega

theorem ref_step {W wr w2 : World} {q : Nat} {va vl2 : Value} {ps : List Int} {now x j v : Int} {n0 i k k' : Nat} {T Lk : List (D × Int)} {picks : List Int} {kv iv : Value}
    (hi : i < ps.length) (hd : ps.drop i = x :: ps.drop (i + 1)) (hmod : now % x = 0) (hg : insAll Lk (rels now (ps.drop i) i (picks.drop k)) = T) (hl : Lk.length ≤ n0 + i) (hc : Chg (fun j => j = q) W wr) (hk' : k' ≤ picks.length) (htl : (picks.drop k).tail = picks.drop k') (hj : j = jit (picks.drop k)) (hv : v = now + j)
    (hr : RefAt w2 q va vl2 ps now (ins (⟨(i : Int), now⟩, v) Lk)) (hc2 : Chg (fun j => j = q) wr w2) (hkv : kv = .int .i64 (k' : Int)) (hiv : iv = .int .i64 ((i + 1 : Nat) : Int)) : RefRel W q va ps now n0 T picks kv iv w2 := by
  refine ⟨i + 1, k', vl2, _, by omega, hk', hiv, hkv, hr, ?_, by rw [ins_length]; omega, hc.trans hc2⟩
  rw [← hg, hd, hv, hj]
  simp only [rels, hmod, if_true, insAll_cons, htl]

theorem ref2_due {W w2 : World} {now : Int} {T : List (D × Int)} {x : D × Int} {m : Nat} {A' B : Option Addr} {c' d : Nat} {iv : Value} (hx : T[m]? = some x) (hd : x.2 ≤ now) (hm : m < T.length)
    (ho2 : Own w2 58 2 (.slice A' ((outs now T m).length + 1) c') ((outs now T m).length + 1) (dcs (outs now T m) ++ [.int .i64 x.1.t, .int .i64 x.1.n]))
    (hr : Own w2 62 3 (.slice B (rst now T m).length d) (rst now T m).length (wcs (rst now T m))) (hg : Chg (fun _ => False) W w2 ∧ ∀ j, (Value.slice A' ((outs now T m).length + 1) c').ownBlock = some j → W.heap.size ≤ j)
    (hfr : ∀ j, (Value.slice B (rst now T m).length d).ownBlock = some j → W.heap.size ≤ j) (hiv : iv = .int .i64 ((m + 1 : Nat) : Int)) :
    RefRel2 W now T (.slice A' ((outs now T m).length + 1) c') (.slice B (rst now T m).length d) iv w2 := by
  have e := outs_due hx hd
  have e2 : (outs now T (m + 1)).length = (outs now T m).length + 1 := by rw [e]; simp
  have e3 := rst_due hx hd
  refine ⟨m + 1, A', c', B, d, by omega, hiv, by rw [e2], by rw [e3], ?_, by rw [e3]; exact hr, hg.1, by rw [e2]; exact hg.2, by rw [e3]; exact hfr⟩
  rw [e2, e, dcs_append]
  exact ho2
theorem ref2_not {W w2 : World} {now : Int} {T : List (D × Int)} {x : D × Int} {m : Nat} {A B' : Option Addr} {c d' : Nat} {iv : Value} (hx : T[m]? = some x) (hd : ¬ x.2 ≤ now) (hm : m < T.length)
    (ho : Own w2 58 2 (.slice A (outs now T m).length c) (outs now T m).length (dcs (outs now T m)))
    (hr2 : Own w2 62 3 (.slice B' ((rst now T m).length + 1) d') ((rst now T m).length + 1) (wcs (rst now T m) ++ [.int .i64 x.1.t, .int .i64 x.1.n, .int .i64 x.2])) (hg : Chg (fun _ => False) W w2 ∧ ∀ j, (Value.slice B' ((rst now T m).length + 1) d').ownBlock = some j → W.heap.size ≤ j)
    (hfo : ∀ j, (Value.slice A (outs now T m).length c).ownBlock = some j → W.heap.size ≤ j) (hiv : iv = .int .i64 ((m + 1 : Nat) : Int)) :
    RefRel2 W now T (.slice A (outs now T m).length c) (.slice B' ((rst now T m).length + 1) d') iv w2 := by
  have e := rst_not hx hd
  have e2 : (rst now T (m + 1)).length = (rst now T m).length + 1 := by rw [e]; simp
  have e3 := outs_not hx hd
  refine ⟨m + 1, A, c, B', d', by omega, hiv, by rw [e3], by rw [e2], by rw [e3]; exact ho, ?_, hg.1, by rw [e3]; exact hfo, by rw [e2]; exact hg.2⟩
  rw [e2, e, wcs_append, wcs_one]
  exact hr2
theorem rtick_end {W w1 w2 : World} {q m n : Nat} {va vl B v' : Value} {A : Option Addr} {c : Nat} {ps : List Int} {now : Int} {L L' : List (D × Int)} {tl : List D} (h : RefAt w1 q va vl ps now L) (hW : Chg (fun i => i = q) W w1) (hc : Chg (fun _ => False) w1 w2) (ho : Own w2 58 2 (.slice A m c) m (dcs tl)) (hm : m = tl.length)
    (hr : Own w2 62 3 B n (wcs L')) (hn : n = L'.length) (hf : ∀ k, B.ownBlock = some k → w1.heap.size ≤ k) (hv : v' = .slice A m c) : RTickPost W q va ps now tl L' (.returned v') ((w2.setCell ⟨q, 2, none⟩ B).setCell ⟨q, 1, none⟩ (.int .i64 (now + 1))) := by
  have h' := h.quiet hc
  have hq := (Array.getElem?_eq_some_iff.1 h.heap).1
  subst hm hn hv
  have f1 : ∀ k, va.ownBlock = some k → k ≠ q := fun k hk e => h'.per.ne_blk h'.heap (by decide) k hk e
  have f2 : ∀ k, B.ownBlock = some k → k ≠ q := fun k hk e => by have := hf k hk; omega
  have f3 : ∀ k, (Value.slice A tl.length c).ownBlock = some k → k ≠ q := fun k hk e => ho.ne_blk h'.heap (by decide) k hk e
  refine ⟨A, c, B, rfl, (ho.setFar f3 _).setFar f3 _, ⟨?_, (h'.per.setFar f1 _).setFar f1 _, (hr.setFar f2 _).setFar f2 _⟩, ?_⟩
  · exact heap_setCell_same _ q 1 _ 44 _ (heap_setCell_same w2 q 2 _ 44 B h'.heap)
  · exact ((hW.comp hc (fun _ _ f => f.elim)).setCell (p := ⟨q, 2, none⟩) (S := fun i => i = q) (fun _ => rfl) _).setCell (p := ⟨q, 1, none⟩) (S := fun i => i = q) (fun _ => rfl) _

set_option maxRecDepth 100000 in
set_option maxHeartbeats 4000000 in
theorem rtick_calls (w : World) (q : Nat) (va vl sv : Value) (ps : List Int) (now : Int) (L : List (D × Int)) (picks : List Int) (h : RefAt w q va vl ps now L) (hk : ∀ w', Chg (fun i => i = q) w w' → PickAt w' sv picks) (hg : Good ps) (hn : 0 ≤ now) (hn2 : now ≤ 1000000) (hN : Neat ps now L) (hl : L.length ≤ 4000) :
    Calls Try.prog 15 #[.pointer (some ⟨q, 0, none⟩), sv] w (RTickPost w q va ps now (told ps now L picks) (left ps now L picks)) := by
  have hTl : (lay ps now L picks).length ≤ 5000 := by have := hN.lay_length picks; have := hg.2.1; omega
  obtain ⟨T, hT⟩ : ∃ T, lay ps now L picks = T := ⟨_, rfl⟩
  have htold : told ps now L picks = outs now T T.length := by unfold told outs; rw [hT, List.take_length]
  have hleft : left ps now L picks = rst now T T.length := by unfold left rst; rw [hT, List.take_length]
  rw [htold, hleft]
  rw [hT] at hTl
  have HTT := Lib.hid (show insAll L (rels now ps 0 picks) = T from hT)
  obtain ⟨g1, g8, gp⟩ := hg
  obtain ⟨g, cap, rfl, hcap, hcap2, hgl⟩ := h.per.form (by omega)
  obtain ⟨A, c, rfl, hc1, hc2, _⟩ := hk w (Chg.refl _ _)
  have hpm : picks.length ≤ 9223372036854775807 := by simp only [maxLen] at hc2; omega
  have H := Lib.hid h
  have HK := Lib.hid hk
  have GP := Lib.hid gp
  clear h hk gp htold hleft hT hN
  go_enter Try.func15, Try.ntmps15
  go_wp2_with fail
  go_loopw [5, 6] (RefRel w q (.slice (some ⟨g, 0, none⟩) ps.length cap) ps now L.length T picks) (fun _ i _ => ps.length - (intOf i).toNat)
  case atStart => exact ⟨0, 0, vl, L, by omega, by omega, rfl, rfl, H.out, HTT.out, by omega, Chg.refl _ _⟩
  case round =>
    obtain ⟨i, k, vl1, Lk, hi, hkp, rfl, rfl, hr, hgg, hlk, hch⟩ := hrel
    obtain ⟨k0, k1, k2, q0, q1, q2, hplt⟩ := cells3 hr.heap
    have HR := Lib.hid hr
    have HG := Lib.hid hgg
    have HC := Lib.hid hch
    have HP := Lib.hid (HK.out wr hch)
    clear hr hgg hch
    by_cases hlt : i < ps.length
    · obtain ⟨x, hx⟩ : ∃ x, ps[i]? = some x := ⟨ps[i], List.getElem?_eq_getElem hlt⟩
      have hlt' : (i : Int) < (ps.length : Int) := by omega
      have hcx := HR.out.per.int rfl hx
      have hgl2 : g < wr.heap.size := HR.out.per.lt g rfl
      have hd := Lib.hid (drop_one hx)
      obtain ⟨hx1, hx2⟩ := GP.out x (List.mem_of_getElem? hx)
      clear hx
      have hx0 : (x == 0) = false := beq_eq_false_iff_ne.2 (by omega)
      by_cases hmod : now % x = 0
      · have htm : (now.tmod x == 0) = true := by rw [Int.tmod_eq_emod_of_nonneg hn]; simp [hmod]
        by_cases hkl : k < picks.length
        · have hkl' : (k : Int) < (picks.length : Int) := by omega
          obtain ⟨y, hy⟩ : ∃ y, picks[k]? = some y := ⟨picks[k], List.getElem?_eq_getElem hkl⟩
          obtain ⟨A', c', he, _, _, hrd⟩ := HP.out
          injection he with he1 _ he2
          subst he1; subst he2
          obtain ⟨ab, ao, rfl, hyc⟩ := reads_any hrd hy
          have hdy := Lib.hid (drop_one hy)
          clear hrd hy
          have i1 : IntKind.i64.wrap now = now := by rw [IntKind.wrap_i64]; omega
          have i2 : IntKind.i64.wrap (now + 0) = now := by rw [IntKind.wrap_i64]; omega
          have i3 : IntKind.i64.wrap (now + 1048576) = now + 1048576 := by rw [IntKind.wrap_i64]; omega
          rcases (by omega : y < 0 ∨ y = 0 ∨ (0 < y ∧ y < 1048576) ∨ y = 1048576 ∨ 1048576 < y) with hc | rfl | ⟨hc, hc'⟩ | rfl | hc
          all_goals (try have i4 : IntKind.i64.wrap (now + y) = now + y := by rw [IntKind.wrap_i64]; omega)
          all_goals go_wp2_with fail
          all_goals go_quiet (fail)
          all_goals go_wp2_with fail
          all_goals have HR2 := Lib.hid (HR.out.quiet ((Chg.refl _ wr).drewN nq).drew)
          all_goals
            refine wp_region_still_tail 14 (by kernel_rfl) (by kernel_rfl) ?_
            change wpStill _ _ (wr.drewN nq).drew (fun a' => wpList _ _ _ _ a' (wr.drewN nq).drew) _ _
            simp only [List.take_succ_cons, List.take_zero, List.drop_succ_cons, List.drop_zero]
            repeat still_step
            try refine wpStill_nil ?_
          all_goals go_wp2_with (go_at_call 23; refine (put_calls _ q (.slice (some ⟨g, 0, none⟩) ps.length cap) vl1 ps now Lk i now _ HR2.out (by omega)).mono ?_)
          all_goals
            rintro e w2 ⟨vl2, rfl, hr2, hch2, hf2⟩
            have HR3 := Lib.hid hr2
            have HC3 := Lib.hid (((Chg.refl (fun i => i = q) wr).drewN nq).drew.trans hch2)
            clear hr2 hch2 hf2
            go_wp2_with fail
            go_roundw
          all_goals first
            | exact ref_step hlt hd.out hmod HG.out hlk HC.out (k' := k + 1) hkl (by rw [hdy.out]; rfl) rfl (by rw [hdy.out]; simp only [jit, clamp]; omega) HR3.out HC3.out (by go_num) (by go_num)
            | (show _ < _; simp [intOf]; omega)
        · go_wp2_with fail
          go_quiet (fail)
          go_wp2_with fail
          have i1 : IntKind.i64.wrap now = now := by rw [IntKind.wrap_i64]; omega
          have i2 : IntKind.i64.wrap (now + 0) = now := by rw [IntKind.wrap_i64]; omega
          have HR2 := Lib.hid (HR.out.quiet ((Chg.refl _ wr).drewN nq).drew)
          refine wp_region_still_tail 14 (by kernel_rfl) (by kernel_rfl) ?_
          change wpStill _ _ (wr.drewN nq).drew (fun a' => wpList _ _ _ _ a' (wr.drewN nq).drew) _ _
          simp only [List.take_succ_cons, List.take_zero, List.drop_succ_cons, List.drop_zero]
          repeat still_step
          try refine wpStill_nil ?_
          go_wp2_with (go_at_call 23; refine (put_calls _ q (.slice (some ⟨g, 0, none⟩) ps.length cap) vl1 ps now Lk i now now HR2.out (by omega)).mono ?_)
          rintro e w2 ⟨vl2, rfl, hr2, hch2, hf2⟩
          have HR3 := Lib.hid hr2
          have HC3 := Lib.hid (((Chg.refl (fun i => i = q) wr).drewN nq).drew.trans hch2)
          clear hr2 hch2 hf2
          go_wp2_with fail
          go_roundw
          case rel => 
            have hkk : picks.drop k = [] := List.drop_eq_nil_of_le (by omega)
            exact ref_step hlt hd.out hmod HG.out hlk HC.out (k' := k) hkp (by rw [hkk]; rfl) (j := 0) (by rw [hkk]; rfl) (by omega) HR3.out HC3.out rfl (by go_num)
          case measure => simp [intOf]; omega
      · have htm : (now.tmod x == 0) = false := by rw [Int.tmod_eq_emod_of_nonneg hn]; simp [hmod]
        go_wp2_with fail
        go_quiet (fail)
        go_wp2_with fail
        go_roundw
        case rel =>
          refine ⟨i + 1, k, vl1, Lk, by omega, hkp, by go_num, rfl, (HR.out.quiet ((Chg.refl _ _).drewN _)), ?_, by omega, HC.out.drewN _⟩
          rw [← HG.out, hd.out]
          simp only [rels, hmod, if_false]
        case measure => simp [intOf]; omega
    · have hlt' : ¬ (i : Int) < (ps.length : Int) := by omega
      go_wp2_with fail
      go_wp2_with fail
      have hT : Lk = T := by
        have := HG.out
        rw [List.drop_eq_nil_of_le (by omega)] at this
        exact this
      subst hT
      clear HG k0 k1 k2 q0 q1 q2 hplt HP
      obtain ⟨wo, rfl⟩ : ∃ wo : World, wo = wr := ⟨_, rfl⟩
      go_loopw [8, 9, 10] (RefRel2 wo now Lk) (fun _ _ iv _ => Lk.length - (intOf iv).toNat)
      case atStart => exact ⟨0, none, 0, none, 0, by omega, rfl, rfl, rfl, Own.nil _ _ _, Own.nil _ _ _, Chg.refl _ _, by simp [Value.ownBlock], by simp [Value.ownBlock]⟩
      case round =>
        obtain ⟨m, A, c, B, d, hm, rfl, rfl, rfl, ho, hr, hch, hfo, hfr⟩ := hrel
        have HR2 := Lib.hid (HR.out.quiet hch)
        obtain ⟨k0, k1, k2, q0, q1, q2, hplt⟩ := cells3 HR2.out.heap
        have HO := Lib.hid ho
        have HW := Lib.hid hr
        have HC2 := Lib.hid hch
        have HFO := Lib.hid hfo
        have HFR := Lib.hid hfr
        have HOL := Lib.hid (outs_length now Lk m)
        have HRL := Lib.hid (rst_length now Lk m)
        clear ho hr hch hfo hfr
        by_cases hlt2 : m < Lk.length
        · have hlt3 : (m : Int) < (Lk.length : Int) := by omega
          obtain ⟨⟨⟨xt, xn⟩, v⟩, hx⟩ : ∃ x, Lk[m]? = some x := ⟨Lk[m], List.getElem?_eq_getElem hlt2⟩
          obtain ⟨gr, cr, rfl, hcr1, hcr2, hgr⟩ := HR2.out.row.form (by omega)
          obtain ⟨s0, s1, s2⟩ := Own.wait HR2.out.row rfl hx
          have Hx := Lib.hid hx
          clear hx
          by_cases hd : v ≤ now
          · go_wp2_with fail
            go_quiet (fail)
            go_wp2_with (at_builtin; refine wpList_append_Own rfl (.tmp 82) (.tmp 91) 35 rfl 58 _ 2 16 Try.underlying35 Try.info58 rfl (by decide) (.slice A (outs now Lk m).length c) (outs now Lk m).length (dcs (outs now Lk m)) rfl (by exact (HO.out.drewN _).alloc _) (some ⟨wr.heap.size, 0, none⟩) 1 1 [.int .i64 xt, .int .i64 xn] rfl (by rfl) (news_due (by exact heap_alloc_new (wr.drewN _) _)) (by simp; exact ⟨rfl, rfl⟩) (by have := HOL.out; omega) (by have := HOL.out; omega) ?_; intro v' w' ho hchg hbl hf; obtain ⟨g', cap', hv'⟩ := hf (by omega); subst hv'; have HX := Lib.hid ho; have HX2 := Lib.hid hchg; have HB := Lib.hid hbl; clear ho hchg hbl hf)
            go_roundw
            case rel =>
              exact ref2_due Hx.out hd hlt2 HX.out (((HW.out.drewN nq).alloc _).keep HX2.out (fun k hk => HW.out.ne HO.out (by decide) k hk)) (grown_all ((HC2.out.drewN _).alloc _) HFO.out HX2.out HB.out) HFR.out (by go_num)
            case measure => simp [intOf]; omega
          · have hd' : decide (v ≤ now) = false := by simpa using hd
            go_wp2_with fail
            go_quiet (fail)
            go_wp2_with (at_builtin; refine wpList_append_Own rfl (.tmp 93) (.tmp 101) 42 rfl 62 _ 3 24 Try.underlying42 Try.info62 rfl (by decide) (.slice B (rst now Lk m).length d) (rst now Lk m).length (wcs (rst now Lk m)) rfl (by exact (HW.out.drewN _).alloc _) (some ⟨wr.heap.size, 0, none⟩) 1 1 [.int .i64 xt, .int .i64 xn, .int .i64 v] rfl (by rfl) (news_wait (by exact heap_alloc_new (wr.drewN _) _)) (by simp; exact ⟨rfl, rfl, rfl⟩) (by have := HRL.out; omega) (by have := HRL.out; omega) ?_; intro v' w' ho hchg hbl hf; obtain ⟨g', cap', hv'⟩ := hf (by omega); subst hv'; have HX := Lib.hid ho; have HX2 := Lib.hid hchg; have HB := Lib.hid hbl; clear ho hchg hbl hf)
            go_roundw
            case rel =>
              exact ref2_not Hx.out (show ¬ v ≤ now by omega) hlt2 (((HO.out.drewN nq).alloc _).keep HX2.out (fun k hk => HO.out.ne HW.out (by decide) k hk)) HX.out (grown_all ((HC2.out.drewN _).alloc _) HFR.out HX2.out HB.out) HFO.out (by go_num)
            case measure => simp [intOf]; omega
        · have hlt3 : ¬ (m : Int) < (Lk.length : Int) := by omega
          obtain rfl : m = Lk.length := by omega
          obtain ⟨Al, cl, rfl⟩ := HR2.out.row.slice
          have hnow : IntKind.i64.wrap (now + 1) = now + 1 := by rw [IntKind.wrap_i64]; omega
          go_wp2_with fail
          go_ret
          exact rtick_end HR.out HC.out HC2.out HO.out rfl HW.out rfl HFR.out rfl
end Go.Proofs.Ytnhnmjdmenehoaa

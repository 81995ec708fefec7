import Derived.Test.YtnhnmjdmenehoaaTcopy
namespace Go.Proofs.Ytnhnmjdmenehoaa
open Go.RowKit

/-- What holds at the head of each round. -/
def PlainRel (w : World) (xs : List D) (out i : Value) (wr : World) : Prop :=
  ∃ (k : Nat) (A : Option Addr) (c : Nat), k ≤ xs.length ∧ i = .int .i64 k ∧ out = .slice A k c ∧ Own wr 58 2 (.slice A k c) k (dcs (xs.take k)) ∧ Chg (fun _ => False) w wr ∧ (∀ b, (Value.slice A k c).ownBlock = some b → w.heap.size ≤ b)
theorem dcs_one (d : D) : dcs [d] = [.int .i64 d.t, .int .i64 d.n] := rfl

set_option maxRecDepth 100000 in
set_option maxHeartbeats 4000000 in
theorem plain_some (w : World) (g c : Nat) (xs : List D) (h : Own w 48 2 (.slice (some ⟨g, 0, none⟩) xs.length c) xs.length (dcs xs)) (hl : xs.length ≤ 10000) :
    Calls Try.prog 17 #[.slice (some ⟨g, 0, none⟩) xs.length c] w (NewDues 58 w xs) := by
  have H := Lib.hid h
  clear h
  go_enter Try.func17, Try.ntmps17
  go_wp2_with fail
  go_loopw [3, 4] (PlainRel w xs) (fun _ i _ => xs.length - (intOf i).toNat)
  case atStart => exact ⟨0, none, 0, by omega, rfl, rfl, Own.nil _ _ _, Chg.refl _ _, by simp [Value.ownBlock]⟩
  case round =>
    obtain ⟨k, A, ca, hk, rfl, rfl, ho, hch, hfr⟩ := hrel
    have Ho := Lib.hid ho
    have Hch := Lib.hid hch
    have Hfr := Lib.hid hfr
    clear ho hch hfr
    by_cases hlt2 : k < xs.length
    · obtain ⟨⟨x, n⟩, hj⟩ : ∃ j, xs[k]? = some j := ⟨xs[k], List.getElem?_eq_getElem hlt2⟩
      obtain ⟨c0, c1⟩ := (H.out.keep Hch.out (fun _ _ f => f)).due rfl hj
      have Hj := Lib.hid hj
      clear hj
      go_wp2_with fail
      go_region_law (
        refine step_append_Own rfl (.tmp 11) (.tmp 23) 35 rfl 58 _ 2 16 Try.underlying35 Try.info58 rfl (by decide) (.slice A k ca) k (dcs (xs.take k)) (by simp [Act.eval]) (by exact Ho.out.alloc _) (some ⟨wr.heap.size, 0, none⟩) 1 1 [.int .i64 x, .int .i64 n] (by simp [Act.eval]) (by rfl) (news_due (by exact heap_alloc_new wr _)) (by simp; exact ⟨rfl, rfl⟩) (by omega) (by omega) ?_
        intro v' w' ho hchg hbl hf
        obtain ⟨g', cap', hv'⟩ := hf (by omega)
        subst hv'
        have Hx := Lib.hid ho
        have Hc := Lib.hid hchg
        have Hb := Lib.hid hbl
        clear ho hchg hbl hf)
      all_goals go_wp2_with fail
      all_goals go_roundw
      all_goals first
        | (have hr12 := grown_all (((Chg.refl (fun _ => False) w).comp Hch.out (fun _ _ f => f)).alloc (.cells #[.int .i64 x, .int .i64 n] 58)).drew Hfr.out Hc.out Hb.out
           have hx := Hx.out
           rw [← dcs_one ⟨x, n⟩, ← dcs_append, ← take_one Hj.out] at hx
           exact ⟨k + 1, some ⟨g', 0, none⟩, cap', by omega, by go_num, rfl, hx, hr12.1, hr12.2⟩)
        | (simp [intOf]; omega)
    · have hk2 : xs.length ≤ k := by omega
      go_wp2_with fail
      go_ret
      have e : k = xs.length := by omega
      have ho := Ho.out
      have hf := Hfr.out
      rw [List.take_of_length_le hk2] at ho
      subst e
      exact ⟨A, ca, rfl, ho, Hch.out, hf⟩

set_option maxRecDepth 100000 in
set_option maxHeartbeats 400000 in
theorem plain_nil (w : World) (A : Option Addr) (c : Nat) :
    Calls Try.prog 17 #[.slice A 0 c] w (NewDues 58 w []) := by
  go_enter Try.func17, Try.ntmps17
  go_wp2_with fail
  refine wp_loop_rounds 1 ?_
  rw [rounds_succ]
  go_wp2_with fail
  go_ret
  exact ⟨none, 0, rfl, Own.nil _ _ _, Chg.refl _ _, by simp [Value.ownBlock]⟩

theorem plain_calls (w : World) (A : Option Addr) (c : Nat) (xs : List D) (h : Own w 48 2 (.slice A xs.length c) xs.length (dcs xs)) (hl : xs.length ≤ 10000) :
    Calls Try.prog 17 #[.slice A xs.length c] w (NewDues 58 w xs) := by
  rcases Nat.eq_zero_or_pos xs.length with h0 | h0
  · obtain rfl : xs = [] := List.eq_nil_of_length_eq_zero h0
    exact plain_nil w A c
  · obtain ⟨g, cap, hv, _⟩ := h.form h0
    injection hv with h1 _ h3
    subst h1; subst h3
    exact plain_some w g _ xs h hl

set_option maxHeartbeats 400000 in
theorem same_len (w : World) (A B : Option Addr) (c d n m : Nat) (_hn : n ≤ 10000) (_hm : m ≤ 10000) (hne : n ≠ m) :
    Calls Try.prog 16 #[.slice A n c, .slice B m d] w (OnlyBool false w) := by
  have h1 : ((n : Int) == (m : Int)) = false := by simp; omega
  have h2 : ((n : Int) != (m : Int)) = true := by simp; omega
  clear hne
  go_enter Try.func16, Try.ntmps16
  go_wp2_with fail
  go_ret
  exact ⟨rfl, Chg.refl _ _⟩

def SameRel (w : World) (xs ys : List D) (i : Value) (wr : World) : Prop :=
  ∃ k : Nat, k ≤ xs.length ∧ i = .int .i64 k ∧ Chg (fun _ => False) w wr ∧ xs.take k = ys.take k

set_option maxRecDepth 100000 in
set_option maxHeartbeats 400000 in
theorem same_some (w : World) (g c g' d : Nat) (xs ys : List D) (h : Own w 58 2 (.slice (some ⟨g, 0, none⟩) xs.length c) xs.length (dcs xs)) (h' : Own w 58 2 (.slice (some ⟨g', 0, none⟩) ys.length d) ys.length (dcs ys)) (hl : xs.length ≤ 10000) (he : xs.length = ys.length) :
    Calls Try.prog 16 #[.slice (some ⟨g, 0, none⟩) xs.length c, .slice (some ⟨g', 0, none⟩) ys.length d] w (OnlyBool (decide (xs = ys)) w) := by
  have h1 : ((xs.length : Int) != (ys.length : Int)) = false := by simp; omega
  have H := Lib.hid h
  have H' := Lib.hid h'
  have He := Lib.hid he
  have hl2 : ys.length ≤ 10000 := by omega
  clear h h' he
  go_enter Try.func16, Try.ntmps16
  go_wp2_with fail
  go_loopw [5] (SameRel w xs ys) (fun i _ => xs.length - (intOf i).toNat)
  case atStart => exact ⟨0, by omega, rfl, Chg.refl _ _, by simp⟩
  case round =>
    obtain ⟨k, hk, rfl, hch, htk⟩ := hrel
    have Hch := Lib.hid hch
    have Htk := Lib.hid htk
    clear hch htk
    by_cases hlt2 : k < xs.length
    · obtain ⟨j, hj⟩ : ∃ j, xs[k]? = some j := ⟨xs[k], List.getElem?_eq_getElem hlt2⟩
      have hlt3 : k < ys.length := by have := He.out; omega
      obtain ⟨i, hi⟩ : ∃ i, ys[k]? = some i := ⟨ys[k], List.getElem?_eq_getElem hlt3⟩
      obtain ⟨c0, c1⟩ := (H.out.keep Hch.out (fun _ _ f => f)).due rfl hj
      obtain ⟨d0, d1⟩ := (H'.out.keep Hch.out (fun _ _ f => f)).due rfl hi
      have Hj := Lib.hid hj
      have Hi := Lib.hid hi
      clear hj hi
      have hgd := Try.eqg58
      by_cases hji : j = i
      · have hne := neq_due58 j i false (by simp [hji])
        have Hji := Lib.hid hji
        clear hji
        go_wp2_with fail
        go_quiet (fail)
        go_wp2_with fail
        go_roundw
        case rel => exact ⟨k + 1, by omega, by go_num, Hch.out.drewN _, by rw [take_one Hj.out, take_one Hi.out, Htk.out, Hji.out]⟩
        case measure => simp [intOf]; omega
      · have hne := neq_due58 j i true (by simp [hji])
        have Hji := Lib.hid hji
        clear hji
        go_wp2_with fail
        go_quiet (fail)
        go_wp2_with fail
        go_ret
        have hx : ¬ xs = ys := by
          intro e
          subst e
          have e1 := Hj.out
          rw [Hi.out] at e1
          injection e1 with e1
          exact Hji.out e1.symm
        exact ⟨by simp [hx], Hch.out.drewN _⟩
    · have hk2 : xs.length ≤ k := by omega
      go_wp2_with fail
      go_ret
      have hx : xs = ys := by
        have h1 := Htk.out
        have h2 := He.out
        rwa [List.take_of_length_le hk2, List.take_of_length_le (by omega)] at h1
      exact ⟨by simp [hx], Hch.out⟩

set_option maxRecDepth 100000 in
set_option maxHeartbeats 400000 in
theorem same_nil (w : World) (A B : Option Addr) (c d : Nat) :
    Calls Try.prog 16 #[.slice A 0 c, .slice B 0 d] w (OnlyBool true w) := by
  go_enter Try.func16, Try.ntmps16
  go_wp2_with fail
  refine wp_loop_rounds 1 ?_
  rw [rounds_succ]
  go_wp2_with fail
  go_ret
  exact ⟨rfl, Chg.refl _ _⟩

theorem same_calls (w : World) (A B : Option Addr) (c d : Nat) (xs ys : List D) (h : Own w 58 2 (.slice A xs.length c) xs.length (dcs xs)) (h' : Own w 58 2 (.slice B ys.length d) ys.length (dcs ys)) (hl : xs.length ≤ 10000) (hl' : ys.length ≤ 10000) :
    Calls Try.prog 16 #[.slice A xs.length c, .slice B ys.length d] w (OnlyBool (decide (xs = ys)) w) := by
  by_cases he : xs.length = ys.length
  · rcases Nat.eq_zero_or_pos xs.length with h0 | h0
    · obtain rfl : xs = [] := List.eq_nil_of_length_eq_zero h0
      obtain rfl : ys = [] := List.eq_nil_of_length_eq_zero (by omega)
      exact same_nil w A B c d
    · obtain ⟨g, cap, hv, _⟩ := h.form h0
      obtain ⟨g', cap', hv', _⟩ := h'.form (by omega)
      injection hv with h1 _ h3
      injection hv' with h1' _ h3'
      subst h1; subst h3; subst h1'; subst h3'
      exact same_some w g _ g' _ xs ys h h' hl he
  · have hx : ¬ xs = ys := fun e => he (by rw [e])
    simpa [hx] using same_len w A B c d _ _ hl hl' he
end Go.Proofs.Ytnhnmjdmenehoaa

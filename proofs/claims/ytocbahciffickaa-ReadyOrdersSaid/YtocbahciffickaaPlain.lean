import Derived.Test.YtocbahciffickaaBestb
namespace Go.Proofs.Ytocbahciffickaa
open Go.RowKit

theorem take_step {α : Type} {xs : List α} {k : Nat} {j : α} (hj : xs[k]? = some j) : xs.take (k + 1) = xs.take k ++ [j] := by
  rw [List.take_add_one, hj]
  rfl

/-- What holds at the head of each round. -/
def PlainRel (w : World) (xs : List J) (out i : Value) (wr : World) : Prop :=
  ∃ (k : Nat) (A : Option Addr) (c : Nat), k ≤ xs.length ∧ i = .int .i64 k ∧ out = .slice A k c ∧ Own wr 36 3 (.slice A k c) k (jcs (xs.take k)) ∧ Chg (fun _ => False) w wr ∧ (∀ b, (Value.slice A k c).ownBlock = some b → w.heap.size ≤ b)

set_option maxRecDepth 100000 in
set_option maxHeartbeats 400000 in
theorem plain_some (w : World) (g c : Nat) (xs : List J) (h : Own w 30 3 (.slice (some ⟨g, 0, none⟩) xs.length c) xs.length (jcs xs)) (hl : xs.length ≤ 10000) :
    Calls Try.prog 13 #[.slice (some ⟨g, 0, none⟩) xs.length c] w (NewJobs 36 w xs) := by
  have H := Lib.hid h
  clear h
  go_enter Try.func13, Try.ntmps13
  go_wp2_with fail
  go_loopw [3, 4] (PlainRel w xs) (fun _ i _ => xs.length - (intOf i).toNat)
  case atStart => exact ⟨0, none, 0, by omega, rfl, rfl, Own.nil _ _ _, Chg.refl _ _, by simp [Value.ownBlock]⟩
  case round =>
    obtain ⟨k, A, ca, hk, rfl, rfl, ho, hch, hfr⟩ := hrel
    have Ho := Lib.hid ho
    have Hch := Lib.hid hch
    have Hfr := Lib.hid hfr
    clear ho hch hfr
    by_cases hlt2 : k < xs.length
    · obtain ⟨j, hj⟩ : ∃ j, xs[k]? = some j := ⟨xs[k], List.getElem?_eq_getElem hlt2⟩
      obtain ⟨c0, c1, c2⟩ := (H.out.keep Hch.out (fun _ _ f => f)).job rfl hj
      have Hj := Lib.hid hj
      clear hj
      go_wp2_with (go_at_call 8; refine (one_calls _ j).mono ?_)
      intro e w1 hp
      obtain ⟨rfl, hc1⟩ := hp
      have Hc1 := Lib.hid hc1
      have Ho1 := Lib.hid (Ho.out.keep hc1 (fun _ _ f => f))
      clear hc1
      unfold jv
      go_wp2_with (at_builtin; refine wpList_append_Own rfl (.tmp 11) (.tmp 17) 26 rfl 36 _ 3 24 Try.underlying26 Try.info36 rfl (by decide) (.slice A k ca) k (jcs (xs.take k)) rfl (by exact Ho1.out.alloc _) (some ⟨w1.heap.size, 0, none⟩) 1 1 (jc j) rfl (by rfl) (news_box (heap_alloc_new _ _)) (jc_one j) (by omega) (by omega) ?_; intro v' w' ho hchg hbl hf; obtain ⟨g', cap', hv'⟩ := hf (by omega); subst hv'; have Hx := Lib.hid ho; have Hc := Lib.hid hchg; have Hb := Lib.hid hbl; clear ho hchg hbl hf)
      go_roundw
      case rel =>
        obtain ⟨r1, r2⟩ := grown_all ((Hch.out.trans Hc1.out).alloc _) Hfr.out Hc.out Hb.out
        have hx := Hx.out
        rw [← jcs_one, ← jcs_append, ← take_step Hj.out] at hx
        exact ⟨k + 1, some ⟨g', 0, none⟩, cap', by omega, by go_num, rfl, hx, r1, r2⟩
      case measure => simp [intOf]; omega
    · have hk2 : xs.length ≤ k := by omega
      go_wp2_with fail
      go_ret
      have e : k = xs.length := by omega
      have ho := Ho.out
      have hf := Hfr.out
      rw [List.take_of_length_le hk2] at ho
      subst e
      exact ⟨A, ca, rfl, ho, Hch.out, hf⟩

set_option maxRecDepth 100000 in
set_option maxHeartbeats 400000 in
theorem plain_nil (w : World) (A : Option Addr) (c : Nat) :
    Calls Try.prog 13 #[.slice A 0 c] w (NewJobs 36 w []) := by
  go_enter Try.func13, Try.ntmps13
  go_wp2_with fail
  refine wp_loop_rounds 1 ?_
  rw [rounds_succ]
  go_wp2_with fail
  go_ret
  exact ⟨none, 0, rfl, Own.nil _ _ _, Chg.refl _ _, by simp [Value.ownBlock]⟩

theorem plain_calls (w : World) (A : Option Addr) (c : Nat) (xs : List J) (h : Own w 30 3 (.slice A xs.length c) xs.length (jcs xs)) (hl : xs.length ≤ 10000) :
    Calls Try.prog 13 #[.slice A xs.length c] w (NewJobs 36 w xs) := by
  rcases Nat.eq_zero_or_pos xs.length with h0 | h0
  · obtain rfl : xs = [] := List.eq_nil_of_length_eq_zero h0
    exact plain_nil w A c
  · obtain ⟨g, cap, hv, _⟩ := h.form h0
    injection hv with h1 _ h3
    subst h1; subst h3
    exact plain_some w g _ xs h hl

/-! '==' of two jobs as one Bool. -/
section
variable {P : Program} {d : Nat} {xs ys : Array Value} {f : Field} {fs : List Field} {a b : Value} {r s : Bool} {w : World}
theorem eqf_cons (hn : (f.name == "_") = false) (ha : (part f.type xs f.offset).run P w = .ok a w) (hb : (part f.type ys f.offset).run P w = .ok b w) (he : (Op.equalIn d f.type a b).run P w = .ok r w) (hr : (Op.eqFields d xs ys fs).run P w = .ok s w) : (Op.eqFields d xs ys (f :: fs)).run P w = .ok (r && s) w := by
  have hn' : f.name ≠ "_" := by simpa using hn
  rw [Op.eqFields]
  simp only [if_pos hn', Sem.run_bind, ha, hb, he, Result.andThen_ok]
  cases r
  · simp
  · simpa using hr
theorem eqf_nil : (Op.eqFields d xs ys []).run P w = .ok true w := by simp [Op.eqFields]
theorem eqA_of {t : TypeId} {fs : Array Field} (hu : P.underlying t = some (.struct fs)) (hp : P.stoodInHeld t = false) (h : (Op.eqFields d xs ys fs.toList).run P w = .ok r w) : (Op.equalIn (d + 1) t (.agg xs) (.agg ys)).run P w = .ok r w := by
  have hf : P.fieldsOf t = fs := by simp [Program.fieldsOf, hu]
  rw [run_equalIn_struct (P := P) w d t xs ys (by rw [hf]; exact hu) hp, hf]
  exact h
end

theorem Try.eqg36 : Try.prog.eqGuardType Try.prog.depth 36 = false := by kernel_rfl
theorem Try.sih36 : Try.prog.stoodInHeld 36 = false := by kernel_rfl

theorem eq_jobs (d : Nat) (i j : J) (W : World) : (Op.equalIn (d + 2) 36 (.agg #[.int .i64 i.t, .int .i64 i.p, .int .i64 i.n]) (.agg #[.int .i64 j.t, .int .i64 j.p, .int .i64 j.n])).run Try.prog W = .ok (decide (i = j)) W := by
  refine (eqA_of Try.underlying36 Try.sih36 (r := (i.t == j.t && (i.p == j.p && (i.n == j.n && true)))) ?_).trans ?_
  · refine eqf_cons (by rfl) (a := .int .i64 i.t) (b := .int .i64 j.t) ?_ ?_ ?_ (eqf_cons (by rfl) (a := .int .i64 i.p) (b := .int .i64 j.p) ?_ ?_ ?_ (eqf_cons (by rfl) (a := .int .i64 i.n) (b := .int .i64 j.n) ?_ ?_ ?_ eqf_nil))
    all_goals first | exact run_equalIn_int (P := Try.prog) W d 3 .i64 .i64 _ _ Try.underlying3 | (go_simp; done) | skip
  · congr 1
    cases i; cases j
    rw [Bool.eq_iff_iff]
    simp

theorem neq_jobs (i j : J) (b : Bool) (hb : b = !decide (i = j)) (W : World) : (binOp .neq 36 (.agg #[.int .i64 i.t, .int .i64 i.p, .int .i64 i.n]) (.agg #[.int .i64 j.t, .int .i64 j.p, .int .i64 j.n])).run Try.prog W = .ok (.bool b) W := by
  rw [run_neq_struct, eq_jobs 9998, hb]
  rfl

/-! Two rows, held against each other. -/
def OnlyBool (b : Bool) (w : World) (e : Ending) (w' : World) : Prop := e = .returned (.bool b) ∧ Chg (fun _ => False) w w'

set_option maxHeartbeats 400000 in
theorem same_len (w : World) (A B : Option Addr) (c d n m : Nat) (hn : n ≤ 10000) (hm : m ≤ 10000) (hne : n ≠ m) :
    Calls Try.prog 12 #[.slice A n c, .slice B m d] w (OnlyBool false w) := by
  have h1 : ((n : Int) == (m : Int)) = false := by simp; omega
  have h2 : ((n : Int) != (m : Int)) = true := by simp; omega
  clear hne
  go_enter Try.func12, Try.ntmps12
  go_wp2_with fail
  go_ret
  exact ⟨rfl, Chg.refl _ _⟩

def SameRel (w : World) (xs ys : List J) (i : Value) (wr : World) : Prop :=
  ∃ k : Nat, k ≤ xs.length ∧ i = .int .i64 k ∧ Chg (fun _ => False) w wr ∧ xs.take k = ys.take k

set_option maxRecDepth 100000 in
set_option maxHeartbeats 400000 in
theorem same_some (w : World) (g c g' d : Nat) (xs ys : List J) (h : Own w 36 3 (.slice (some ⟨g, 0, none⟩) xs.length c) xs.length (jcs xs)) (h' : Own w 36 3 (.slice (some ⟨g', 0, none⟩) ys.length d) ys.length (jcs ys)) (hl : xs.length ≤ 10000) (he : xs.length = ys.length) :
    Calls Try.prog 12 #[.slice (some ⟨g, 0, none⟩) xs.length c, .slice (some ⟨g', 0, none⟩) ys.length d] w (OnlyBool (decide (xs = ys)) w) := by
  have h1 : ((xs.length : Int) != (ys.length : Int)) = false := by simp; omega
  have H := Lib.hid h
  have H' := Lib.hid h'
  have He := Lib.hid he
  have hl2 : ys.length ≤ 10000 := by omega
  clear h h' he
  go_enter Try.func12, Try.ntmps12
  go_wp2_with fail
  go_loopw [5] (SameRel w xs ys) (fun i _ => xs.length - (intOf i).toNat)
  case atStart => exact ⟨0, by omega, rfl, Chg.refl _ _, by simp⟩
  case round =>
    obtain ⟨k, hk, rfl, hch, htk⟩ := hrel
    have Hch := Lib.hid hch
    have Htk := Lib.hid htk
    clear hch htk
    by_cases hlt2 : k < xs.length
    · obtain ⟨j, hj⟩ : ∃ j, xs[k]? = some j := ⟨xs[k], List.getElem?_eq_getElem hlt2⟩
      have hlt3 : k < ys.length := by have := He.out; omega
      obtain ⟨i, hi⟩ : ∃ i, ys[k]? = some i := ⟨ys[k], List.getElem?_eq_getElem hlt3⟩
      obtain ⟨c0, c1, c2⟩ := (H.out.keep Hch.out (fun _ _ f => f)).job rfl hj
      obtain ⟨d0, d1, d2⟩ := (H'.out.keep Hch.out (fun _ _ f => f)).job rfl hi
      have Hj := Lib.hid hj
      have Hi := Lib.hid hi
      clear hj hi
      have hgd := Try.eqg36
      by_cases hji : j = i
      · have hne := neq_jobs j i false (by simp [hji])
        have Hji := Lib.hid hji
        clear hji
        go_wp2_with fail
        go_quiet (fail)
        go_wp2_with fail
        go_roundw
        case rel => exact ⟨k + 1, by omega, by go_num, Hch.out.drewN _, by rw [take_step Hj.out, take_step Hi.out, Htk.out, Hji.out]⟩
        case measure => simp [intOf]; omega
      · have hne := neq_jobs j i true (by simp [hji])
        have Hji := Lib.hid hji
        clear hji
        go_wp2_with fail
        go_quiet (fail)
        go_wp2_with fail
        go_ret
        have hx : ¬ xs = ys := by
          intro e
          subst e
          have e1 := Hj.out
          rw [Hi.out] at e1
          injection e1 with e1
          exact Hji.out e1.symm
        exact ⟨by simp [hx], Hch.out.drewN _⟩
    · have hk2 : xs.length ≤ k := by omega
      go_wp2_with fail
      go_ret
      have hx : xs = ys := by
        have h1 := Htk.out
        have h2 := He.out
        rwa [List.take_of_length_le hk2, List.take_of_length_le (by omega)] at h1
      exact ⟨by simp [hx], Hch.out⟩

set_option maxRecDepth 100000 in
set_option maxHeartbeats 400000 in
theorem same_nil (w : World) (A B : Option Addr) (c d : Nat) :
    Calls Try.prog 12 #[.slice A 0 c, .slice B 0 d] w (OnlyBool true w) := by
  go_enter Try.func12, Try.ntmps12
  go_wp2_with fail
  refine wp_loop_rounds 1 ?_
  rw [rounds_succ]
  go_wp2_with fail
  go_ret
  exact ⟨rfl, Chg.refl _ _⟩

theorem same_calls (w : World) (A B : Option Addr) (c d : Nat) (xs ys : List J) (h : Own w 36 3 (.slice A xs.length c) xs.length (jcs xs)) (h' : Own w 36 3 (.slice B ys.length d) ys.length (jcs ys)) (hl : xs.length ≤ 10000) (hl' : ys.length ≤ 10000) :
    Calls Try.prog 12 #[.slice A xs.length c, .slice B ys.length d] w (OnlyBool (decide (xs = ys)) w) := by
  by_cases he : xs.length = ys.length
  · rcases Nat.eq_zero_or_pos xs.length with h0 | h0
    · obtain rfl : xs = [] := List.eq_nil_of_length_eq_zero h0
      obtain rfl : ys = [] := List.eq_nil_of_length_eq_zero (by omega)
      exact same_nil w A B c d
    · obtain ⟨g, cap, hv, _⟩ := h.form h0
      obtain ⟨g', cap', hv', _⟩ := h'.form (by omega)
      injection hv with h1 _ h3
      injection hv' with h1' _ h3'
      subst h1; subst h3; subst h1'; subst h3'
      exact same_some w g _ g' _ xs ys h h' hl he
  · have hx : ¬ xs = ys := fun e => he (by rw [e])
    simpa [hx] using same_len w A B c d _ _ hl hl' he
end Go.Proofs.Ytocbahciffickaa

import Derived.Test.YtocbahciffickaaSets
namespace Go.Proofs.Ytocbahciffickaa
open Go.RowKit

set_option maxRecDepth 100000 in
set_option maxHeartbeats 400000 in
theorem put_low (w : World) (p : Nat) (v : Value) (xs : List J) (j : J) (h : SetAt 53 30 w p v xs) (hj : j.p < 1) :
    Calls Try.prog 6 #[.pointer (some ⟨p, 0, none⟩), jv j] w (PutPost 53 30 w p v xs j) := by
  unfold jv
  go_enter Try.func6, Try.ntmps6
  go_wp2_with fail
  go_ret
  exact ⟨by simp [putE, hj], v, by simpa [putL, hj] using h.alloc _, (Chg.refl _ _).alloc _, fun _ h => .inl h⟩

set_option maxRecDepth 100000 in
set_option maxHeartbeats 400000 in
theorem put_high (w : World) (p : Nat) (v : Value) (xs : List J) (j : J) (h : SetAt 53 30 w p v xs) (hj : j.p > 100) :
    Calls Try.prog 6 #[.pointer (some ⟨p, 0, none⟩), jv j] w (PutPost 53 30 w p v xs j) := by
  have hj1 : ¬ j.p < 1 := by omega
  unfold jv
  go_enter Try.func6, Try.ntmps6
  go_wp2_with fail
  go_ret
  exact ⟨by simp [putE, hj], v, by simpa [putL, hj] using h.alloc _, (Chg.refl _ _).alloc _, fun _ h => .inl h⟩

set_option maxRecDepth 100000 in
set_option maxHeartbeats 400000 in
theorem put_full (w : World) (p : Nat) (v : Value) (xs : List J) (j : J) (h : SetAt 53 30 w p v xs) (hj : 1 ≤ j.p) (hj2 : j.p ≤ 100) (hl : 10000 ≤ xs.length) :
    Calls Try.prog 6 #[.pointer (some ⟨p, 0, none⟩), jv j] w (PutPost 53 30 w p v xs j) := by
  obtain ⟨A, c, hv⟩ := h.slice
  have hc := h.cell
  have hlt := h.lt
  rw [hv] at hc
  have H := Lib.hid h
  clear h
  have HV := Lib.hid hv
  clear hv
  have hj1 : ¬ j.p < 1 := by omega
  unfold jv
  go_enter Try.func6, Try.ntmps6
  go_wp2_with fail
  go_ret
  exact ⟨by simp [putE, hj1, hl]; omega, v, by simpa [putL, hj1, hl, show ¬ j.p > 100 by omega] using H.out.alloc _, (Chg.refl _ _).alloc _, fun _ h => .inl h⟩

set_option maxRecDepth 100000 in
set_option maxHeartbeats 400000 in
theorem put_ok (w : World) (p : Nat) (v : Value) (xs : List J) (j : J) (h : SetAt 53 30 w p v xs) (hj : 1 ≤ j.p) (hj2 : j.p ≤ 100) (hl : xs.length < 10000) :
    Calls Try.prog 6 #[.pointer (some ⟨p, 0, none⟩), jv j] w (PutPost 53 30 w p v xs j) := by
  obtain ⟨A, c, hv⟩ := h.slice
  subst hv
  have hc := h.cell
  have hlt := h.lt
  have hj1 : ¬ j.p < 1 := by omega
  have H := Lib.hid h
  clear h
  unfold jv
  go_enter Try.func6, Try.ntmps6
  go_wp2_with fail
  go_region_law (
     refine step_append_Own rfl (.tmp 28) (.tmp 30) 44 rfl 30 _ 3 24 Try.underlying44 Try.info30 rfl (by decide) (.slice A xs.length c) xs.length (jcs xs) (by simp [Act.eval, Act.put]) (by exact (H.out.2.alloc _).alloc _) (some ⟨w.heap.size + 1, 0, none⟩) 1 1 (jc j) (by simp [Act.eval, Act.put]) (by rfl) (news_box (by exact heap_alloc2_new w _ _)) (jc_one j) (by omega) (by omega) ?_
     intro v' w' ho hchg hbl hf
     obtain ⟨g, cap, hv'⟩ := hf (by omega)
     subst hv'
     have hb := Lib.hid (H.out.behind (by decide) ((((Chg.refl _ w).alloc _).alloc _).drew) hchg)
     have k0 := cell_of_row w' p 0 _ _ _ hb.out
     have e0 := frozen_of_row w' p 0 _ _ hb.out
     simp only [List.getElem?_toArray, List.getElem?_cons_zero] at k0
     have Ho := Lib.hid ho
     have Hc := Lib.hid hchg
     have Hbl := Lib.hid hbl
     clear ho hchg hbl hf)
  all_goals go_wp2_with fail
  all_goals go_ret
  all_goals exact put_end H.out (by decide) (((Chg.refl _ w).alloc _).alloc _).drew hb.out Ho.out Hc.out Hbl.out hj hj2 hl rfl

theorem put_calls (w : World) (p : Nat) (v : Value) (xs : List J) (j : J) (h : SetAt 53 30 w p v xs) :
    Calls Try.prog 6 #[.pointer (some ⟨p, 0, none⟩), jv j] w (PutPost 53 30 w p v xs j) := by
  by_cases h1 : j.p < 1
  · exact put_low w p v xs j h h1
  by_cases h2 : j.p > 100
  · exact put_high w p v xs j h h2
  by_cases h3 : 10000 ≤ xs.length
  · exact put_full w p v xs j h (by omega) (by omega) h3
  · exact put_ok w p v xs j h (by omega) (by omega) (by omega)

/-! The document's Put. -/
set_option maxRecDepth 100000 in
set_option maxHeartbeats 400000 in
theorem rput_low (w : World) (p : Nat) (v : Value) (xs : List J) (j : J) (h : SetAt 28 36 w p v xs) (hj : j.p < 1) :
    Calls Try.prog 7 #[.pointer (some ⟨p, 0, none⟩), jv j] w (PutPost 28 36 w p v xs j) := by
  unfold jv
  go_enter Try.func7, Try.ntmps7
  go_wp2_with fail
  go_ret
  exact ⟨by simp [putE, hj], v, by simpa [putL, hj] using h.alloc _, (Chg.refl _ _).alloc _, fun _ h => .inl h⟩

set_option maxRecDepth 100000 in
set_option maxHeartbeats 400000 in
theorem rput_high (w : World) (p : Nat) (v : Value) (xs : List J) (j : J) (h : SetAt 28 36 w p v xs) (hj : j.p > 100) :
    Calls Try.prog 7 #[.pointer (some ⟨p, 0, none⟩), jv j] w (PutPost 28 36 w p v xs j) := by
  have hj1 : ¬ j.p < 1 := by omega
  unfold jv
  go_enter Try.func7, Try.ntmps7
  go_wp2_with fail
  go_ret
  exact ⟨by simp [putE, hj], v, by simpa [putL, hj] using h.alloc _, (Chg.refl _ _).alloc _, fun _ h => .inl h⟩

set_option maxRecDepth 100000 in
set_option maxHeartbeats 400000 in
theorem rput_full (w : World) (p : Nat) (v : Value) (xs : List J) (j : J) (h : SetAt 28 36 w p v xs) (hj : 1 ≤ j.p) (hj2 : j.p ≤ 100) (hl : 10000 ≤ xs.length) :
    Calls Try.prog 7 #[.pointer (some ⟨p, 0, none⟩), jv j] w (PutPost 28 36 w p v xs j) := by
  obtain ⟨A, c, hv⟩ := h.slice
  have hc := h.cell
  have hlt := h.lt
  rw [hv] at hc
  have H := Lib.hid h
  clear h
  have HV := Lib.hid hv
  clear hv
  have hj1 : ¬ j.p < 1 := by omega
  unfold jv
  go_enter Try.func7, Try.ntmps7
  go_wp2_with fail
  go_ret
  exact ⟨by simp [putE, hj1, hl]; omega, v, by simpa [putL, hj1, hl, show ¬ j.p > 100 by omega] using H.out.alloc _, (Chg.refl _ _).alloc _, fun _ h => .inl h⟩

set_option maxRecDepth 100000 in
set_option maxHeartbeats 400000 in
theorem rput_ok (w : World) (p : Nat) (v : Value) (xs : List J) (j : J) (h : SetAt 28 36 w p v xs) (hj : 1 ≤ j.p) (hj2 : j.p ≤ 100) (hl : xs.length < 10000) :
    Calls Try.prog 7 #[.pointer (some ⟨p, 0, none⟩), jv j] w (PutPost 28 36 w p v xs j) := by
  obtain ⟨A, c, hv⟩ := h.slice
  subst hv
  have hc := h.cell
  have hlt := h.lt
  have hj1 : ¬ j.p < 1 := by omega
  have H := Lib.hid h
  clear h
  unfold jv
  go_enter Try.func7, Try.ntmps7
  go_wp2_with fail
  go_region_law (
     refine step_append_Own rfl (.tmp 23) (.tmp 25) 26 rfl 36 _ 3 24 Try.underlying26 Try.info36 rfl (by decide) (.slice A xs.length c) xs.length (jcs xs) (by simp [Act.eval, Act.put]) (by exact (H.out.2.alloc _).alloc _) (some ⟨w.heap.size + 1, 0, none⟩) 1 1 (jc j) (by simp [Act.eval, Act.put]) (by rfl) (news_box (by exact heap_alloc2_new w _ _)) (jc_one j) (by omega) (by omega) ?_
     intro v' w' ho hchg hbl hf
     obtain ⟨g, cap, hv'⟩ := hf (by omega)
     subst hv'
     have hb := Lib.hid (H.out.behind (by decide) ((((Chg.refl _ w).alloc _).alloc _).drew) hchg)
     have k0 := cell_of_row w' p 0 _ _ _ hb.out
     have e0 := frozen_of_row w' p 0 _ _ hb.out
     simp only [List.getElem?_toArray, List.getElem?_cons_zero] at k0
     have Ho := Lib.hid ho
     have Hc := Lib.hid hchg
     have Hbl := Lib.hid hbl
     clear ho hchg hbl hf)
  all_goals go_wp2_with fail
  all_goals go_ret
  all_goals exact put_end H.out (by decide) (((Chg.refl _ w).alloc _).alloc _).drew hb.out Ho.out Hc.out Hbl.out hj hj2 hl rfl

theorem rput_calls (w : World) (p : Nat) (v : Value) (xs : List J) (j : J) (h : SetAt 28 36 w p v xs) :
    Calls Try.prog 7 #[.pointer (some ⟨p, 0, none⟩), jv j] w (PutPost 28 36 w p v xs j) := by
  by_cases h1 : j.p < 1
  · exact rput_low w p v xs j h h1
  by_cases h2 : j.p > 100
  · exact rput_high w p v xs j h h2
  by_cases h3 : 10000 ≤ xs.length
  · exact rput_full w p v xs j h (by omega) (by omega) h3
  · exact rput_ok w p v xs j h (by omega) (by omega) (by omega)
end Go.Proofs.Ytocbahciffickaa

import Derived.Test.YtocbahciffickaaBest
namespace Go.Proofs.Ytocbahciffickaa
open Go.RowKit

set_option maxRecDepth 100000 in
set_option maxHeartbeats 400000 in
theorem best_nil (w : World) (p c : Nat) (A : Option Addr) (h : SetAt 53 30 w p (.slice A 0 c) []) :
    Calls Try.prog 18 #[.pointer (some ⟨p, 0, none⟩)] w (BestPost w []) := by
  have hc := h.cell
  have hlt := h.lt
  have H := Lib.hid h
  clear h
  go_enter Try.func18, Try.ntmps18
  go_wp2_with fail
  refine wp_loop_rounds 1 ?_
  rw [rounds_succ]
  go_wp2_with fail
  go_ret2
  exact ⟨none, 0, rfl, Own.nil _ _ _, Chg.refl _ _, by simp [Value.ownBlock]⟩

theorem best_calls (w : World) (p : Nat) (v : Value) (xs : List J) (h : SetAt 53 30 w p v xs) (hl : xs.length ≤ 10000) :
    Calls Try.prog 18 #[.pointer (some ⟨p, 0, none⟩)] w (BestPost w xs) := by
  rcases Nat.eq_zero_or_pos xs.length with h0 | h0
  · obtain rfl : xs = [] := List.eq_nil_of_length_eq_zero h0
    obtain ⟨A, c, rfl⟩ := h.slice
    exact best_nil w p c A h
  · obtain ⟨g, cap, rfl, _⟩ := h.2.form h0
    exact best_some w p g cap xs h hl

def OnlyInt (n : Int) (w : World) (e : Ending) (w' : World) : Prop := e = .returned (.int .i64 n) ∧ Chg (fun _ => False) w w'

set_option maxHeartbeats 400000 in
theorem Best_calls (w : World) (p : Nat) (v : Value) (xs : List J) (h : SetAt 53 30 w p v xs) (hl : xs.length ≤ 10000) :
    Calls Try.prog 15 #[.pointer (some ⟨p, 0, none⟩)] w (OnlyInt (bestOf xs).2 w) := by
  have hc := best_calls w p v xs h hl
  have H := Lib.hid hc
  clear hc h
  go_enter Try.func15, Try.ntmps15
  go_wp2_with (go_at_call 18; refine H.out.mono ?_)
  intro e w1 hp
  obtain ⟨A, c, rfl, ho, hch, hb⟩ := hp
  have Hc := Lib.hid hch
  clear ho hch hb
  go_wp2
  go_ret
  exact ⟨rfl, Hc.out⟩

/-- The greatest priority, by the document's loop. -/
def mostGo : List J → Int → Int
  | [], n => n
  | j :: l, n => mostGo l (max n j.p)
theorem mostGo_step {xs : List J} {k : Nat} {j : J} {n m : Int} (hj : xs[k]? = some j) (h : mostGo (xs.drop k) n = m) : mostGo (xs.drop (k + 1)) (max n j.p) = m := by
  rw [drop_step hj] at h
  exact h
theorem best_most (xs : List J) : ∀ (i : Nat) (l : List Nat) (q : Int), (bestGo xs i l q).2 = mostGo xs q := by
  induction xs with
  | nil => intro i l q; rfl
  | cons j xs ih =>
    intro i l q
    simp only [bestGo, mostGo]
    split
    · rw [ih, show max q j.p = j.p by omega]
    · split
      · rw [ih, show max q j.p = q by omega]
      · rw [ih, show max q j.p = q by omega]

set_option maxRecDepth 100000 in
set_option maxHeartbeats 400000 in
theorem rbest_some (w : World) (p g c : Nat) (xs : List J) (h : SetAt 28 36 w p (.slice (some ⟨g, 0, none⟩) xs.length c) xs) (hl : xs.length ≤ 10000) :
    Calls Try.prog 16 #[.pointer (some ⟨p, 0, none⟩)] w (fun e w' => e = .returned (.int .i64 (bestOf xs).2) ∧ w = w') := by
  have hc := h.cell
  have hlt := h.lt
  have H := Lib.hid h
  clear h
  go_enter Try.func16, Try.ntmps16
  go_wp2_with fail
  go_loop [3, 4] (fun n i => ∃ (k : Nat) (q : Int), k ≤ xs.length ∧ i = .int .i64 k ∧ n = .int .i64 q ∧ Hid (mostGo (xs.drop k) q = (bestOf xs).2)) (fun _ i => xs.length - (intOf i).toNat)
  case atStart => exact ⟨0, 0, by omega, rfl, rfl, (best_most xs 0 [] 0).symm⟩
  case round =>
    obtain ⟨k, q, hk, rfl, rfl, Hq⟩ := hrel
    by_cases hlt2 : k < xs.length
    · obtain ⟨j, hj⟩ : ∃ j, xs[k]? = some j := ⟨xs[k], List.getElem?_eq_getElem hlt2⟩
      obtain ⟨c0, c1, c2⟩ := H.out.2.job rfl hj
      have Hj := Lib.hid hj
      clear hj
      go_wp2_with fail
      go_round
      case rel => exact ⟨k + 1, max q j.p, by omega, by go_num, by go_num, mostGo_step Hj.out Hq.out⟩
      case measure => simp [intOf]; omega
    · have hk2 : xs.length ≤ k := by omega
      go_wp2_with fail
      go_ret
      have he := Hq.out
      rw [List.drop_eq_nil_of_le hk2] at he
      exact ⟨by rw [← he]; rfl, rfl⟩

set_option maxRecDepth 100000 in
set_option maxHeartbeats 400000 in
theorem rbest_nil (w : World) (p c : Nat) (A : Option Addr) (h : SetAt 28 36 w p (.slice A 0 c) []) :
    Calls Try.prog 16 #[.pointer (some ⟨p, 0, none⟩)] w (fun e w' => e = .returned (.int .i64 (bestOf []).2) ∧ w = w') := by
  have hc := h.cell
  have hlt := h.lt
  clear h
  go_enter Try.func16, Try.ntmps16
  go_wp2_with fail
  refine wp_loop_rounds 1 ?_
  rw [rounds_succ]
  go_wp2_with fail
  go_ret
  exact ⟨rfl, rfl⟩

theorem rbest_calls (w : World) (p : Nat) (v : Value) (xs : List J) (h : SetAt 28 36 w p v xs) (hl : xs.length ≤ 10000) :
    Calls Try.prog 16 #[.pointer (some ⟨p, 0, none⟩)] w (fun e w' => e = .returned (.int .i64 (bestOf xs).2) ∧ w = w') := by
  rcases Nat.eq_zero_or_pos xs.length with h0 | h0
  · obtain rfl : xs = [] := List.eq_nil_of_length_eq_zero h0
    obtain ⟨A, c, rfl⟩ := h.slice
    exact rbest_nil w p c A h
  · obtain ⟨g, cap, rfl, _⟩ := h.2.form h0
    exact rbest_some w p g cap xs h hl
end Go.Proofs.Ytocbahciffickaa

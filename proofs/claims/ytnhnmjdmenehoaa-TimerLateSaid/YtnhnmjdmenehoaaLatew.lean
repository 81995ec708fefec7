import Derived.Test.YtnhnmjdmenehoaaLatep
namespace Go.Proofs.Ytnhnmjdmenehoaa
open Go.RowKit

def LatePost (W : World) (p b : Nat) (va : Value) (per a : Int) (s : Nat) (M : List Int) (e : Ending) (w' : World) : Prop :=
  ∃ A c k, e = .returned (.slice A k c) ∧ k = (front a s (onto per s M)).length ∧ Tim w' p b va [per] ((s + 1 : Nat) : Int) (queue a (back a s (onto per s M))) ∧ Chg (fun i => i = p ∨ i = b) W w'
theorem Tim.late {w : World} {p b : Nat} {va : Value} {per a : Int} {s : Nat} {R E M : List Int} (h : Tim w p b va [per] s (queue a M)) (hl : Lat per a s R E M) (h0 : 0 ≤ a) (h1 : a ≤ 255) (hs : s ≤ 256) :
    Calls Try.prog 14 #[.pointer (some ⟨p, 0, none⟩), .slice (some ⟨w.heap.size, 0, none⟩) 1 1] (w.alloc (.cells #[.int .i64 a] 3)) (LatePost w p b va per a s M) := by
  have hlen : M.length ≤ s := by have := hl.len; have h2 := hl.all; rw [h2] at this; simp at this; omega
  obtain ⟨e1, e2⟩ := late_told per s a M h0 h1 (fun m hm => hl.low m (by rw [hl.all]; exact List.mem_append_right _ hm))
  refine ((h.alloc _).tick [a] _ (pick_one w a) (by omega) (by simp [queue]; omega)).mono ?_
  rintro e w' ⟨A, c, rfl, _, _, ht, hc⟩
  refine ⟨A, c, _, rfl, ?_, ?_, (((Chg.refl _ w).alloc _).trans hc)⟩
  · rw [e1]; simp
  · rw [← e2]; simpa using ht
theorem new_two_ne {w w1 : World} {p b p2 b2 : Nat} {va : Value} {ps : List Int} {now : Int} {L : List (D × Int)} (h : Tim w1 p b va ps now L) (hc : Chg (fun _ => False) w1 w) (hp : w.heap.size ≤ p2) (hb : w.heap.size ≤ b2) : p ≠ p2 ∧ b ≠ b2 := by
  have h1 := (Array.getElem?_eq_some_iff.1 h.at_.heap).1
  have h2 := h.at_.map.lt
  have h3 := hc.size
  omega

theorem new_lit1 (W : World) (g : Nat) (x : Int) (h : W.heap[g]? = some (.cells #[.int .i64 x] 3 (0, 0))) (hg : Good [x]) : Calls Try.prog 11 #[.slice (some ⟨g, 0, none⟩) 1 1] W (NewPost W [x]) :=
  new_calls _ _ 1 [x] (reads_lit (l := [x]) h (by simp)) hg
theorem err_lit1 (W : World) (g : Nat) (x : Int) (h : W.heap[g]? = some (.cells #[.int .i64 x] 3 (0, 0))) (hg : ¬ Good [x]) : Calls Try.prog 11 #[.slice (some ⟨g, 0, none⟩) 1 1] W (ErrPost W) :=
  new_err _ _ 1 [x] (reads_lit (l := [x]) h (by simp)) hg

/-- What holds at the head of each round. -/
def LateRel (w : World) (p b p2 b2 : Nat) (va va2 : Value) (per x y : Int) (n : Nat) (ev lv sv : Value) (wr : World) : Prop :=
  ∃ (s : Nat) (R E M E' M' : List Int), s ≤ n ∧ sv = .int .i64 s ∧ ev = .int .i64 E.length ∧ lv = .int .i64 E'.length ∧ Lat per x s R E M ∧ Lat per y s R E' M' ∧ Tim wr p b va [per] s (queue x M) ∧ Tim wr p2 b2 va2 [per] s (queue y M') ∧ Chg (fun _ => False) w wr

def LenPost (n : Nat) (w : World) (e : Ending) (w' : World) : Prop := ∃ A c, e = .returned (.slice A n c) ∧ Chg (fun _ => False) w w'
theorem Tim.late_waiting {w : World} {p b : Nat} {va : Value} {per a : Int} {s : Nat} {M : List Int} (h : Tim w p b va [per] s (queue a M)) (hM : M.length ≤ 256) :
    Calls Try.prog 18 #[.pointer (some ⟨p, 0, none⟩)] w (LenPost M.length w) := by
  refine (h.waiting (by simp [queue]; omega)).mono ?_
  rintro e w' ⟨A, c, rfl, _, hc, _⟩
  exact ⟨A, c, by simp [queue], hc⟩

set_option maxRecDepth 100000 in
set_option maxHeartbeats 4000000 in
theorem late_lt (w : World) (per x y : Int) (n : Int) (hg : Good [per]) (h0 : 0 ≤ n) (h1 : n ≤ 255) (hx0 : 0 ≤ x) (hy1 : y ≤ 255) (hxy : x < y) :
    Calls Try.prog 9 #[.int .i64 per, .agg #[.int .u8 x, .int .u8 y], .int .u8 n] w (OnlyBool true w) := by
  obtain ⟨n, rfl⟩ : ∃ k : Nat, n = (k : Int) := ⟨n.toNat, by omega⟩
  have HG := Lib.hid hg
  clear hg
  go_enter Try.func9, Try.ntmps9
  go_wp2_with (go_at_call 11; refine (new_lit1 _ _ per (heap_alloc2_new w _ _) HG.out).mono ?_)
  rintro e w1 ⟨p, va, b, rfl, ht1, hc1, hp1, hb1, hv1⟩
  have H1 := Lib.hid (Tim.new ht1 HG.out)
  have C1 := Lib.hid ((((Chg.refl (fun _ => False) w).alloc (.cells #[.int .u8 x, .int .u8 y] 56)).alloc (.cells #[.int .i64 per] 3)).comp hc1 (fun _ _ f => f))
  obtain ⟨e0, e1⟩ := cells2 (heap_alloc_new w (.cells #[.int .u8 x, .int .u8 y] 56))
  have K1 := Lib.hid (((Chg.refl (fun _ => False) (w.alloc (.cells #[.int .u8 x, .int .u8 y] 56))).alloc (.cells #[.int .i64 per] 3)).comp hc1 (fun _ _ f => f))
  have P1 := Lib.hid (show w.heap.size ≤ p ∧ w.heap.size ≤ b from ⟨Nat.le_trans (((Chg.refl (fun _ => False) w).alloc _).alloc _).size hp1, Nat.le_trans (((Chg.refl (fun _ => False) w).alloc _).alloc _).size hb1⟩)
  clear ht1 hc1 hv1 hp1 hb1
  go_wp2_with (go_at_call 11; refine (new_one w1 per HG.out).mono ?_)
  rintro e w2 ⟨p2, va2, b2, rfl, ht2, hc2, hp2, hb2, hv2⟩
  have H2 := Lib.hid (Tim.new ht2 HG.out)
  have HN := Lib.hid (new_two_ne H1.out (Chg.refl _ w1) hp2 hb2)
  have H12 := Lib.hid (H1.out.quiet hc2)
  have C2 := Lib.hid (C1.out.comp hc2 (fun _ _ f => f))
  have FR := Lib.hid (show (w.heap.size ≤ p ∧ w.heap.size ≤ b) ∧ w.heap.size ≤ p2 ∧ w.heap.size ≤ b2 from ⟨P1.out, Nat.le_trans C1.out.size hp2, Nat.le_trans C1.out.size hb2⟩)
  replace e0 := keep_cell (K1.out.comp hc2 (fun _ _ f => f)) e0
  replace e1 := keep_cell (K1.out.comp hc2 (fun _ _ f => f)) e1
  have hbl : w.heap.size < w2.heap.size := block_lt_of_cell e0
  clear ht2 hc2 hp2 hb2 hv2 H1 C1 K1
  go_wp2_with fail
  clear e0 e1 hbl
  go_loopw [13, 14, 15] (LateRel w p b p2 b2 va va2 per x y n) (fun _ _ sv _ => n - (intOf sv).toNat)
  case atStart => exact ⟨0, [], [], [], [], [], by omega, rfl, rfl, rfl, Lat.nil _ _, Lat.nil _ _, H12.out, H2.out, C2.out⟩
  case round =>
    obtain ⟨s, R, E, M, E', M', hs, rfl, rfl, rfl, hl, hl2, ht, ht2, hch⟩ := hrel
    have HL := Lib.hid hl
    have HL2 := Lib.hid hl2
    have HT := Lib.hid ht
    have HT2 := Lib.hid ht2
    have HC := Lib.hid hch
    have hE : E.length ≤ s := by have := hl.len; have h2 := hl.all; rw [h2] at this; simp at this; omega
    have hE2 : E'.length ≤ s := by have := hl2.len; have h2 := hl2.all; rw [h2] at this; simp at this; omega
    have hM : M.length ≤ s := by have := hl.len; have h2 := hl.all; rw [h2] at this; simp at this; omega
    have hM2 : M'.length ≤ s := by have := hl2.len; have h2 := hl2.all; rw [h2] at this; simp at this; omega
    clear hl hl2 ht ht2 hch H12 H2 C2
    by_cases hlt : s < n
    · have hlt' : (s : Int) < (n : Int) := by omega
      go_wp2_with (go_at_call 14; refine (HT.out.late HL.out (by omega) (by omega) (by omega)).mono ?_)
      rintro e w3 ⟨A3, c3, k3, rfl, hk3, ht3, hc3⟩
      have K3 := Lib.hid hk3
      clear hk3
      have HT3 := Lib.hid ht3
      have HU3 := Lib.hid (HT2.out.apart HT.out HN.out.1.symm HN.out.2.symm hc3)
      have HC3 := Lib.hid (HC.out.comp hc3 (fun i hi e => by have := FR.out; rcases e with rfl | rfl <;> omega))
      clear ht3 hc3
      go_wp2_with (go_at_call 14; refine (HU3.out.late HL2.out (by omega) (by omega) (by omega)).mono ?_)
      rintro e w4 ⟨A4, c4, k4, rfl, hk4, ht4, hc4⟩
      have HT4 := Lib.hid (HT3.out.apart HU3.out HN.out.1 HN.out.2 hc4)
      have HU4 := Lib.hid ht4
      have K4 := Lib.hid hk4
      clear hk4
      have HC4 := Lib.hid (HC3.out.comp hc4 (fun i hi e => by have := FR.out; rcases e with rfl | rfl <;> omega))
      clear ht4 hc4
      obtain ⟨l1, o1⟩ := HL.out.step (by omega)
      obtain ⟨l2, o2⟩ := HL2.out.step (by omega)
      have hle := Lat.le (by omega) l1 l2
      rw [List.length_append, List.length_append, ← K3.out, ← K4.out] at hle
      rw [← K3.out] at o1
      rw [← K4.out] at o2
      have hk : ¬ (E.length : Int) + (k3 : Int) < (E'.length : Int) + (k4 : Int) := by omega
      have hk1 : ¬ (1 : Int) < (k4 : Int) := by omega
      have L1 := Lib.hid l1
      have L2 := Lib.hid l2
      clear l1 l2
      go_wp2_with fail
      refine wp_loop_rounds 1 ?_
      rw [rounds_succ]
      go_wp2_with fail
      go_roundw
      case rel => exact ⟨s + 1, _, _, _, _, _, by omega, by go_num, by rw [List.length_append, ← K3.out]; go_num, by rw [List.length_append, ← K4.out]; go_num, L1.out, L2.out, HT4.out, HU4.out, HC4.out⟩
      case measure => simp [intOf]; omega
    · have hlt' : ¬ (s : Int) < (n : Int) := by omega
      go_wp2_with (go_at_call 18; refine (HT.out.late_waiting (by omega)).mono ?_)
      rintro e w3 ⟨A3, c3, rfl, hc3⟩
      have HT3 := Lib.hid (HT2.out.quiet hc3)
      go_wp2_with (go_at_call 18; refine (HT3.out.late_waiting (by omega)).mono ?_)
      rintro e w4 ⟨A4, c4, rfl, hc4⟩
      have hsum : (E.length : Int) + (M.length : Int) = (E'.length : Int) + (M'.length : Int) := by
        have h1 := congrArg List.length HL.out.all
        have h2 := congrArg List.length HL2.out.all
        rw [List.length_append] at h1 h2
        omega
      go_wp2_with (go_at_call 10; refine (known_calls _).mono ?_)
      rintro e w5 ⟨rfl, hc5⟩
      go_wp2_with fail
      go_ret
      exact ⟨rfl, ((HC.out.comp hc3 (fun _ _ f => f)).comp hc4 (fun _ _ f => f)).comp hc5 (fun _ _ f => f)⟩

set_option maxRecDepth 100000 in
set_option maxHeartbeats 4000000 in
theorem late_eq (w : World) (per x : Int) (n : Int) (hg : Good [per]) (h0 : 0 ≤ n) (h1 : n ≤ 255) (hx0 : 0 ≤ x) (hy1 : x ≤ 255) :
    Calls Try.prog 9 #[.int .i64 per, .agg #[.int .u8 x, .int .u8 x], .int .u8 n] w (OnlyBool true w) := by
  obtain ⟨n, rfl⟩ : ∃ k : Nat, n = (k : Int) := ⟨n.toNat, by omega⟩
  have HG := Lib.hid hg
  clear hg
  go_enter Try.func9, Try.ntmps9
  go_wp2_with (go_at_call 11; refine (new_lit1 _ _ per (heap_alloc2_new w _ _) HG.out).mono ?_)
  rintro e w1 ⟨p, va, b, rfl, ht1, hc1, hp1, hb1, hv1⟩
  have H1 := Lib.hid (Tim.new ht1 HG.out)
  have C1 := Lib.hid ((((Chg.refl (fun _ => False) w).alloc (.cells #[.int .u8 x, .int .u8 x] 56)).alloc (.cells #[.int .i64 per] 3)).comp hc1 (fun _ _ f => f))
  obtain ⟨e0, e1⟩ := cells2 (heap_alloc_new w (.cells #[.int .u8 x, .int .u8 x] 56))
  have K1 := Lib.hid (((Chg.refl (fun _ => False) (w.alloc (.cells #[.int .u8 x, .int .u8 x] 56))).alloc (.cells #[.int .i64 per] 3)).comp hc1 (fun _ _ f => f))
  have P1 := Lib.hid (show w.heap.size ≤ p ∧ w.heap.size ≤ b from ⟨Nat.le_trans (((Chg.refl (fun _ => False) w).alloc _).alloc _).size hp1, Nat.le_trans (((Chg.refl (fun _ => False) w).alloc _).alloc _).size hb1⟩)
  clear ht1 hc1 hv1 hp1 hb1
  go_wp2_with (go_at_call 11; refine (new_one w1 per HG.out).mono ?_)
  rintro e w2 ⟨p2, va2, b2, rfl, ht2, hc2, hp2, hb2, hv2⟩
  have H2 := Lib.hid (Tim.new ht2 HG.out)
  have HN := Lib.hid (new_two_ne H1.out (Chg.refl _ w1) hp2 hb2)
  have H12 := Lib.hid (H1.out.quiet hc2)
  have C2 := Lib.hid (C1.out.comp hc2 (fun _ _ f => f))
  have FR := Lib.hid (show (w.heap.size ≤ p ∧ w.heap.size ≤ b) ∧ w.heap.size ≤ p2 ∧ w.heap.size ≤ b2 from ⟨P1.out, Nat.le_trans C1.out.size hp2, Nat.le_trans C1.out.size hb2⟩)
  replace e0 := keep_cell (K1.out.comp hc2 (fun _ _ f => f)) e0
  replace e1 := keep_cell (K1.out.comp hc2 (fun _ _ f => f)) e1
  have hbl : w.heap.size < w2.heap.size := block_lt_of_cell e0
  clear ht2 hc2 hp2 hb2 hv2 H1 C1 K1
  go_wp2_with fail
  clear e0 e1 hbl
  go_loopw [13, 14, 15] (LateRel w p b p2 b2 va va2 per x x n) (fun _ _ sv _ => n - (intOf sv).toNat)
  case atStart => exact ⟨0, [], [], [], [], [], by omega, rfl, rfl, rfl, Lat.nil _ _, Lat.nil _ _, H12.out, H2.out, C2.out⟩
  case round =>
    obtain ⟨s, R, E, M, E', M', hs, rfl, rfl, rfl, hl, hl2, ht, ht2, hch⟩ := hrel
    have HL := Lib.hid hl
    have HL2 := Lib.hid hl2
    have HT := Lib.hid ht
    have HT2 := Lib.hid ht2
    have HC := Lib.hid hch
    have hE : E.length ≤ s := by have := hl.len; have h2 := hl.all; rw [h2] at this; simp at this; omega
    have hE2 : E'.length ≤ s := by have := hl2.len; have h2 := hl2.all; rw [h2] at this; simp at this; omega
    have hM : M.length ≤ s := by have := hl.len; have h2 := hl.all; rw [h2] at this; simp at this; omega
    have hM2 : M'.length ≤ s := by have := hl2.len; have h2 := hl2.all; rw [h2] at this; simp at this; omega
    clear hl hl2 ht ht2 hch H12 H2 C2
    by_cases hlt : s < n
    · have hlt' : (s : Int) < (n : Int) := by omega
      go_wp2_with (go_at_call 14; refine (HT.out.late HL.out (by omega) (by omega) (by omega)).mono ?_)
      rintro e w3 ⟨A3, c3, k3, rfl, hk3, ht3, hc3⟩
      have K3 := Lib.hid hk3
      clear hk3
      have HT3 := Lib.hid ht3
      have HU3 := Lib.hid (HT2.out.apart HT.out HN.out.1.symm HN.out.2.symm hc3)
      have HC3 := Lib.hid (HC.out.comp hc3 (fun i hi e => by have := FR.out; rcases e with rfl | rfl <;> omega))
      clear ht3 hc3
      go_wp2_with (go_at_call 14; refine (HU3.out.late HL2.out (by omega) (by omega) (by omega)).mono ?_)
      rintro e w4 ⟨A4, c4, k4, rfl, hk4, ht4, hc4⟩
      have HT4 := Lib.hid (HT3.out.apart HU3.out HN.out.1 HN.out.2 hc4)
      have HU4 := Lib.hid ht4
      have K4 := Lib.hid hk4
      clear hk4
      have HC4 := Lib.hid (HC3.out.comp hc4 (fun i hi e => by have := FR.out; rcases e with rfl | rfl <;> omega))
      clear ht4 hc4
      obtain ⟨l1, o1⟩ := HL.out.step (by omega)
      obtain ⟨l2, o2⟩ := HL2.out.step (by omega)
      have hle := Lat.le (by omega) l1 l2
      rw [List.length_append, List.length_append, ← K3.out, ← K4.out] at hle
      rw [← K3.out] at o1
      rw [← K4.out] at o2
      have hk : ¬ (E.length : Int) + (k3 : Int) < (E'.length : Int) + (k4 : Int) := by omega
      have hk1 : ¬ (1 : Int) < (k4 : Int) := by omega
      have L1 := Lib.hid l1
      have L2 := Lib.hid l2
      clear l1 l2
      go_wp2_with fail
      refine wp_loop_rounds 1 ?_
      rw [rounds_succ]
      go_wp2_with fail
      go_roundw
      case rel => exact ⟨s + 1, _, _, _, _, _, by omega, by go_num, by rw [List.length_append, ← K3.out]; go_num, by rw [List.length_append, ← K4.out]; go_num, L1.out, L2.out, HT4.out, HU4.out, HC4.out⟩
      case measure => simp [intOf]; omega
    · have hlt' : ¬ (s : Int) < (n : Int) := by omega
      go_wp2_with (go_at_call 18; refine (HT.out.late_waiting (by omega)).mono ?_)
      rintro e w3 ⟨A3, c3, rfl, hc3⟩
      have HT3 := Lib.hid (HT2.out.quiet hc3)
      go_wp2_with (go_at_call 18; refine (HT3.out.late_waiting (by omega)).mono ?_)
      rintro e w4 ⟨A4, c4, rfl, hc4⟩
      have hsum : (E.length : Int) + (M.length : Int) = (E'.length : Int) + (M'.length : Int) := by
        have h1 := congrArg List.length HL.out.all
        have h2 := congrArg List.length HL2.out.all
        rw [List.length_append] at h1 h2
        omega
      go_wp2_with (go_at_call 10; refine (known_calls _).mono ?_)
      rintro e w5 ⟨rfl, hc5⟩
      go_wp2_with fail
      go_ret
      exact ⟨rfl, ((HC.out.comp hc3 (fun _ _ f => f)).comp hc4 (fun _ _ f => f)).comp hc5 (fun _ _ f => f)⟩

set_option maxRecDepth 100000 in
set_option maxHeartbeats 4000000 in
theorem late_gt (w : World) (per x y : Int) (n : Int) (hg : Good [per]) (h0 : 0 ≤ n) (h1 : n ≤ 255) (hx0 : 0 ≤ y) (hy1 : x ≤ 255) (hxy : y < x) :
    Calls Try.prog 9 #[.int .i64 per, .agg #[.int .u8 x, .int .u8 y], .int .u8 n] w (OnlyBool true w) := by
  obtain ⟨n, rfl⟩ : ∃ k : Nat, n = (k : Int) := ⟨n.toNat, by omega⟩
  have HG := Lib.hid hg
  clear hg
  go_enter Try.func9, Try.ntmps9
  go_wp2_with (go_at_call 11; refine (new_lit1 _ _ per (heap_alloc2_new w _ _) HG.out).mono ?_)
  rintro e w1 ⟨p, va, b, rfl, ht1, hc1, hp1, hb1, hv1⟩
  have H1 := Lib.hid (Tim.new ht1 HG.out)
  have C1 := Lib.hid ((((Chg.refl (fun _ => False) w).alloc (.cells #[.int .u8 x, .int .u8 y] 56)).alloc (.cells #[.int .i64 per] 3)).comp hc1 (fun _ _ f => f))
  obtain ⟨e0, e1⟩ := cells2 (heap_alloc_new w (.cells #[.int .u8 x, .int .u8 y] 56))
  have K1 := Lib.hid (((Chg.refl (fun _ => False) (w.alloc (.cells #[.int .u8 x, .int .u8 y] 56))).alloc (.cells #[.int .i64 per] 3)).comp hc1 (fun _ _ f => f))
  have P1 := Lib.hid (show w.heap.size ≤ p ∧ w.heap.size ≤ b from ⟨Nat.le_trans (((Chg.refl (fun _ => False) w).alloc _).alloc _).size hp1, Nat.le_trans (((Chg.refl (fun _ => False) w).alloc _).alloc _).size hb1⟩)
  clear ht1 hc1 hv1 hp1 hb1
  go_wp2_with (go_at_call 11; refine (new_one w1 per HG.out).mono ?_)
  rintro e w2 ⟨p2, va2, b2, rfl, ht2, hc2, hp2, hb2, hv2⟩
  have H2 := Lib.hid (Tim.new ht2 HG.out)
  have HN := Lib.hid (new_two_ne H1.out (Chg.refl _ w1) hp2 hb2)
  have H12 := Lib.hid (H1.out.quiet hc2)
  have C2 := Lib.hid (C1.out.comp hc2 (fun _ _ f => f))
  have FR := Lib.hid (show (w.heap.size ≤ p ∧ w.heap.size ≤ b) ∧ w.heap.size ≤ p2 ∧ w.heap.size ≤ b2 from ⟨P1.out, Nat.le_trans C1.out.size hp2, Nat.le_trans C1.out.size hb2⟩)
  replace e0 := keep_cell (K1.out.comp hc2 (fun _ _ f => f)) e0
  replace e1 := keep_cell (K1.out.comp hc2 (fun _ _ f => f)) e1
  have hbl : w.heap.size < w2.heap.size := block_lt_of_cell e0
  clear ht2 hc2 hp2 hb2 hv2 H1 C1 K1
  go_wp2_with fail
  clear e0 e1 hbl
  go_loopw [13, 14, 15] (LateRel w p b p2 b2 va va2 per y x n) (fun _ _ sv _ => n - (intOf sv).toNat)
  case atStart => exact ⟨0, [], [], [], [], [], by omega, rfl, rfl, rfl, Lat.nil _ _, Lat.nil _ _, H12.out, H2.out, C2.out⟩
  case round =>
    obtain ⟨s, R, E, M, E', M', hs, rfl, rfl, rfl, hl, hl2, ht, ht2, hch⟩ := hrel
    have HL := Lib.hid hl
    have HL2 := Lib.hid hl2
    have HT := Lib.hid ht
    have HT2 := Lib.hid ht2
    have HC := Lib.hid hch
    have hE : E.length ≤ s := by have := hl.len; have h2 := hl.all; rw [h2] at this; simp at this; omega
    have hE2 : E'.length ≤ s := by have := hl2.len; have h2 := hl2.all; rw [h2] at this; simp at this; omega
    have hM : M.length ≤ s := by have := hl.len; have h2 := hl.all; rw [h2] at this; simp at this; omega
    have hM2 : M'.length ≤ s := by have := hl2.len; have h2 := hl2.all; rw [h2] at this; simp at this; omega
    clear hl hl2 ht ht2 hch H12 H2 C2
    by_cases hlt : s < n
    · have hlt' : (s : Int) < (n : Int) := by omega
      go_wp2_with (go_at_call 14; refine (HT.out.late HL.out (by omega) (by omega) (by omega)).mono ?_)
      rintro e w3 ⟨A3, c3, k3, rfl, hk3, ht3, hc3⟩
      have K3 := Lib.hid hk3
      clear hk3
      have HT3 := Lib.hid ht3
      have HU3 := Lib.hid (HT2.out.apart HT.out HN.out.1.symm HN.out.2.symm hc3)
      have HC3 := Lib.hid (HC.out.comp hc3 (fun i hi e => by have := FR.out; rcases e with rfl | rfl <;> omega))
      clear ht3 hc3
      go_wp2_with (go_at_call 14; refine (HU3.out.late HL2.out (by omega) (by omega) (by omega)).mono ?_)
      rintro e w4 ⟨A4, c4, k4, rfl, hk4, ht4, hc4⟩
      have HT4 := Lib.hid (HT3.out.apart HU3.out HN.out.1 HN.out.2 hc4)
      have HU4 := Lib.hid ht4
      have K4 := Lib.hid hk4
      clear hk4
      have HC4 := Lib.hid (HC3.out.comp hc4 (fun i hi e => by have := FR.out; rcases e with rfl | rfl <;> omega))
      clear ht4 hc4
      obtain ⟨l1, o1⟩ := HL.out.step (by omega)
      obtain ⟨l2, o2⟩ := HL2.out.step (by omega)
      have hle := Lat.le (by omega) l1 l2
      rw [List.length_append, List.length_append, ← K3.out, ← K4.out] at hle
      rw [← K3.out] at o1
      rw [← K4.out] at o2
      have hk : ¬ (E.length : Int) + (k3 : Int) < (E'.length : Int) + (k4 : Int) := by omega
      have hk1 : ¬ (1 : Int) < (k4 : Int) := by omega
      have L1 := Lib.hid l1
      have L2 := Lib.hid l2
      clear l1 l2
      go_wp2_with fail
      refine wp_loop_rounds 1 ?_
      rw [rounds_succ]
      go_wp2_with fail
      go_roundw
      case rel => exact ⟨s + 1, _, _, _, _, _, by omega, by go_num, by rw [List.length_append, ← K3.out]; go_num, by rw [List.length_append, ← K4.out]; go_num, L1.out, L2.out, HT4.out, HU4.out, HC4.out⟩
      case measure => simp [intOf]; omega
    · have hlt' : ¬ (s : Int) < (n : Int) := by omega
      go_wp2_with (go_at_call 18; refine (HT.out.late_waiting (by omega)).mono ?_)
      rintro e w3 ⟨A3, c3, rfl, hc3⟩
      have HT3 := Lib.hid (HT2.out.quiet hc3)
      go_wp2_with (go_at_call 18; refine (HT3.out.late_waiting (by omega)).mono ?_)
      rintro e w4 ⟨A4, c4, rfl, hc4⟩
      have hsum : (E.length : Int) + (M.length : Int) = (E'.length : Int) + (M'.length : Int) := by
        have h1 := congrArg List.length HL.out.all
        have h2 := congrArg List.length HL2.out.all
        rw [List.length_append] at h1 h2
        omega
      go_wp2_with (go_at_call 10; refine (known_calls _).mono ?_)
      rintro e w5 ⟨rfl, hc5⟩
      go_wp2_with fail
      go_ret
      exact ⟨rfl, ((HC.out.comp hc3 (fun _ _ f => f)).comp hc4 (fun _ _ f => f)).comp hc5 (fun _ _ f => f)⟩

set_option maxRecDepth 100000 in
set_option maxHeartbeats 4000000 in
theorem late_bad (w : World) (per x y : Int) (v : Value) (hg : ¬ Good [per]) :
    Calls Try.prog 9 #[.int .i64 per, .agg #[.int .u8 x, .int .u8 y], v] w (OnlyBool true w) := by
  have HG := Lib.hid hg
  clear hg
  go_enter Try.func9, Try.ntmps9
  go_wp2_with (go_at_call 11; refine (err_lit1 _ _ per (heap_alloc2_new w _ _) HG.out).mono ?_)
  rintro e w1 ⟨rfl, hc1⟩
  go_wp2_with (go_at_call 11; refine (err_one w1 per HG.out).mono ?_)
  rintro e w2 ⟨rfl, hc2⟩
  go_wp2_with (go_at_call 10; refine (known_calls _).mono ?_)
  rintro e w5 ⟨rfl, hc5⟩
  go_wp2_with fail
  go_ret
  exact ⟨rfl, (((((Chg.refl _ w).alloc _).alloc _).comp hc1 (fun _ _ f => f)).comp hc2 (fun _ _ f => f)).comp hc5 (fun _ _ f => f)⟩

theorem late_calls (w : World) (per x y n : Int) (h0 : 0 ≤ n) (h1 : n ≤ 255) (hx0 : 0 ≤ x) (hx1 : x ≤ 255) (hy0 : 0 ≤ y) (hy1 : y ≤ 255) :
    Calls Try.prog 9 #[.int .i64 per, .agg #[.int .u8 x, .int .u8 y], .int .u8 n] w (OnlyBool true w) := by
  by_cases hg : Good [per]
  · rcases Int.lt_trichotomy x y with h | h | h
    · exact late_lt w per x y n hg h0 h1 hx0 hy1 h
    · subst h
      exact late_eq w per x n hg h0 h1 hx0 hx1
    · exact late_gt w per x y n hg h0 h1 hy0 hx1 h
  · exact late_bad w per x y _ hg

end Go.Proofs.Ytnhnmjdmenehoaa

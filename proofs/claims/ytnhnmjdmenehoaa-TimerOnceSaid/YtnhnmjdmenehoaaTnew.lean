import Derived.Test.YtnhnmjdmenehoaaTsmall
namespace Go.Proofs.Ytnhnmjdmenehoaa
open Go.RowKit

set_option maxRecDepth 100000 in
set_option maxHeartbeats 1000000 in
theorem new_bad (w : World) (b off c : Nat) (ps : List Int) (hr : ∀ k x, ps[k]? = some x → w.cell? ⟨b, off + k, none⟩ = some (.int .i64 x)) (h1 : 1 ≤ ps.length) (h8 : ps.length ≤ 8) (hb : ¬ GoodP ps) :
    Calls Try.prog 11 #[.slice (some ⟨b, off, none⟩) ps.length c] w (ErrPost w) := by
  have h0 : ((ps.length : Int) == 0) = false := beq_eq_false_iff_ne.2 (by omega)
  have HR := Lib.hid hr
  have HB := Lib.hid hb
  clear hr hb
  go_enter Try.func11, Try.ntmps11
  go_wp2_with fail
  go_loop [16] (fun i => ∃ k : Nat, k ≤ ps.length ∧ i = .int .i64 k ∧ Hid (∀ j x, j < k → ps[j]? = some x → 1 ≤ x ∧ x ≤ 1048576)) (fun i => ps.length - (intOf i).toNat)
  case atStart => exact ⟨0, by omega, rfl, fun j x hj => by omega⟩
  case round =>
    obtain ⟨k, hk, rfl, Hg⟩ := hrel
    by_cases hlt : k < ps.length
    · obtain ⟨x, hx⟩ : ∃ x, ps[k]? = some x := ⟨ps[k], List.getElem?_eq_getElem hlt⟩
      have hc := HR.out k x hx
      have Hx := Lib.hid hx
      clear hx
      by_cases hx1 : x < 1
      · go_wp2_with fail
        go_ret2
        exact ⟨rfl, Chg.refl _ _⟩
      · by_cases hx2 : 1048576 < x
        · go_wp2_with fail
          go_ret2
          exact ⟨rfl, Chg.refl _ _⟩
        · go_wp2_with fail
          go_round
          case rel =>
            refine ⟨k + 1, by omega, by go_num, fun j y hj hy => ?_⟩
            by_cases hjk : j = k
            · subst hjk
              have := Hx.out
              rw [this] at hy
              injection hy with hy
              omega
            · exact Hg.out j y (by omega) hy
          case measure => simp [intOf]; omega
    · exact absurd (fun y hy => by
        obtain ⟨j, hj⟩ := List.mem_iff_getElem?.1 hy
        exact Hg.out j y (by have := (List.getElem?_eq_some_iff.1 hj).1; omega) hj) HB.out

set_option maxRecDepth 100000 in
set_option maxHeartbeats 1000000 in
theorem new_good (w : World) (b off c : Nat) (ps : List Int) (hr : ∀ k x, ps[k]? = some x → w.cell? ⟨b, off + k, none⟩ = some (.int .i64 x)) (h1 : 1 ≤ ps.length) (h8 : ps.length ≤ 8) (hb : GoodP ps) :
    Calls Try.prog 11 #[.slice (some ⟨b, off, none⟩) ps.length c] w (NewPost w ps) := by
  have h0 : ((ps.length : Int) == 0) = false := beq_eq_false_iff_ne.2 (by omega)
  have hnw := Lib.hid (Reads.news (w := w) (A := some ⟨b, off, none⟩) (l := ps) ⟨by simp only [maxLen]; omega, .inr ⟨b, off, rfl, hr⟩⟩)
  have HR := Lib.hid hr
  have HB := Lib.hid hb
  clear hr hb
  have hmm := @run_makeMap Try.prog
  go_enter Try.func11, Try.ntmps11
  go_wp2_with fail
  go_loop [16] (fun i => ∃ k : Nat, k ≤ ps.length ∧ i = .int .i64 k) (fun i => ps.length - (intOf i).toNat)
  case atStart => exact ⟨0, by omega, rfl⟩
  case round =>
    obtain ⟨k, hk, rfl⟩ := hrel
    by_cases hlt : k < ps.length
    · obtain ⟨x, hx⟩ : ∃ x, ps[k]? = some x := ⟨ps[k], List.getElem?_eq_getElem hlt⟩
      have hc := HR.out k x hx
      obtain ⟨hx1, hx2⟩ := HB.out x (List.mem_of_getElem? hx)
      clear hx
      go_wp2_with fail
      go_round
      case rel => exact ⟨k + 1, by omega, by go_num⟩
      case measure => simp [intOf]; omega
    · go_wp2_with (at_builtin; refine wpList_append_Own rfl (.const (.slice none 0 0)) (.tmp 27) 22 rfl 3 _ 1 8 Try.underlying22 Try.info3 rfl (by decide) (.slice none 0 0) 0 [] rfl (Own.nil _ _ _) (some ⟨b, off, none⟩) ps.length c (ints ps) rfl (by rw [ints_length, Nat.mul_one]) hnw.out (ints_one' ps) (by omega) (by omega) ?_)
      intro v' w' ho hchg hbl hf
      obtain ⟨A', c', hv'⟩ := ho.slice
      subst hv'
      have Ho := Lib.hid ho
      have Hc := Lib.hid (hchg.mono (T := fun _ => False) (by simp [Value.ownBlock]))
      have Hbl := Lib.hid hbl
      clear ho hchg hbl hf
      go_wp2_with fail
      go_ret2
      refine ⟨w'.heap.size + 1, .slice A' ps.length c', w'.heap.size, rfl, ⟨?_, ?_, ?_⟩, (Hc.out.alloc _).alloc _, ?_, Hc.out.size, ?_⟩
      · exact heap_alloc2_new w' _ _
      · exact (Ho.out.alloc _).alloc _
      · exact (Holds.made w').alloc _
      · have := Hc.out.size; omega
      · intro k hk
        rcases Hbl.out with hb | hb
        · rw [hb] at hk; simp [Value.ownBlock] at hk
        · rw [hb] at hk; injection hk with hk; omega

theorem new_calls (w : World) (A : Option Addr) (c : Nat) (ps : List Int) (hr : Reads w A ps) (hg : Good ps) : Calls Try.prog 11 #[.slice A ps.length c] w (NewPost w ps) := by
  obtain ⟨h1, h8, hp⟩ := hg
  rcases hr.2 with h | ⟨b, off, rfl, hh⟩
  · rw [h] at h1; simp at h1
  · exact new_good w b off c ps hh h1 h8 hp
theorem new_err (w : World) (A : Option Addr) (c : Nat) (ps : List Int) (hr : Reads w A ps) (hg : ¬ Good ps) : Calls Try.prog 11 #[.slice A ps.length c] w (ErrPost w) := by
  have hl := hr.1
  simp only [maxLen] at hl
  by_cases h0 : ps.length = 0 ∨ 8 < ps.length
  · exact new_count w A _ c (by omega) h0
  · rcases hr.2 with h | ⟨b, off, rfl, hh⟩
    · rw [h] at h0; simp at h0
    · exact new_bad w b off c ps hh (by omega) (by omega) (fun hp => hg ⟨by omega, by omega, hp⟩)
end Go.Proofs.Ytnhnmjdmenehoaa

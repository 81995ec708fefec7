import Derived.Test.YtnhnmjdmenehoaaRwait
namespace Go.Proofs.Ytnhnmjdmenehoaa
open Go.RowKit

theorem reads_any {w : World} {A : Option Addr} {l : List Int} {k : Nat} {x : Int} (h : Reads w A l) (hx : l[k]? = some x) : ∃ b off, A = some ⟨b, off, none⟩ ∧ w.cell? ⟨b, off + k, none⟩ = some (.int .i64 x) := by
  rcases h.2 with h | ⟨b, off, rfl, hh⟩
  · rw [h] at hx; simp at hx
  · exact ⟨b, off, rfl, hh k x hx⟩

set_option maxRecDepth 100000 in
set_option maxHeartbeats 1000000 in
theorem rnew_bad (w : World) (A : Option Addr) (c : Nat) (ps : List Int) (hr : Reads w A ps) (hb : ¬ GoodP ps) :
    Calls Try.prog 12 #[.slice A ps.length c] w (ErrPost w) := by
  have hml : ps.length ≤ 9223372036854775807 := by have := hr.1; simp only [maxLen] at this; omega
  have HR := Lib.hid hr
  have HB := Lib.hid hb
  clear hr hb
  go_enter Try.func12, Try.ntmps12
  go_wp2_with fail
  go_loop [4] (fun i => ∃ k : Nat, k ≤ ps.length ∧ i = .int .i64 k ∧ Hid (∀ j x, j < k → ps[j]? = some x → 1 ≤ x ∧ x ≤ 1048576)) (fun i => ps.length - (intOf i).toNat)
  case atStart => exact ⟨0, by omega, rfl, fun j x hj => by omega⟩
  case round =>
    obtain ⟨k, hk, rfl, Hg⟩ := hrel
    by_cases hlt : k < ps.length
    · have hlt' : (k : Int) < (ps.length : Int) := by omega
      obtain ⟨x, hx⟩ : ∃ x, ps[k]? = some x := ⟨ps[k], List.getElem?_eq_getElem hlt⟩
      obtain ⟨b, off, rfl, hc⟩ := reads_any HR.out hx
      have Hx := Lib.hid hx
      clear hx
      by_cases hx1 : x < 1
      · go_wp2_with fail
        go_ret2
        exact ⟨rfl, Chg.refl _ _⟩
      · by_cases hx2 : 1048576 < x
        · go_wp2_with fail
          go_ret2
          exact ⟨rfl, Chg.refl _ _⟩
        · go_wp2_with fail
          go_round
          case rel =>
            refine ⟨k + 1, by omega, by go_num, fun j y hj hy => ?_⟩
            by_cases hjk : j = k
            · subst hjk
              have := Hx.out
              rw [this] at hy
              injection hy with hy
              omega
            · exact Hg.out j y (by omega) hy
          case measure => simp [intOf]; omega
    · exact absurd (fun y hy => by
        obtain ⟨j, hj⟩ := List.mem_iff_getElem?.1 hy
        exact Hg.out j y (by have := (List.getElem?_eq_some_iff.1 hj).1; omega) hj) HB.out

theorem own_empty (w : World) : Own (w.alloc (.cells #[] 3)) 3 1 (.slice (some ⟨w.heap.size, 0, none⟩) 0 0) 0 [] :=
  ⟨rfl, .inr ⟨w.heap.size, 0, #[], rfl, heap_alloc_new w _, Nat.le_refl _, by simp [maxLen], by simp, rfl⟩⟩

/-- What the reference's New answers where the periods can be. -/
def RefPost (w : World) (ps : List Int) (e : Ending) (w' : World) : Prop :=
  ∃ q va, e = .returned (.tuple #[.pointer (some ⟨q, 0, none⟩), .int .i64 0]) ∧ RefAt w' q va (.slice none 0 0) ps 0 [] ∧ Chg (fun _ => False) w w' ∧ w.heap.size ≤ q ∧ ∀ k, va.ownBlock = some k → w.heap.size ≤ k

set_option maxRecDepth 100000 in
set_option maxHeartbeats 1000000 in
theorem rnew_count (w : World) (A : Option Addr) (c : Nat) (ps : List Int) (hr : Reads w A ps) (hb : GoodP ps) (hl : ps.length < 1 ∨ 8 < ps.length) :
    Calls Try.prog 12 #[.slice A ps.length c] w (ErrPost w) := by
  have hml : ps.length ≤ 9223372036854775807 := by have := hr.1; simp only [maxLen] at this; omega
  have HR := Lib.hid hr
  have HB := Lib.hid hb
  have HL := Lib.hid hl
  clear hr hb hl
  go_enter Try.func12, Try.ntmps12
  go_wp2_with fail
  go_loop [4] (fun i => ∃ k : Nat, k ≤ ps.length ∧ i = .int .i64 k) (fun i => ps.length - (intOf i).toNat)
  case atStart => exact ⟨0, by omega, rfl⟩
  case round =>
    obtain ⟨k, hk, rfl⟩ := hrel
    by_cases hlt : k < ps.length
    · have hlt' : (k : Int) < (ps.length : Int) := by omega
      obtain ⟨x, hx⟩ : ∃ x, ps[k]? = some x := ⟨ps[k], List.getElem?_eq_getElem hlt⟩
      obtain ⟨b, off, rfl, hc⟩ := reads_any HR.out hx
      obtain ⟨hx1, hx2⟩ := HB.out x (List.mem_of_getElem? hx)
      have hx3 : ¬ x < 1 := by omega
      have hx4 : ¬ 1048576 < x := by omega
      clear hx
      go_wp2_with fail
      go_round
      case rel => exact ⟨k + 1, by omega, by go_num⟩
      case measure => simp [intOf]; omega
    · have hlt' : ¬ (k : Int) < (ps.length : Int) := by omega
      rcases HL.out with h | h
      · have h' : (ps.length : Int) < 1 := by omega
        go_wp2_with fail
        go_ret2
        exact ⟨rfl, Chg.refl _ _⟩
      · have h' : ¬ (ps.length : Int) < 1 := by omega
        have h2 : (8 : Int) < (ps.length : Int) := by omega
        go_wp2_with fail
        go_ret2
        exact ⟨rfl, Chg.refl _ _⟩

set_option maxRecDepth 100000 in
set_option maxHeartbeats 1000000 in
theorem rnew_good (w : World) (A : Option Addr) (c : Nat) (ps : List Int) (hr : Reads w A ps) (hg : Good ps) :
    Calls Try.prog 12 #[.slice A ps.length c] w (RefPost w ps) := by
  obtain ⟨g1, g8, hb⟩ := hg
  have HNW := Lib.hid (hr.keep ((Chg.refl (fun _ => False) w).alloc (.cells #[] 3))).news
  have HR := Lib.hid hr
  have HB := Lib.hid hb
  clear hr hb
  go_enter Try.func12, Try.ntmps12
  go_wp2_with fail
  go_loop [4] (fun i => ∃ k : Nat, k ≤ ps.length ∧ i = .int .i64 k) (fun i => ps.length - (intOf i).toNat)
  case atStart => exact ⟨0, by omega, rfl⟩
  case round =>
    obtain ⟨k, hk, rfl⟩ := hrel
    by_cases hlt : k < ps.length
    · have hlt' : (k : Int) < (ps.length : Int) := by omega
      obtain ⟨x, hx⟩ : ∃ x, ps[k]? = some x := ⟨ps[k], List.getElem?_eq_getElem hlt⟩
      obtain ⟨b, off, rfl, hc⟩ := reads_any HR.out hx
      obtain ⟨hx1, hx2⟩ := HB.out x (List.mem_of_getElem? hx)
      have hx3 : ¬ x < 1 := by omega
      have hx4 : ¬ 1048576 < x := by omega
      clear hx
      go_wp2_with fail
      go_round
      case rel => exact ⟨k + 1, by omega, by go_num⟩
      case measure => simp [intOf]; omega
    · have hlt' : ¬ (k : Int) < (ps.length : Int) := by omega
      have h1 : ¬ (ps.length : Int) < 1 := by omega
      have h2 : ¬ (8 : Int) < (ps.length : Int) := by omega
      go_wp2_with (at_builtin; refine wpList_append_Own rfl (.tmp 31) (.tmp 32) 22 rfl 3 _ 1 8 Try.underlying22 Try.info3 rfl (by decide) (.slice (some ⟨w.heap.size, 0, none⟩) 0 0) 0 [] rfl (own_empty w) A ps.length c (ints ps) rfl (by rw [ints_length, Nat.mul_one]) HNW.out (ints_one' ps) (by omega) (by omega) ?_; intro v' w' ho hchg hbl hf; obtain ⟨g', cap', hv'⟩ := hf (by omega); subst hv'; have Hx := Lib.hid ho; have Hc := Lib.hid hchg; have Hb := Lib.hid hbl; clear ho hchg hbl hf)
      go_ret2
      have hc0 : Chg (fun _ => False) w w' := ((Chg.refl (fun _ => False) w).alloc (.cells #[] 3)).comp Hc.out (fun i hi e => by simp [Value.ownBlock] at e; omega)
      have hx := Hx.out
      rw [Nat.zero_add, List.nil_append] at hx
      refine ⟨w'.heap.size, .slice (some ⟨g', 0, none⟩) ps.length cap', rfl, ⟨heap_alloc_new w' _, hx.alloc _, Own.nil _ _ _⟩, hc0.alloc _, hc0.size, fun k hk => ?_⟩
      have h3 : (Value.slice (some ⟨g', 0, none⟩) (0 + ps.length) cap').ownBlock = some k := hk
      rcases Hb.out with hb | hb
      · rw [hb] at h3
        simp [Value.ownBlock] at h3
        omega
      · rw [hb] at h3
        injection h3 with h3
        simp at h3
        omega

theorem rnew_err (w : World) (A : Option Addr) (c : Nat) (ps : List Int) (hr : Reads w A ps) (hg : ¬ Good ps) : Calls Try.prog 12 #[.slice A ps.length c] w (ErrPost w) := by
  by_cases hb : GoodP ps
  · refine rnew_count w A c ps hr hb ?_
    by_cases h1 : ps.length < 1
    · exact .inl h1
    · exact .inr (Nat.lt_of_not_le fun h8 => hg ⟨by omega, h8, hb⟩)
  · exact rnew_bad w A c ps hr hb
end Go.Proofs.Ytnhnmjdmenehoaa

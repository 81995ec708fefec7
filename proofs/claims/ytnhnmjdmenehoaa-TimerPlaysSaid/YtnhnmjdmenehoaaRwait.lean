import Derived.Test.YtnhnmjdmenehoaaTknw
namespace Go.Proofs.Ytnhnmjdmenehoaa
open Go.RowKit

def RWaitRel (w : World) (xs : List D) (out i : Value) (wr : World) : Prop :=
  ∃ (k : Nat) (A : Option Addr) (c : Nat), k ≤ xs.length ∧ i = .int .i64 k ∧ out = .slice A k c ∧ Own wr 58 2 (.slice A k c) k (dcs (xs.take k)) ∧ Chg (fun _ => False) w wr ∧ (∀ b, (Value.slice A k c).ownBlock = some b → w.heap.size ≤ b)

set_option maxRecDepth 100000 in
set_option maxHeartbeats 4000000 in
theorem rwaiting_calls (w : World) (q : Nat) (va vl : Value) (ps : List Int) (now : Int) (L : List (D × Int)) (h : RefAt w q va vl ps now L) (hl : L.length ≤ 5000) :
    Calls Try.prog 19 #[.pointer (some ⟨q, 0, none⟩)] w (NewDues 58 w (L.map Prod.fst)) := by
  obtain ⟨Al, cl, rfl⟩ := h.row.slice
  obtain ⟨xs, hxs⟩ : ∃ xs, L.map Prod.fst = xs := ⟨_, rfl⟩
  have hlen : L.length = xs.length := by rw [← hxs]; simp
  have HX := Lib.hid hxs
  rw [hxs]
  have H := Lib.hid h
  have HL := Lib.hid hlen
  have hxl : xs.length ≤ 5000 := by omega
  clear h hxs
  rw [hlen] at H
  clear hlen hl
  go_enter Try.func19, Try.ntmps19
  go_wp2_with fail
  go_loopw [3, 4] (RWaitRel w xs) (fun _ i _ => xs.length - (intOf i).toNat)
  case atStart => exact ⟨0, none, 0, by omega, rfl, rfl, Own.nil _ _ _, Chg.refl _ _, by simp [Value.ownBlock]⟩
  case round =>
    obtain ⟨k, A, c, hk, rfl, rfl, ho, hch, hfr⟩ := hrel
    have HR := Lib.hid (H.out.quiet hch)
    obtain ⟨k0, k1, k2, q0, q1, q2, hplt⟩ := cells3 HR.out.heap
    have Ho := Lib.hid ho
    have Hch := Lib.hid hch
    have Hfr := Lib.hid hfr
    clear ho hch hfr
    by_cases hlt2 : k < xs.length
    · have hlt3 : (k : Int) < (xs.length : Int) := by omega
      obtain ⟨⟨⟨x, n⟩, v⟩, hj⟩ : ∃ j, L[k]? = some j := ⟨L[k]'(by have := HL.out; omega), List.getElem?_eq_getElem _⟩
      have hrow := HR.out.row
      rw [HL.out] at hrow
      obtain ⟨g, cap, hv, _, _, hg⟩ := hrow.form (by omega)
      injection hv with hv1 _ hv2
      subst hv1; subst hv2
      obtain ⟨c0, c1, c2⟩ := Own.wait hrow HL.out.symm hj
      have Hj := Lib.hid (show xs[k]? = some ⟨x, n⟩ by rw [← HX.out, List.getElem?_map, hj]; rfl)
      clear hj hrow
      go_wp2_with (at_builtin; refine wpList_append_Own rfl (.tmp 14) (.tmp 23) 35 rfl 58 _ 2 16 Try.underlying35 Try.info58 rfl (by decide) (.slice A k c) k (dcs (xs.take k)) rfl (by exact Ho.out.alloc _) (some ⟨wr.heap.size, 0, none⟩) 1 1 [.int .i64 x, .int .i64 n] rfl (by rfl) (news_due (by exact heap_alloc_new wr _)) (by simp; exact ⟨rfl, rfl⟩) (by omega) (by omega) ?_; intro v' w' ho hchg hbl hf; obtain ⟨g', cap', hv'⟩ := hf (by omega); subst hv'; have Hx := Lib.hid ho; have Hc := Lib.hid hchg; have Hb := Lib.hid hbl; clear ho hchg hbl hf)
      go_roundw
      case rel =>
        have hr12 := grown_all (Hch.out.alloc (.cells #[.int .i64 x, .int .i64 n] 58)) Hfr.out Hc.out Hb.out
        have hx := Hx.out
        rw [← dcs_one ⟨x, n⟩, ← dcs_append, ← take_one Hj.out] at hx
        exact ⟨k + 1, some ⟨g', 0, none⟩, cap', by omega, by go_num, rfl, hx, hr12.1, hr12.2⟩
      case measure => simp [intOf]; omega
    · have hlt3 : ¬ (k : Int) < (xs.length : Int) := by omega
      have hk2 : xs.length ≤ k := by omega
      go_wp2_with fail
      go_ret
      have e : k = xs.length := by omega
      have ho := Ho.out
      have hf := Hfr.out
      rw [List.take_of_length_le hk2] at ho
      subst e
      exact ⟨A, c, rfl, ho, Hch.out, hf⟩
end Go.Proofs.Ytnhnmjdmenehoaa

import Derived.Test.YtnhnmjdmenehoaaTknw
namespace Go.Proofs.Ytnhnmjdmenehoaa
open Go.RowKit

def Zero (w : World) (p : Nat) : Prop := w.heap[p]? = some (.cells #[.slice none 0 0, .int .i64 0, .map none] 53 (0, 0))
def Only (v : Value) (w : World) (e : Ending) (w' : World) : Prop := e = .returned v ∧ w = w'

theorem tick_nil (w : World) (sv : Value) : Calls Try.prog 14 #[.pointer none, sv] w (Only (.slice none 0 0) w) := by
  go_enter Try.func14, Try.ntmps14
  go_wp2_with (go_at_call 21; refine (there_nil _).mono ?_; rintro e w' ⟨rfl, rfl⟩)
  go_ret
  exact ⟨rfl, rfl⟩
theorem tick_zero (w : World) (p : Nat) (sv : Value) (h : Zero w p) : Calls Try.prog 14 #[.pointer (some ⟨p, 0, none⟩), sv] w (Only (.slice none 0 0) w) := by
  have H := Lib.hid h
  clear h
  go_enter Try.func14, Try.ntmps14
  go_wp2_with (go_at_call 21; refine (there_zero _ _ _ _ H.out).mono ?_; rintro e w' ⟨rfl, rfl⟩)
  go_ret
  exact ⟨rfl, rfl⟩
theorem waiting_nil (w : World) : Calls Try.prog 18 #[.pointer none] w (Only (.slice none 0 0) w) := by
  go_enter Try.func18, Try.ntmps18
  go_wp2_with (go_at_call 21; refine (there_nil _).mono ?_; rintro e w' ⟨rfl, rfl⟩)
  go_ret
  exact ⟨rfl, rfl⟩
theorem waiting_zero (w : World) (p : Nat) (h : Zero w p) : Calls Try.prog 18 #[.pointer (some ⟨p, 0, none⟩)] w (Only (.slice none 0 0) w) := by
  have H := Lib.hid h
  clear h
  go_enter Try.func18, Try.ntmps18
  go_wp2_with (go_at_call 21; refine (there_zero _ _ _ _ H.out).mono ?_; rintro e w' ⟨rfl, rfl⟩)
  go_ret
  exact ⟨rfl, rfl⟩
theorem copy_nil (w : World) : Calls Try.prog 13 #[.pointer none] w (Only (.pointer none) w) := by
  go_enter Try.func13, Try.ntmps13
  go_wp2_with (go_at_call 21; refine (there_nil _).mono ?_; rintro e w' ⟨rfl, rfl⟩)
  go_ret
  exact ⟨rfl, rfl⟩
theorem copy_zero (w : World) (p : Nat) (h : Zero w p) : Calls Try.prog 13 #[.pointer (some ⟨p, 0, none⟩)] w (Only (.pointer none) w) := by
  have H := Lib.hid h
  clear h
  go_enter Try.func13, Try.ntmps13
  go_wp2_with (go_at_call 21; refine (there_zero _ _ _ _ H.out).mono ?_; rintro e w' ⟨rfl, rfl⟩)
  go_ret
  exact ⟨rfl, rfl⟩
theorem now_nil (w : World) : Calls Try.prog 20 #[.pointer none] w (Only (.int .i64 0) w) := by
  go_enter Try.func20, Try.ntmps20
  go_wp2
  go_ret
  exact ⟨rfl, rfl⟩
theorem now_zero (w : World) (p : Nat) (h : Zero w p) : Calls Try.prog 20 #[.pointer (some ⟨p, 0, none⟩)] w (Only (.int .i64 0) w) := by
  obtain ⟨c0, c1, c2, f0, f1, f2, hlt⟩ := cells3 h
  clear h
  go_enter Try.func20, Try.ntmps20
  go_wp2
  go_ret
  exact ⟨rfl, rfl⟩

set_option maxRecDepth 100000 in
set_option maxHeartbeats 2000000 in
theorem nil_calls (w : World) (sv : Value) : Calls Try.prog 6 #[sv] w (OnlyBool true w) := by
  have H := Lib.hid (show Zero (w.alloc (.cells #[.slice none 0 0, .int .i64 0, .map none] 53)) w.heap.size from heap_alloc_new w _)
  have HC := Lib.hid ((Chg.refl (fun _ => False) w).alloc (.cells #[.slice none 0 0, .int .i64 0, .map none] 53))
  go_enter Try.func6, Try.ntmps6
  go_wp2_with (go_at_call 14; refine (tick_nil _ _).mono ?_)
  rintro e w' ⟨rfl, rfl⟩
  go_wp2_with (go_at_call 14; refine (tick_zero _ _ _ H.out).mono ?_)
  rintro e w' ⟨rfl, rfl⟩
  go_wp2_with (go_at_call 18; refine (waiting_nil _).mono ?_)
  rintro e w' ⟨rfl, rfl⟩
  go_wp2_with (go_at_call 18; refine (waiting_zero _ _ H.out).mono ?_)
  rintro e w' ⟨rfl, rfl⟩
  go_wp2_with (go_at_call 20; refine (now_nil _).mono ?_)
  rintro e w' ⟨rfl, rfl⟩
  go_wp2_with (go_at_call 20; refine (now_zero _ _ H.out).mono ?_)
  rintro e w' ⟨rfl, rfl⟩
  go_wp2_with (go_at_call 13; refine (copy_nil _).mono ?_)
  rintro e w' ⟨rfl, rfl⟩
  go_wp2_with (go_at_call 13; refine (copy_zero _ _ H.out).mono ?_)
  rintro e w' ⟨rfl, rfl⟩
  go_wp2_with (go_at_call 10; refine (known_calls _).mono ?_)
  rintro e w' ⟨rfl, hc⟩
  go_wp2_with fail
  go_ret
  exact ⟨rfl, HC.out.comp hc (fun _ _ f => f)⟩
end Go.Proofs.Ytnhnmjdmenehoaa

import Derived.Test.YtnhnmjdmenehoaaTknown
namespace Go.Proofs.Ytnhnmjdmenehoaa
open Go.RowKit

section
variable {w w' W : World} {p b : Nat} {va : Value} {ps : List Int} {now : Int} {L : List (D × Int)}
theorem Tim.beside (h : Tim w p b va ps now L) {n : Nat} {v : Value} {xs : List Value} {E : TypeId} (ho : Own w E 2 v n xs) (hE : E ≠ 53) (hc : Chg (fun i => i = p ∨ i = b) w w') : Own w' E 2 v n xs := by
  refine ho.keep hc fun k hk e => ?_
  rcases e with rfl | rfl
  · exact ho.ne_blk h.at_.heap hE k hk rfl
  · exact h.at_.map.ne_own ho hk
theorem own_new {p b : Nat} (hc : Chg (fun _ => False) W w) (hp : W.heap.size ≤ p ∧ W.heap.size ≤ b) (hd : Chg (fun i => i = p ∨ i = b) w w') : Chg (fun _ => False) W w' :=
  hc.comp hd (fun i hi e => by rcases e with rfl | rfl <;> omega)
end

theorem kn1 : told [2, 3] 0 [] [0, 1] = [⟨0, 0⟩] ∧ left [2, 3] 0 [] [0, 1] = [(⟨1, 0⟩, 1)] := by
  simp [told, left, lay, rels, insAll, ins, jit, clamp, ltD, Int.max_def, Int.min_def]
theorem kn2 : told [2, 3] 1 [(⟨1, 0⟩, 1)] [] = [⟨1, 0⟩] ∧ left [2, 3] 1 [(⟨1, 0⟩, 1)] [] = [] := by
  simp [told, left, lay, rels, insAll, ins, ltD]
theorem kn3 : told [2, 3] 2 [] [-5] = [⟨0, 2⟩] ∧ left [2, 3] 2 [] [-5] = [] := by
  simp [told, left, lay, rels, insAll, ins, jit, clamp, ltD, Int.max_def, Int.min_def]
theorem known_t1 {w : World} {p b : Nat} {va : Value} (h : Tim w p b va [2, 3] 0 []) : Calls Try.prog 14 #[.pointer (some ⟨p, 0, none⟩), .slice (some ⟨w.heap.size, 0, none⟩) 2 2] (w.alloc (.cells #[.int .i64 0, .int .i64 1] 3)) (Known1 (w.alloc (.cells #[.int .i64 0, .int .i64 1] 3)) p b va 0 [⟨0, 0⟩] [(⟨1, 0⟩, 1)]) :=
  known_tick (h.alloc _) [0, 1] _ (pick_two w 0 1) (by omega) (by simp) _ _ kn1.1 kn1.2
theorem known_t2 {w : World} {p b : Nat} {va : Value} (h : Tim w p b va [2, 3] 1 [(⟨1, 0⟩, 1)]) : Calls Try.prog 14 #[.pointer (some ⟨p, 0, none⟩), .slice none 0 0] w (Known1 w p b va 1 [⟨1, 0⟩] []) :=
  known_tick h [] _ (pick_nil w) (by omega) (by simp) _ _ kn2.1 kn2.2
theorem known_t3 {w : World} {p b : Nat} {va : Value} (h : Tim w p b va [2, 3] 2 []) : Calls Try.prog 14 #[.pointer (some ⟨p, 0, none⟩), .slice (some ⟨w.heap.size, 0, none⟩) 1 1] (w.alloc (.cells #[.int .i64 (-5)] 3)) (Known1 (w.alloc (.cells #[.int .i64 (-5)] 3)) p b va 2 [⟨0, 2⟩] []) :=
  known_tick (h.alloc _) [-5] _ (pick_one w (-5)) (by omega) (by simp) _ _ kn3.1 kn3.2

set_option maxRecDepth 100000 in
set_option maxHeartbeats 2000000 in
theorem known_calls (w : World) : Calls Try.prog 10 #[] w (OnlyBool true w) := by
  go_enter Try.func10, Try.ntmps10
  go_wp2_with (go_at_call 11; refine (new_two w 2 3 good23).mono ?_)
  rintro e w1 ⟨p, va, b, rfl, ht1, hc1, hp1, hb1, hv1⟩
  have H1 := Lib.hid (Tim.new ht1 good23)
  have C1 := Lib.hid hc1
  have P1 := Lib.hid (show w.heap.size ≤ p ∧ w.heap.size ≤ b from ⟨hp1, hb1⟩)
  clear ht1 hc1 hp1 hb1 hv1
  go_wp2_with (go_at_call 11; refine (err_two w1 2 0 bad20).mono ?_)
  rintro e w2 ⟨rfl, hc2⟩
  have H2 := Lib.hid (H1.out.quiet hc2)
  have C2 := Lib.hid (C1.out.comp hc2 (fun _ _ f => f))
  clear hc2
  go_wp2_with (go_at_call 14; refine (known_t1 H2.out).mono ?_)
  rintro e w3 ⟨Aa, ca, rfl, ho3, hf3, ht3, hc3⟩
  have H3 := Lib.hid ht3
  have C3 := Lib.hid (own_new (C2.out.alloc _) P1.out hc3)
  have O1 := Lib.hid ho3
  clear ho3 hf3 ht3 hc3
  go_wp2_with (go_at_call 18; refine (H3.out.waiting (by simp)).mono ?_)
  rintro e w4 ⟨Ab, cb, rfl, ho4, hc4, hf4⟩
  have H4 := Lib.hid (H3.out.quiet hc4)
  have C4 := Lib.hid (C3.out.comp hc4 (fun _ _ f => f))
  have O14 := Lib.hid (O1.out.quiet hc4)
  have O24 := Lib.hid ho4
  clear ho4 hf4 hc4
  go_wp2_with (go_at_call 14; refine (known_t2 H4.out).mono ?_)
  rintro e w5 ⟨Ac, cc, rfl, ho5, hf5, ht5, hc5⟩
  have H5 := Lib.hid ht5
  have C5 := Lib.hid (own_new C4.out P1.out hc5)
  have O15 := Lib.hid (H4.out.beside O14.out (by decide) hc5)
  have O25 := Lib.hid (H4.out.beside O24.out (by decide) hc5)
  have O35 := Lib.hid ho5
  clear ho5 hf5 ht5 hc5
  go_wp2_with (go_at_call 14; refine (known_t3 H5.out).mono ?_)
  rintro e w6 ⟨Ad, cd, rfl, ho6, hf6, ht6, hc6⟩
  have H6 := Lib.hid ht6
  have C6 := Lib.hid (own_new (C5.out.alloc _) P1.out hc6)
  have O16 := Lib.hid ((H5.out.alloc _).beside (O15.out.alloc _) (by decide) hc6)
  have O26 := Lib.hid ((H5.out.alloc _).beside (O25.out.alloc _) (by decide) hc6)
  have O36 := Lib.hid ((H5.out.alloc _).beside (O35.out.alloc _) (by decide) hc6)
  have O46 := Lib.hid ho6
  clear ho6 hf6 ht6 hc6
  go_wp2_with (go_at_call 17; refine (plain_one _ Aa ca ⟨0, 0⟩ O16.out).mono ?_)
  rintro e w7 ⟨B0, d0, rfl, ho, hc, hf⟩
  have H7 := Lib.hid (H6.out.quiet hc)
  have C7 := Lib.hid (C6.out.comp hc (fun _ _ f => f))
  have O27 := Lib.hid (O26.out.quiet hc)
  have O37 := Lib.hid (O36.out.quiet hc)
  have O47 := Lib.hid (O46.out.quiet hc)
  have R0 := Lib.hid ho
  clear ho hc hf
  go_wp2_with (go_at_call 16; refine (same_one _ B0 _ d0 _ ⟨0, 0⟩ (R0.out.alloc (.cells #[.int .i64 0, .int .i64 0] 58)) (own_due1 w7 0 0)).mono ?_)
  rintro e w8 ⟨rfl, hc⟩
  have H8 := Lib.hid ((H7.out.alloc _).quiet hc)
  have C8 := Lib.hid ((C7.out.alloc _).comp hc (fun _ _ f => f))
  have O28 := Lib.hid ((O27.out.alloc _).quiet hc)
  have O38 := Lib.hid ((O37.out.alloc _).quiet hc)
  have O48 := Lib.hid ((O47.out.alloc _).quiet hc)
  clear hc
  go_wp2_with (go_at_call 17; refine (plain_one _ Ab cb ⟨1, 0⟩ O28.out).mono ?_)
  rintro e w9 ⟨B1, d1, rfl, ho, hc, hf⟩
  have H9 := Lib.hid (H8.out.quiet hc)
  have C9 := Lib.hid (C8.out.comp hc (fun _ _ f => f))
  have O39 := Lib.hid (O38.out.quiet hc)
  have O49 := Lib.hid (O48.out.quiet hc)
  have R1 := Lib.hid ho
  clear ho hc hf
  go_wp2_with (go_at_call 16; refine (same_one _ B1 _ d1 _ ⟨1, 0⟩ (R1.out.alloc (.cells #[.int .i64 1, .int .i64 0] 58)) (own_due1 w9 1 0)).mono ?_)
  rintro e w10 ⟨rfl, hc⟩
  have H10 := Lib.hid ((H9.out.alloc _).quiet hc)
  have C10 := Lib.hid ((C9.out.alloc _).comp hc (fun _ _ f => f))
  have O310 := Lib.hid ((O39.out.alloc _).quiet hc)
  have O410 := Lib.hid ((O49.out.alloc _).quiet hc)
  clear hc
  go_wp2_with (go_at_call 17; refine (plain_one _ Ac cc ⟨1, 0⟩ O310.out).mono ?_)
  rintro e w11 ⟨B2, d2, rfl, ho, hc, hf⟩
  have H11 := Lib.hid (H10.out.quiet hc)
  have C11 := Lib.hid (C10.out.comp hc (fun _ _ f => f))
  have O411 := Lib.hid (O410.out.quiet hc)
  have R2 := Lib.hid ho
  clear ho hc hf
  go_wp2_with (go_at_call 16; refine (same_one _ B2 _ d2 _ ⟨1, 0⟩ (R2.out.alloc (.cells #[.int .i64 1, .int .i64 0] 58)) (own_due1 w11 1 0)).mono ?_)
  rintro e w12 ⟨rfl, hc⟩
  have H12 := Lib.hid ((H11.out.alloc _).quiet hc)
  have C12 := Lib.hid ((C11.out.alloc _).comp hc (fun _ _ f => f))
  have O412 := Lib.hid ((O411.out.alloc _).quiet hc)
  clear hc
  go_wp2_with (go_at_call 17; refine (plain_one _ Ad cd ⟨0, 2⟩ O412.out).mono ?_)
  rintro e w13 ⟨B3, d3, rfl, ho, hc, hf⟩
  have H13 := Lib.hid (H12.out.quiet hc)
  have C13 := Lib.hid (C12.out.comp hc (fun _ _ f => f))
  have R3 := Lib.hid ho
  clear ho hc hf
  go_wp2_with (go_at_call 16; refine (same_one _ B3 _ d3 _ ⟨0, 2⟩ (R3.out.alloc (.cells #[.int .i64 0, .int .i64 2] 58)) (own_due1 w13 0 2)).mono ?_)
  rintro e w14 ⟨rfl, hc⟩
  have H14 := Lib.hid ((H13.out.alloc _).quiet hc)
  have C14 := Lib.hid ((C13.out.alloc _).comp hc (fun _ _ f => f))
  clear hc
  go_wp2_with (go_at_call 20; refine (now_at _ p b va _ _ _ H14.out.at_).mono ?_)
  rintro e w15 ⟨rfl, rfl⟩
  go_wp2_with (go_at_call 18; refine (H14.out.waiting (by simp)).mono ?_)
  rintro e w16 ⟨Ae, ce, rfl, ho, hc, hf⟩
  have H16 := Lib.hid (H14.out.quiet hc)
  have C16 := Lib.hid (C14.out.comp hc (fun _ _ f => f))
  clear ho hc hf
  go_wp2_with (go_at_call 13; refine (copy_calls _ p b va _ _ _ H16.out.at_).mono ?_)
  rintro e w17 ⟨p2, b2, rfl, ht, hc, hp, hb⟩
  have C17 := Lib.hid (C16.out.comp hc (fun _ _ f => f))
  clear ht hc hp hb
  go_wp2_with fail
  go_ret
  exact ⟨rfl, C17.out⟩
end Go.Proofs.Ytnhnmjdmenehoaa

import Derived.Test.YtnhnmjdmenehoaaTtick
namespace Go.Proofs.Ytnhnmjdmenehoaa
open Go.RowKit

theorem Ranging.ne_cells {w : World} {b r : Nat} {L R : List (D × Int)} {cs : Array Value} {e : TypeId} {fr : Nat × Nat} {g : Nat} (h : Ranging w b r L R) (hg : w.heap[g]? = some (.cells cs e fr)) : ¬ g = r := by
  intro hk
  obtain ⟨l, c, s, hm, hp, hi, he⟩ := h
  subst hk
  rw [hi] at hg
  cases hg
theorem Ranging.ne_map {w : World} {b r b2 : Nat} {L R L2 : List (D × Int)} (h : Ranging w b r L R) (hg : Holds w b2 L2) : ¬ b2 = r := by
  intro hk
  obtain ⟨l, c, s, hm, hp, hi, he⟩ := h
  obtain ⟨l2, c2, hg, _⟩ := hg
  subst hk
  have := hg.heap
  rw [hi] at this
  cases this

/-- A timer of one's own, in the same state. -/
def CopyPost (W : World) (va : Value) (ps : List Int) (now : Int) (L : List (D × Int)) (e : Ending) (w' : World) : Prop :=
  ∃ p b, e = .returned (.pointer (some ⟨p, 0, none⟩)) ∧ TimerAt w' p va b ps now L ∧ Chg (fun _ => False) W w' ∧ W.heap.size ≤ p ∧ W.heap.size ≤ b
def CopyRel (W : World) (b r p2 b2 : Nat) (va : Value) (ps : List Int) (now : Int) (L : List (D × Int)) (wr : World) : Prop :=
  ∃ (done rest : List (D × Int)), (done ++ rest).Perm L ∧ Ranging wr b r L rest ∧ TimerAt wr p2 va b2 ps now done ∧ Chg (fun _ => False) W wr

set_option maxRecDepth 100000 in
set_option maxHeartbeats 4000000 in
theorem copy_calls (w : World) (p b : Nat) (va : Value) (ps : List Int) (now : Int) (L : List (D × Int)) (h : TimerAt w p va b ps now L) :
    Calls Try.prog 13 #[.pointer (some ⟨p, 0, none⟩)] w (CopyPost w va ps now L) := by
  obtain ⟨c0, c1, c2, f0, f1, f2, hlt⟩ := cells3 h.heap
  obtain ⟨Av, cv, rfl⟩ := h.per.slice
  have H := Lib.hid h
  clear h
  have hmm := @run_makeMap Try.prog
  go_enter Try.func13, Try.ntmps13
  go_wp2_with (go_at_call 21; refine (there_calls _ p b _ ps now L H.out).mono ?_; rintro e w' ⟨rfl, rfl⟩)
  go_region
  have hcw : Chg (fun _ => False) w ((w.alloc (Obj.map #[] 0)).alloc (Obj.cells #[Value.slice Av ps.length cv, Value.int IntKind.i64 now, Value.map (some w.heap.size)] 53)).drew := (((Chg.refl _ w).alloc _).alloc _).drew
  have HT2 : Hid (TimerAt ((w.alloc (Obj.map #[] 0)).alloc (Obj.cells #[Value.slice Av ps.length cv, Value.int IntKind.i64 now, Value.map (some w.heap.size)] 53)).drew (w.heap.size + 1) (Value.slice Av ps.length cv) w.heap.size ps now []) :=
    Lib.hid ⟨heap_alloc2_new w _ _, H.out.per.quiet hcw, ((Holds.made w).alloc _).keep (S := fun _ => False) (Chg.refl _ _).drew (fun f => f)⟩
  have HT1 := Lib.hid (H.out.quiet hcw)
  have HC1 := Lib.hid hcw
  obtain ⟨d0, d1, d2, g0, g1, g2, hlt2⟩ := cells3 HT1.out.heap
  clear hcw c0 c1 c2 f0 f1 f2
  have Hp2 : Hid (w.heap.size ≤ w.heap.size + 1 ∧ w.heap.size ≤ w.heap.size) := Lib.hid ⟨by omega, by omega⟩
  generalize w.heap.size + 1 = p2 at *
  generalize hb2 : w.heap.size = b2 at *
  have HB2 := Lib.hid hb2
  clear hb2
  generalize ((w.alloc (Obj.map #[] 0)).alloc (Obj.cells #[Value.slice Av ps.length cv, Value.int IntKind.i64 now, Value.map (some b2)] 53)).drew = wm at *
  go_wp2_with (at_range; refine wpList_range_D rfl (.tmp 23) rfl rfl HT1.out.map ?_; intro w0 R0 hr0 hp0 hc0 hs0)
  go_frame
  have HR0 := Lib.hid hr0
  have HP0 := Lib.hid hp0
  have HT0 := Lib.hid (HT2.out.quiet hc0)
  have HC0 := Lib.hid (HC1.out.comp hc0 (fun _ _ f => f))
  clear hr0 hp0 hc0 hs0 d0 d1 d2 g0 g1 g2
  have HRW := Lib.hid (show w.heap.size ≤ wm.heap.size from HC1.out.size)
  generalize wm.heap.size = r at *
  go_loopw [] (CopyRel w b r p2 b2 (.slice Av ps.length cv) ps now L) (fun wr => wr.rangeLeft b r)
  case atStart => exact ⟨[], R0, by simpa using HP0.out, HR0.out, HT0.out, HC0.out⟩
  case round =>
    obtain ⟨done, rest, hpm, hrg, htm, hch⟩ := hrel
    have Hpm := Lib.hid hpm
    have Hrg := Lib.hid hrg
    have Ht := Lib.hid htm
    have Hc := Lib.hid hch
    clear hpm hrg htm hch HR0 HP0 HT0 HC0
    go_wp2_with (at_next; refine wpList_next_D rfl (.tmp 24) rfl rfl Hrg.out ?_ ?_)
    · intro hr0
      have Hr0 := Lib.hid hr0
      clear hr0
      go_wp2_with fail
      go_ret
      have hp := Hpm.out
      rw [Hr0.out, List.append_nil] at hp
      exact ⟨p2, b2, rfl, ⟨Ht.out.heap, Ht.out.per, Ht.out.map.perm hp⟩, Hc.out, by have := Hp2.out.1; have := HB2.out; omega, by have := HB2.out; omega⟩
    · intro x n v w1 R' hr1 hpm1 hc1 hs1 hen
      have Ht1 := Lib.hid (Ht.out.keep hc1 (fun e => Hrg.out.ne_cells Ht.out.heap e) (fun e => Hrg.out.ne_map Ht.out.map e) (fun i hi e => Hrg.out.ne_own Ht.out.per (e ▸ hi)))
      have Hpm1 := Lib.hid hpm1
      have Hr1 := Lib.hid hr1
      have Hc1 := Lib.hid hc1
      have Hrlt := Lib.hid (show w.heap.size ≤ r from HRW.out)
      clear hr1 hpm1 hc1 hs1
      have hfr : (⟨x, n⟩ : D) ∉ done.map Prod.fst := by
        intro hm
        have hnd := Hr1.out.holds.nodup
        have hp := (Hpm.out.map Prod.fst).nodup_iff.2 hnd
        rw [List.map_append, List.nodup_append] at hp
        exact hp.2.2 _ hm _ (List.mem_map_of_mem (Hpm1.out.mem_iff.2 List.mem_cons_self)) rfl
      have HF := Lib.hid hfr
      clear hfr
      obtain ⟨d0, d1, d2, g0, g1, g2, hlt2⟩ := cells3 Ht1.out.heap
      obtain ⟨w2, hup, hh2, hc2⟩ := (Ht1.out.alloc (.cells #[.int .i64 x, .int .i64 n] 48)).drew.map.update (v := v) HF.out
      have HH2 := Lib.hid hh2
      have HC2 := Lib.hid hc2
      clear hh2 hc2
      simp only [dv] at hup
      go_wp2_with fail
      go_region
      go_wp2_with fail
      go_roundw
      case rel =>
        have hca := ((Chg.refl (fun _ => False) w1).alloc (.cells #[.int .i64 x, .int .i64 n] 48)).drew
        have ht2 := Ht1.out.quiet hca
        refine ⟨(⟨x, n⟩, v) :: done, R', ?_, (Hr1.out.quiet hca).keep HC2.out ?_ ?_, ⟨heap_keep ht2.heap HC2.out (fun e => ht2.map.ne_cells ht2.heap e.symm), ht2.per.keep HC2.out (fun i hi e => ht2.map.ne_own ht2.per (e ▸ hi)), HH2.out⟩, ?_⟩
        · exact (List.perm_middle.symm.trans (Hpm1.out.symm.append_left done)).trans Hpm.out
        · intro e
          have h1 := H.out.map.lt
          have h2 := HB2.out
          omega
        · intro e
          exact (Hr1.out.quiet hca).ne_map ht2.map e.symm
        · refine ((Hc.out.comp Hc1.out (fun i hi e => ?_)).comp hca (fun _ _ f => f)).comp HC2.out (fun i hi e => ?_)
          · have := Hrlt.out; omega
          · have := HB2.out; omega
      case measure =>
        have hl2 := Hpm1.out.length_eq
        simp only [List.length_cons] at hl2
        have hca := ((Chg.refl (fun _ => False) w1).alloc (.cells #[.int .i64 x, .int .i64 n] 48)).drew
        have ht2 := Ht1.out.quiet hca
        rw [((Hr1.out.quiet hca).keep HC2.out (fun e => by have h1 := H.out.map.lt; have h2 := HB2.out; omega) (fun e => (Hr1.out.quiet hca).ne_map ht2.map e.symm)).left_eq, Hrg.out.left_eq]
        omega
end Go.Proofs.Ytnhnmjdmenehoaa

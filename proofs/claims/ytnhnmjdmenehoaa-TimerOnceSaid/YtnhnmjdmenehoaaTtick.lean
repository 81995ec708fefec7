import Derived.Test.YtnhnmjdmenehoaaTrel
namespace Go.Proofs.Ytnhnmjdmenehoaa
open Go.RowKit

/-! ### The row of what waits, in order -/
theorem ins_cons (x y : D × Int) (L : List (D × Int)) : ins x (y :: L) = if ltD y.1 x.1 = true then y :: ins x L else x :: y :: L := by
  unfold ins
  by_cases h : ltD y.1 x.1 = true <;> simp [h]
theorem ins_length (x : D × Int) (L : List (D × Int)) : (ins x L).length = L.length + 1 := by
  have := (ins_perm x L).length_eq
  simpa using this
theorem ins_sorted (x : D × Int) : ∀ L : List (D × Int), Sorted (L.map Prod.fst) → (∀ y ∈ L, y.1 ≠ x.1) → Sorted ((ins x L).map Prod.fst)
  | [], _, _ => by simp [ins, Sorted]
  | y :: L, h, hn => by
    rw [ins_cons]
    unfold Sorted at h ⊢
    obtain ⟨h1, h2⟩ := List.pairwise_cons.1 h
    by_cases hl : ltD y.1 x.1 = true
    · rw [if_pos hl, List.map_cons, List.pairwise_cons]
      refine ⟨fun z hz => ?_, ins_sorted x L h2 (fun z hz => hn z (List.mem_cons_of_mem _ hz))⟩
      obtain ⟨u, hu, rfl⟩ := List.mem_map.1 hz
      rcases List.mem_cons.1 ((ins_perm x L).mem_iff.1 hu) with rfl | hu
      · exact hl
      · exact h1 _ (List.mem_map_of_mem hu)
    · rw [if_neg hl, List.map_cons, List.pairwise_cons]
      have hxy : ltD x.1 y.1 = true := ltD_total hl (hn y List.mem_cons_self)
      refine ⟨fun z hz => ?_, h⟩
      rcases List.mem_cons.1 hz with rfl | hz
      · exact hxy
      · exact ltD_trans hxy (h1 z hz)
theorem lay_aux (now : Int) : ∀ (ps : List Int) (k : Nat) (picks : List Int) (L : List (D × Int)), Sorted (L.map Prod.fst) → (∀ x ∈ L, x.1.n < now ∨ x.1.t < k) →
    Sorted ((insAll L (rels now ps k picks)).map Prod.fst) ∧ (insAll L (rels now ps k picks)).length ≤ L.length + ps.length ∧ (∀ y, y ∈ insAll L (rels now ps k picks) ↔ y ∈ L ∨ y ∈ rels now ps k picks)
  | [], k, picks, L, h, _ => ⟨h, by simp [rels, insAll], by simp [rels, insAll]⟩
  | p :: ps, k, picks, L, h, hf => by
    simp only [rels]
    by_cases hm : now % p = 0
    · simp only [hm, if_true, insAll_cons]
      obtain ⟨h1, h2, h3⟩ := lay_aux now ps (k + 1) picks.tail (ins (⟨(k : Int), now⟩, now + jit picks) L) (ins_sorted _ L h (fun y hy => by
        intro e
        have := hf y hy
        rw [e] at this
        simp at this)) (fun y hy => by
        rcases List.mem_cons.1 ((ins_perm _ _).mem_iff.1 hy) with rfl | hy
        · right; show (k : Int) < _; omega
        · rcases hf y hy with h | h
          · exact .inl h
          · right; omega)
      refine ⟨h1, by rw [ins_length] at h2; simp only [List.length_cons]; omega, fun y => ?_⟩
      rw [h3 y, (ins_perm _ _).mem_iff, List.mem_cons, List.mem_cons]
      constructor
      · rintro ((h | h) | h) <;> simp [h]
      · rintro (h | h | h) <;> simp [h]
    · simp only [hm, if_false]
      obtain ⟨h1, h2, h3⟩ := lay_aux now ps (k + 1) picks L h (fun y hy => by
        rcases hf y hy with h | h
        · exact .inl h
        · right; omega)
      exact ⟨h1, by simp only [List.length_cons]; omega, h3⟩
theorem rels_n (now : Int) : ∀ (ps : List Int) (k : Nat) (picks : List Int), ∀ y ∈ rels now ps k picks, y.1.n = now
  | [], _, _ => by simp [rels]
  | p :: ps, k, picks => by
    intro y hy
    simp only [rels] at hy
    split at hy
    · rcases List.mem_cons.1 hy with rfl | hy
      · rfl
      · exact rels_n now ps _ _ y hy
    · exact rels_n now ps _ _ y hy

section
variable {ps : List Int} {now : Int} {L : List (D × Int)}
/-- What a timer is. -/
structure Neat (ps : List Int) (now : Int) (L : List (D × Int)) : Prop where
  sorted : Sorted (L.map Prod.fst)
  old : ∀ x ∈ L, x.1.n < now
theorem Neat.lay_sorted (h : Neat ps now L) (picks : List Int) : Sorted ((lay ps now L picks).map Prod.fst) := (lay_aux now ps 0 picks L h.sorted (fun x hx => .inl (h.old x hx))).1
theorem Neat.lay_length (h : Neat ps now L) (picks : List Int) : (lay ps now L picks).length ≤ L.length + ps.length := (lay_aux now ps 0 picks L h.sorted (fun x hx => .inl (h.old x hx))).2.1
theorem Neat.lay_mem (h : Neat ps now L) (picks : List Int) (y : D × Int) : y ∈ lay ps now L picks ↔ y ∈ L ∨ y ∈ rels now ps 0 picks := (lay_aux now ps 0 picks L h.sorted (fun x hx => .inl (h.old x hx))).2.2 y
theorem Neat.next (h : Neat ps now L) (picks : List Int) : Neat ps (now + 1) (left ps now L picks) := by
  refine ⟨?_, fun x hx => ?_⟩
  · exact (h.lay_sorted picks).sublist (List.filter_sublist.map _)
  · have := (h.lay_mem picks x).1 (List.mem_filter.1 hx).1
    rcases this with h1 | h1
    · have := h.old x h1; omega
    · have := rels_n _ _ _ _ x h1; omega
theorem Neat.left_length (h : Neat ps now L) (picks : List Int) : (left ps now L picks).length ≤ L.length + ps.length := Nat.le_trans (List.length_filter_le _ _) (h.lay_length picks)

end
/-! ### A tick -/
def outs (now : Int) (T : List (D × Int)) (k : Nat) : List D := ((T.take k).filter (fun x => decide (x.2 ≤ now))).map Prod.fst
def stay (now : Int) (T : List (D × Int)) (k : Nat) : List (D × Int) := (T.take k).filter (fun x => !decide (x.2 ≤ now)) ++ T.drop k
theorem take_one {α : Type} {l : List α} {k : Nat} {x : α} (hx : l[k]? = some x) : l.take (k + 1) = l.take k ++ [x] := by
  rw [List.take_add_one, hx]; rfl
theorem outs_due {now : Int} {T : List (D × Int)} {k : Nat} {x : D × Int} (hx : T[k]? = some x) (h : x.2 ≤ now) : outs now T (k + 1) = outs now T k ++ [x.1] := by
  unfold outs; rw [take_one hx, List.filter_append]; simp [h]
theorem outs_not {now : Int} {T : List (D × Int)} {k : Nat} {x : D × Int} (hx : T[k]? = some x) (h : ¬ x.2 ≤ now) : outs now T (k + 1) = outs now T k := by
  unfold outs; rw [take_one hx, List.filter_append]; simp [h]
theorem outs_length (now : Int) (T : List (D × Int)) (k : Nat) : (outs now T k).length ≤ T.length := by
  unfold outs
  rw [List.length_map]
  refine Nat.le_trans (List.length_filter_le _ _) ?_
  rw [List.length_take]; omega
theorem stay_not {now : Int} {T : List (D × Int)} {k : Nat} {x : D × Int} (hx : T[k]? = some x) (h : ¬ x.2 ≤ now) : stay now T (k + 1) = stay now T k := by
  unfold stay; rw [take_one hx, List.filter_append, drop_one hx]; simp [h]
theorem stay_due {now : Int} {T : List (D × Int)} {k : Nat} {x : D × Int} (hx : T[k]? = some x) (h : x.2 ≤ now) : (stay now T k).erase x = stay now T (k + 1) := by
  unfold stay
  rw [take_one hx, List.filter_append, drop_one hx, List.erase_append_right]
  · simp [h]
  · intro hm
    have := (List.mem_filter.1 hm).2
    simp [h] at this
theorem stay_mem {now : Int} {T : List (D × Int)} {k : Nat} {x : D × Int} (hx : T[k]? = some x) : x ∈ stay now T k := by
  unfold stay; rw [drop_one hx]; simp

/-- What holds at the head of each round of Tick. -/
def TickRel (W : World) (p b : Nat) (va : Value) (ps : List Int) (now : Int) (T : List (D × Int)) (sw : Value) (sv iv : Value) (wr : World) : Prop :=
  ∃ (k : Nat) (A : Option Addr) (c : Nat), k ≤ T.length ∧ iv = .int .i64 k ∧ sv = .slice A (outs now T k).length c ∧ Own wr 48 2 (.slice A (outs now T k).length c) (outs now T k).length (dcs (outs now T k)) ∧ Own wr 48 2 sw T.length (dcs (T.map Prod.fst)) ∧
    TimerAt wr p va b ps now (stay now T k) ∧ Chg (fun i => i = b) W wr ∧ (∀ i, (Value.slice A (outs now T k).length c).ownBlock = some i → W.heap.size ≤ i ∧ ¬ sw.ownBlock = some i)

/-- What Tick tells and leaves. -/
def TickPost (W : World) (p b : Nat) (va : Value) (ps : List Int) (now : Int) (l : List D) (L' : List (D × Int)) (e : Ending) (w' : World) : Prop :=
  ∃ A c, e = .returned (.slice A l.length c) ∧ Own w' 48 2 (.slice A l.length c) l.length (dcs l) ∧ (∀ i, (Value.slice A l.length c).ownBlock = some i → W.heap.size ≤ i) ∧ TimerAt w' p va b ps (now + 1) L' ∧ Chg (fun i => i = p ∨ i = b) W w'

theorem keepS_cell {S : Nat → Prop} {W W' : World} (hc : Chg S W W') {a : Addr} {u : Value} (hu : W.cell? a = some u) (ha : ¬ S a.block) : W'.cell? a = some u := by
  have hb := hc.block a.block (World.block_lt_of_cell? W a hu) ha
  rw [← hu]
  unfold World.cell?
  rw [hb]
theorem cells2 {W : World} {g : Nat} {x y : Value} {T : TypeId} (h : W.heap[g]? = some (.cells #[x, y] T (0, 0))) : W.cell? ⟨g, 0, none⟩ = some x ∧ W.cell? ⟨g, 1, none⟩ = some y :=
  ⟨by rw [cell_of_row W g 0 _ _ _ h]; rfl, by rw [cell_of_row W g 1 _ _ _ h]; rfl⟩

set_option maxRecDepth 100000 in
set_option maxHeartbeats 4000000 in
theorem tick_calls (w : World) (p b : Nat) (va sv : Value) (ps : List Int) (now : Int) (L : List (D × Int)) (picks : List Int) (h : TimerAt w p va b ps now L) (hk : PickAt w sv picks) (hg : Good ps) (hn : 0 ≤ now) (hn2 : now ≤ 1000000) (hN : Neat ps now L) (hl : L.length ≤ 4000) :
    Calls Try.prog 14 #[.pointer (some ⟨p, 0, none⟩), sv] w (TickPost w p b va ps now (told ps now L picks) (left ps now L picks)) := by
  obtain ⟨c0, c1, c2, f0, f1, f2, hlt⟩ := cells3 h.heap
  have hTl : (lay ps now L picks).length ≤ 5000 := by have := hN.lay_length picks; have := hg.2.1; omega
  have HTs := Lib.hid (hN.lay_sorted picks)
  have HR := Lib.hid (release_calls w p b va sv ps now L picks h hk hg hn hn2 hN.old)
  obtain ⟨T, hT⟩ : ∃ T, lay ps now L picks = T := ⟨_, rfl⟩
  have htold : told ps now L picks = outs now T T.length := by unfold told outs; rw [hT, List.take_length]
  have hleft : left ps now L picks = stay now T T.length := by unfold left stay; rw [hT, List.take_length]; simp
  rw [htold, hleft]
  rw [hT] at HTs HR hTl
  have H := Lib.hid h
  clear h hk hg hN htold hleft hT hl
  go_enter Try.func14, Try.ntmps14
  go_wp2_with (first
    | (go_at_call 21; refine (there_calls _ p b va ps now L H.out).mono ?_; rintro e w' ⟨rfl, rfl⟩)
    | (go_at_call 22; refine HR.out.mono ?_; rintro e w1 ⟨rfl, ht1, hch1⟩; have H1 := Lib.hid ht1; have C1 := Lib.hid hch1; clear ht1 hch1)
    | (go_at_call 18; refine (waiting_calls _ p b va ps now T H1.out hTl HTs.out).mono ?_; rintro e w2 ⟨As, cs, rfl, ho2, hc2, hf2⟩; have O2 := Lib.hid ho2; have F2 := Lib.hid hf2; have H2 := Lib.hid (H1.out.quiet hc2); have C2 := Lib.hid (C1.out.comp hc2 (fun _ _ f => f.elim)); clear ho2 hf2 hc2))
  go_loopw [5, 17] (TickRel w p b va ps now T (.slice As T.length cs)) (fun _ i _ => T.length - (intOf i).toNat)
  case atStart => exact ⟨0, none, 0, by omega, rfl, rfl, Own.nil _ _ _, by have := O2.out; rwa [List.length_map] at this, H2.out, C2.out, by simp [Value.ownBlock]⟩
  case round =>
    obtain ⟨k, A, c, hkT, rfl, rfl, ho, hsw, htm, hch, hfr⟩ := hrel
    obtain ⟨k0, k1, k2, q0, q1, q2, hplt⟩ := cells3 htm.heap
    have HT := Lib.hid htm
    have HO := Lib.hid ho
    have HS := Lib.hid hsw
    have HC := Lib.hid hch
    have HF := Lib.hid hfr
    clear htm ho hsw hch hfr c0 c1 c2 f0 f1 f2 H1 H2 C1 C2 O2 F2
    by_cases hlt : k < T.length
    · obtain ⟨⟨⟨x, n⟩, v⟩, hx⟩ : ∃ x, T[k]? = some x := ⟨T[k], List.getElem?_eq_getElem hlt⟩
      obtain ⟨gs, cap, hv, hcap1, hcap2, hgs⟩ := HS.out.form (by omega)
      injection hv with hv1 _ hv2
      subst hv1; subst hv2
      obtain ⟨s0, s1⟩ := Own.due HS.out (by simp) (show (T.map Prod.fst)[k]? = some ⟨x, n⟩ by simp [hx])
      have Hx := Lib.hid hx
      clear hx
      have HTa := Lib.hid (HT.out.alloc (.cells #[.int .i64 x, .int .i64 n] 48)).drew
      have hlook := (HTa.out.map.lookup (stay_mem Hx.out))
      simp only [dv] at hlook
      by_cases hd : v ≤ now
      · have hOa := Lib.hid (HO.out.alloc (.cells #[.int .i64 x, .int .i64 n] 48)).drew
        have hSa := Lib.hid (HS.out.alloc (.cells #[.int .i64 x, .int .i64 n] 48)).drew
        have hCa := Lib.hid (HC.out.alloc (.cells #[.int .i64 x, .int .i64 n] 48)).drew
        have hal := Lib.hid (outs_length now T k)
        go_wp2_with fail
        go_region
        have hb0 := heap_alloc_new wr (.cells #[.int .i64 x, .int .i64 n] 48)
        obtain ⟨e0, e1⟩ := cells2 (W := (wr.alloc (.cells #[.int .i64 x, .int .i64 n] 48)).drew) hb0
        clear hb0
        generalize (wr.alloc (.cells #[.int .i64 x, .int .i64 n] 48)).drew = wm at *
        go_wp2_with (at_builtin; refine wpList_append_Own rfl (.tmp 32) (.tmp 34) 33 rfl 48 _ 2 16 Try.underlying33 Try.info48 rfl (by decide) (.slice A (outs now T k).length c) (outs now T k).length (dcs (outs now T k)) rfl (by exact hOa.out.alloc _) (some ⟨wm.heap.size, 0, none⟩) 1 1 [.int .i64 x, .int .i64 n] rfl (by rfl) (news_due (by exact heap_alloc_new wm _)) (by simp; exact ⟨rfl, rfl⟩) (by have := hal.out; omega) (by have := hal.out; omega) ?_; intro v' w3 ho hchg hbl hf; obtain ⟨g', cap', hv'⟩ := hf (by omega); subst hv'; have Hx3 := Lib.hid ho; have Hc3 := Lib.hid hchg; have Hb3 := Lib.hid hbl; clear ho hchg hbl hf)
        have hcm := (Chg.refl (fun _ => False) wm).alloc (.cells #[.int .i64 x, .int .i64 n] 48)
        have HT3 := Lib.hid ((HTa.out.quiet hcm).keep Hc3.out (fun e => (hOa.out.quiet hcm).ne_blk (HTa.out.quiet hcm).heap (by decide) p e rfl) (fun e => (HTa.out.quiet hcm).map.ne_own (hOa.out.quiet hcm) e) (fun i hi e => (HTa.out.quiet hcm).per.ne (hOa.out.quiet hcm) (by decide) i hi e))
        have HS3 := Lib.hid ((hSa.out.quiet hcm).keep Hc3.out (fun i hi e => (HF.out i e).2 hi))
        have HC3 := Lib.hid ((hCa.out.comp hcm (fun _ _ f => f.elim)).comp Hc3.out (T := fun k_1 => (Value.slice A (outs now T k).length c).ownBlock = some k_1) (S := fun i => i = b) (fun i hi e => by have := (HF.out i e).1; omega))
        have hnb : ¬ (Value.slice A (outs now T k).length c).ownBlock = some wr.heap.size := fun e => Nat.lt_irrefl _ (HO.out.lt _ e)
        have e0' : w3.cell? ⟨wr.heap.size, 0, none⟩ = some (.int .i64 x) := keepS_cell Hc3.out (keep_cell hcm e0) hnb
        have e1' : w3.cell? ⟨wr.heap.size, 1, none⟩ = some (.int .i64 n) := keepS_cell Hc3.out (keep_cell hcm e1) hnb
        have hlt7 : wr.heap.size < w3.heap.size := block_lt_of_cell e0'
        have Hwm := Lib.hid (show wr.heap.size < wm.heap.size from block_lt_of_cell e0)
        obtain ⟨t0, t1, t2, _, _, _, tlt⟩ := cells3 HT3.out.heap
        obtain ⟨w4, hdel0, hh4, hc4⟩ := HT3.out.drew.map.delete (stay_mem Hx.out) 0
        have HH4 := Lib.hid hh4
        have HC4 := Lib.hid hc4
        clear hh4 hc4
        simp only [dv] at hdel0
        go_region
        go_wp2_with fail
        go_roundw
        case rel =>
          have ho := outs_due (now := now) Hx.out hd
          have hs := stay_due (now := now) Hx.out hd
          have hln : (outs now T (k + 1)).length = (outs now T k).length + 1 := by rw [ho]; simp
          have HX4 := Hx3.out.drew.keep HC4.out (fun i hi e => HT3.out.map.ne_own Hx3.out (e ▸ hi))
          refine ⟨k + 1, some ⟨g', 0, none⟩, cap', by omega, by go_num, by rw [hln], ?_, HS3.out.drew.keep HC4.out (fun i hi e => HT3.out.map.ne_own HS3.out (e ▸ hi)), ⟨heap_keep HT3.out.drew.heap HC4.out (fun e => HT3.out.map.ne_cells HT3.out.heap e.symm), HT3.out.drew.per.keep HC4.out (fun i hi e => HT3.out.map.ne_own HT3.out.per (e ▸ hi)), ?_⟩, HC3.out.drew.trans HC4.out, ?_⟩
          · rw [hln, ho, dcs_append]; exact HX4
          · rw [← hs]; exact HH4.out
          · intro i hi
            rw [hln] at hi
            rcases Hb3.out with hb | hb
            · exact HF.out i (hb ▸ hi)
            · rw [hb] at hi
              injection hi with hi
              have h1 := Hwm.out
              have h2 := HC.out.size
              have h4 := hcm.size
              refine ⟨?_, fun e => ?_⟩
              · omega
              · have h3 := HS.out.lt _ e; omega
        case measure => simp [intOf]; omega
      · go_wp2_with fail
        go_region
        go_wp2_with fail
        go_roundw
        case rel =>
          have hd' : ¬ v ≤ now := by omega
          have ho := outs_not Hx.out hd'
          have hs := stay_not Hx.out hd'
          refine ⟨k + 1, A, c, by omega, by go_num, by rw [ho], by rw [ho]; exact (HO.out.alloc _).drew, (HS.out.alloc _).drew, by rw [hs]; exact HTa.out, (HC.out.alloc _).drew, by rw [ho]; exact HF.out⟩
        case measure => simp [intOf]; omega
    · go_wp2_with fail
      go_ret
      have hk : k = T.length := by omega
      subst hk
      refine ⟨A, c, rfl, HO.out.setFar (fun i hi e => ?_) _, fun i hi => (HF.out i hi).1, ⟨?_, HT.out.per.setFar (fun i hi e => ?_) _, HT.out.map.keep (S := fun i => i = p) ((Chg.refl (fun i => i = p) wr).setCell (p := ⟨p, 1, none⟩) (fun _ => rfl) _) (fun e => HT.out.map.ne_cells HT.out.heap e)⟩, (HC.out.mono (fun i _ h => .inr h)).setCell (p := ⟨p, 1, none⟩) (fun _ => .inl rfl) _⟩
      · exact HO.out.ne_blk HT.out.heap (by decide) i hi e
      · exact heap_setCell_same wr p 1 _ 53 _ HT.out.heap
      · exact HT.out.per.ne_blk HT.out.heap (by decide) i hi e
end Go.Proofs.Ytnhnmjdmenehoaa

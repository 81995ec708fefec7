import Derived.Test.YtnhnmjdmenehoaaRnew
namespace Go.Proofs.Ytnhnmjdmenehoaa
open Go.RowKit

/-! ref.put: the loop takes over those that stand before the new one. -/
/-- What put leaves: the periods' slice and the slot as they were, the row with the new one. -/
def PutPost (W : World) (q : Nat) (va vl : Value) (ps : List Int) (now : Int) (L' : List (D × Int)) (e : Ending) (w' : World) : Prop :=
  ∃ vl', e = .returned (.tuple #[]) ∧ RefAt w' q va vl' ps now L' ∧ Chg (fun i => i = q) W w' ∧ ∀ k, vl'.ownBlock = some k → W.heap.size ≤ k
/-- What holds at the head of each round. -/
def PutRel (w : World) (x : D × Int) (L : List (D × Int)) (out iv : Value) (wr : World) : Prop :=
  ∃ (i : Nat) (A : Option Addr) (c : Nat), i ≤ (L.takeWhile (fun y => ltD y.1 x.1)).length ∧ iv = .int .i64 i ∧ out = .slice A i c ∧ Own wr 62 3 (.slice A i c) i (wcs (L.take i)) ∧ Chg (fun _ => False) w wr ∧ (∀ b, (Value.slice A i c).ownBlock = some b → w.heap.size ≤ b)

theorem wcs_one (y : D × Int) : wcs [y] = [.int .i64 y.1.t, .int .i64 y.1.n, .int .i64 y.2] := rfl
theorem news_wait {W : World} {g : Nat} {x y z : Value} {e : TypeId} (hg : W.heap[g]? = some (.cells #[x, y, z] e (0, 0))) :
    0 < 1 → ∃ ad, some (⟨g, 0, none⟩ : Addr) = some ad ∧ ∀ k u, [x, y, z][k]? = some u → W.cell? (ad.add k) = some u := by
  refine fun _ => ⟨_, rfl, fun k u hu => ?_⟩
  have hadd : (⟨g, 0, none⟩ : Addr).add k = ⟨g, k, none⟩ := by unfold Addr.add; split <;> simp_all
  rw [hadd, cell_of_row W g k _ _ _ hg]
  simpa using hu
/-- One further stands ahead. -/
theorem take_on {α : Type} {p : α → Bool} : ∀ {L : List α} {i : Nat} {y : α}, i ≤ (L.takeWhile p).length → L[i]? = some y → p y = true → i + 1 ≤ (L.takeWhile p).length
  | [], i, y, _, hy, _ => by simp at hy
  | x :: L, 0, y, _, hy, hp => by
    simp at hy
    subst hy
    rw [List.takeWhile_cons, if_pos hp]
    simp
  | x :: L, i + 1, y, hi, hy, hp => by
    by_cases hx : p x = true
    · rw [List.takeWhile_cons, if_pos hx] at hi ⊢
      simp only [List.length_cons] at hi ⊢
      have := take_on (L := L) (i := i) (y := y) (by omega) (by simpa using hy) hp
      omega
    · rw [List.takeWhile_cons, if_neg hx] at hi
      simp at hi
/-- The first that does not stand ahead. -/
theorem take_off {α : Type} {p : α → Bool} : ∀ {L : List α} {i : Nat} {y : α}, i ≤ (L.takeWhile p).length → L[i]? = some y → ¬ p y = true → i = (L.takeWhile p).length
  | [], i, y, _, hy, _ => by simp at hy
  | x :: L, 0, y, _, hy, hp => by
    simp at hy
    subst hy
    rw [List.takeWhile_cons, if_neg hp]
    simp
  | x :: L, i + 1, y, hi, hy, hp => by
    by_cases hx : p x = true
    · rw [List.takeWhile_cons, if_pos hx] at hi ⊢
      simp only [List.length_cons] at hi ⊢
      have := take_off (L := L) (i := i) (y := y) (by omega) (by simpa using hy) hp
      omega
    · rw [List.takeWhile_cons, if_neg hx] at hi
      simp at hi
theorem take_len {α : Type} (p : α → Bool) (L : List α) : (L.takeWhile p).length ≤ L.length := (List.takeWhile_sublist p).length_le

/-- What is left behind place i. -/
theorem wtail_news {W : World} {E : TypeId} {g cap n i : Nat} {xs : List (D × Int)} (h : Own W E 3 (.slice (some ⟨g, 0, none⟩) n cap) n (wcs xs)) (hn : n = xs.length) (hc : n ≤ cap) :
    0 < n - i → ∃ ad, (if cap = i then some (⟨g, 0, none⟩ : Addr) else some ⟨g, i * 3, none⟩) = some ad ∧ ∀ j u, (wcs (xs.drop i))[j]? = some u → W.cell? (ad.add j) = some u := by
  intro hpos
  rw [if_neg (by omega)]
  refine ⟨_, rfl, fun j u hu => ?_⟩
  have hadd : (⟨g, i * 3, none⟩ : Addr).add j = ⟨g, i * 3 + j, none⟩ := by unfold Addr.add; split <;> simp_all
  have hj : j < (wcs (xs.drop i)).length := (List.getElem?_eq_some_iff.1 hu).1
  rw [wcs_length, List.length_drop] at hj
  rw [hadd, h.cell _ (by omega), ← hu, ← wcs_drop, List.getElem?_drop]
theorem wtail_news' {W : World} {E : TypeId} {g cap n i : Nat} {xs : List (D × Int)} (h : Own W E 3 (.slice (some ⟨g, 0, none⟩) n cap) n (wcs xs)) (hn : n = xs.length) :
    0 < n - i → ∃ ad, some (⟨g, i * 3, none⟩ : Addr) = some ad ∧ ∀ j u, (wcs (xs.drop i))[j]? = some u → W.cell? (ad.add j) = some u := by
  intro hpos
  refine ⟨_, rfl, fun j u hu => ?_⟩
  have hadd : (⟨g, i * 3, none⟩ : Addr).add j = ⟨g, i * 3 + j, none⟩ := by unfold Addr.add; split <;> simp_all
  have hj : j < (wcs (xs.drop i)).length := (List.getElem?_eq_some_iff.1 hu).1
  rw [wcs_length, List.length_drop] at hj
  rw [hadd, h.cell _ (by omega), ← hu, ← wcs_drop, List.getElem?_drop]
theorem put_end {w W : World} {q : Nat} {va vl v' : Value} {ps : List Int} {now : Int} {L L' : List (D × Int)} {m : Nat} (h : RefAt w q va vl ps now L) (hc : Chg (fun _ => False) w W) (ho : Own W 62 3 v' m (wcs L')) (hm : m = L'.length) (hf : ∀ k, v'.ownBlock = some k → w.heap.size ≤ k) :
    PutPost w q va vl ps now L' (.returned (.tuple #[])) (W.setCell ⟨q, 2, none⟩ v') := by
  have h' := h.quiet hc
  have hq := (Array.getElem?_eq_some_iff.1 h.heap).1
  subst hm
  refine ⟨v', rfl, ⟨heap_setCell_same W q 2 _ 44 _ h'.heap, h'.per.setFar (fun k hk e => h'.per.ne_blk h'.heap (by decide) k hk e) _, ho.setFar (fun k hk e => ?_) _⟩, (hc.mono (T := fun i => i = q) (fun _ _ f => f.elim)).setCell (p := ⟨q, 2, none⟩) (S := fun i => i = q) (fun _ => rfl) _, hf⟩
  have := hf k hk
  have e : k = q := e
  omega
theorem ins_at {x : D × Int} {L : List (D × Int)} {i : Nat} (h : i = (L.takeWhile (fun y => ltD y.1 x.1)).length) : L.take i ++ [x] ++ L.drop i = ins x L := by
  unfold ins
  rw [List.append_assoc, List.singleton_append]
  have e := List.takeWhile_append_dropWhile (p := fun y : D × Int => ltD y.1 x.1) (l := L)
  have h1 : L.take i = L.takeWhile (fun y => ltD y.1 x.1) := by
    conv => lhs; rw [← e]
    rw [h, List.take_left]
  have h2 : L.drop i = L.dropWhile (fun y => ltD y.1 x.1) := by
    conv => lhs; rw [← e]
    rw [h, List.drop_left]
  rw [h1, h2]

set_option maxRecDepth 100000 in
set_option maxHeartbeats 4000000 in
theorem put_some (w : World) (q : Nat) (va : Value) (g cl : Nat) (ps : List Int) (now : Int) (L : List (D × Int)) (t n v : Int) (h : RefAt w q va (.slice (some ⟨g, 0, none⟩) L.length cl) ps now L) (hl : L.length ≤ 5000) :
    Calls Try.prog 23 #[.pointer (some ⟨q, 0, none⟩), .agg #[.int .i64 t, .int .i64 n, .int .i64 v]] w (PutPost w q va (.slice (some ⟨g, 0, none⟩) L.length cl) ps now (ins (⟨t, n⟩, v) L)) := by
  have hcl : L.length ≤ cl := by
    rcases h.row.2 with ⟨h1, _⟩ | ⟨g1, cap1, cur, h1, _, h2, _⟩
    · simp at h1
    · simp at h1; omega
  have H := Lib.hid h
  clear h
  go_enter Try.func23, Try.ntmps23
  go_wp2_with fail
  go_loopw [4, 5] (PutRel (w.alloc (.cells #[.int .i64 t, .int .i64 n, .int .i64 v] 62)) (⟨t, n⟩, v) L) (fun _ i _ => L.length - (intOf i).toNat)
  case atStart => exact ⟨0, none, 0, by omega, rfl, rfl, Own.nil _ _ _, Chg.refl _ _, by simp [Value.ownBlock]⟩
  case round =>
    obtain ⟨i, A, c, hi, rfl, rfl, ho, hch, hfr⟩ := hrel
    have hC := Lib.hid ((((Chg.refl (fun _ => False) w).alloc (.cells #[.int .i64 t, .int .i64 n, .int .i64 v] 62))).comp hch (fun _ _ f => f))
    have HR := Lib.hid (H.out.quiet hC.out)
    obtain ⟨k0, k1, k2, q0, q1, q2, hplt⟩ := cells3 HR.out.heap
    obtain ⟨b0, b1, b2, _, _, _, hblt⟩ := cells3 (heap_keep (heap_alloc_new w (.cells #[.int .i64 t, .int .i64 n, .int .i64 v] 62)) hch (fun f => f))
    have Ho := Lib.hid ho
    have Hch := Lib.hid hch
    have Hfr := Lib.hid hfr
    have HI := Lib.hid hi
    have hil : i ≤ L.length := Nat.le_trans hi (take_len _ L)
    have HfrC := Lib.hid (show ∀ b, (Value.slice A i c).ownBlock = some b → w.heap.size ≤ b from fun b hb => Nat.le_trans (by simp) (hfr b hb))
    clear ho hch hfr hi
    by_cases hlt : i < L.length
    · have hlt' : (i : Int) < (L.length : Int) := by omega
      obtain ⟨⟨⟨yt, yn⟩, yv⟩, hy⟩ : ∃ y, L[i]? = some y := ⟨L[i], List.getElem?_eq_getElem hlt⟩
      obtain ⟨c0, c1, c2⟩ := Own.wait HR.out.row rfl hy
      have Hy := Lib.hid hy
      clear hy
      by_cases h1 : yt < t
      · go_wp2_with fail
        go_quiet (fail)
        go_wp2_with (at_builtin; refine wpList_append_Own rfl (.tmp 58) (.tmp 66) 42 rfl 62 _ 3 24 Try.underlying42 Try.info62 rfl (by decide) (.slice A i c) i (wcs (L.take i)) rfl (by exact (Ho.out.drewN _).alloc _) (some ⟨wr.heap.size, 0, none⟩) 1 1 [.int .i64 yt, .int .i64 yn, .int .i64 yv] rfl (by rfl) (news_wait (by exact heap_alloc_new (wr.drewN _) _)) (by simp; exact ⟨rfl, rfl, rfl⟩) (by omega) (by omega) ?_; intro v' w' ho hchg hbl hf; obtain ⟨g', cap', hv'⟩ := hf (by omega); subst hv'; have Hx := Lib.hid ho; have Hg := Lib.hid (grown_all ((Hch.out.drewN _).alloc _) Hfr.out hchg hbl); clear ho hchg hbl hf)
        go_roundw
        case rel =>
          have hx := Hx.out
          rw [← wcs_one ((⟨yt, yn⟩, yv) : D × Int), ← wcs_append, ← take_one Hy.out] at hx
          exact ⟨i + 1, some ⟨g', 0, none⟩, cap', take_on HI.out Hy.out (by simp [ltD]; omega), by go_num, rfl, hx, Hg.out.1, Hg.out.2⟩
        case measure => simp [intOf]; omega
      · by_cases h2 : yt = t
        · subst h2
          by_cases h3 : yn < n
          · have h2' : (yt == yt) = true := by simp
            go_wp2_with fail
            go_quiet (fail)
            go_wp2_with (at_builtin; refine wpList_append_Own rfl (.tmp 58) (.tmp 66) 42 rfl 62 _ 3 24 Try.underlying42 Try.info62 rfl (by decide) (.slice A i c) i (wcs (L.take i)) rfl (by exact (Ho.out.drewN _).alloc _) (some ⟨wr.heap.size, 0, none⟩) 1 1 [.int .i64 yt, .int .i64 yn, .int .i64 yv] rfl (by rfl) (news_wait (by exact heap_alloc_new (wr.drewN _) _)) (by simp; exact ⟨rfl, rfl, rfl⟩) (by omega) (by omega) ?_; intro v' w' ho hchg hbl hf; obtain ⟨g', cap', hv'⟩ := hf (by omega); subst hv'; have Hx := Lib.hid ho; have Hg := Lib.hid (grown_all ((Hch.out.drewN _).alloc _) Hfr.out hchg hbl); clear ho hchg hbl hf)
            go_roundw
            case rel =>
              have hx := Hx.out
              rw [← wcs_one ((⟨yt, yn⟩, yv) : D × Int), ← wcs_append, ← take_one Hy.out] at hx
              exact ⟨i + 1, some ⟨g', 0, none⟩, cap', take_on HI.out Hy.out (by simp [ltD, h3]), by go_num, rfl, hx, Hg.out.1, Hg.out.2⟩
            case measure => simp [intOf]; omega
          · have h2' : (yt == yt) = true := by simp
            have h1' : decide (yt < yt) = false := by simp
            have h3' : decide (yn < n) = false := by simpa using h3
            have HS := Lib.hid (take_off HI.out Hy.out (by simp [ltD]; omega))
            clear h1 h3 HI
            go_wp2_with fail
            go_quiet (fail)
            go_wp2_with (first
              | (at_builtin; refine wpList_append_Own rfl (.tmp 70) (.tmp 72) 42 rfl 62 _ 3 24 Try.underlying42 Try.info62 rfl (by decide) (.slice A i c) i (wcs (L.take i)) rfl (by exact (Ho.out.drewN _).alloc _) (some ⟨wr.heap.size, 0, none⟩) 1 1 [.int .i64 yt, .int .i64 n, .int .i64 v] rfl (by rfl) (news_wait (by exact heap_alloc_new (wr.drewN _) _)) (by simp; exact ⟨rfl, rfl, rfl⟩) (by omega) (by omega) ?_; intro v' w1 ho hchg hbl hf; obtain ⟨g', cap', hv'⟩ := hf (by omega); subst hv'; have Hx := Lib.hid ho; have Hg := Lib.hid (grown_all ((hC.out.drewN _).alloc _) HfrC.out hchg hbl); have HR1 := Lib.hid (H.out.quiet Hg.out.1); obtain ⟨r0, r1, r2, s0, s1, s2, hq1⟩ := cells3 HR1.out.heap; have hnews := Lib.hid (wtail_news' (i := i) HR1.out.row rfl); clear ho hchg hbl hf)
              | (at_builtin; refine wpList_append_Own rfl (.tmp 74) (.tmp 80) 42 rfl 62 _ 3 24 Try.underlying42 Try.info62 rfl (by decide) (.slice (some ⟨g', 0, none⟩) (i + 1) cap') (i + 1) (wcs (L.take i) ++ [.int .i64 yt, .int .i64 n, .int .i64 v]) rfl Hx.out (some ⟨g, i * 3, none⟩) (L.length - i) (cl - i) (wcs (L.drop i)) rfl (by rw [wcs_length, List.length_drop]) hnews.out (wcs_one' _) (by omega) (by omega) ?_; intro v2 w2 ho hchg hbl hf; obtain ⟨A3, c3, hv'⟩ := ho.slice; subst hv'; have Hx2 := Lib.hid ho; have Hg2 := Lib.hid (grown_all Hg.out.1 Hg.out.2 hchg hbl); have HR2 := Lib.hid (H.out.quiet Hg2.out.1); obtain ⟨x0, x1, x2, y0, y1, y2, hq2⟩ := cells3 HR2.out.heap; clear ho hchg hbl hf))
            refine bodyPost_ret (results_none rfl _ _ _) rfl ?_
            exact put_end H.out Hg2.out.1 (by have := Hx2.out; rwa [← wcs_one ((⟨yt, n⟩, v) : D × Int), ← wcs_append, ← wcs_append, ins_at HS.out] at this) (by rw [ins_length]; omega) Hg2.out.2
        · have h2' : (yt == t) = false := by simpa using h2
          have h1' : decide (yt < t) = false := by simpa using h1
          have HS := Lib.hid (take_off HI.out Hy.out (by simp [ltD]; omega))
          clear h1 h2 HI
          go_wp2_with fail
          go_quiet (fail)
          go_wp2_with (first
            | (at_builtin; refine wpList_append_Own rfl (.tmp 70) (.tmp 72) 42 rfl 62 _ 3 24 Try.underlying42 Try.info62 rfl (by decide) (.slice A i c) i (wcs (L.take i)) rfl (by exact (Ho.out.drewN _).alloc _) (some ⟨wr.heap.size, 0, none⟩) 1 1 [.int .i64 t, .int .i64 n, .int .i64 v] rfl (by rfl) (news_wait (by exact heap_alloc_new (wr.drewN _) _)) (by simp; exact ⟨rfl, rfl, rfl⟩) (by omega) (by omega) ?_; intro v' w1 ho hchg hbl hf; obtain ⟨g', cap', hv'⟩ := hf (by omega); subst hv'; have Hx := Lib.hid ho; have Hg := Lib.hid (grown_all ((hC.out.drewN _).alloc _) HfrC.out hchg hbl); have HR1 := Lib.hid (H.out.quiet Hg.out.1); obtain ⟨r0, r1, r2, s0, s1, s2, hq1⟩ := cells3 HR1.out.heap; have hnews := Lib.hid (wtail_news' (i := i) HR1.out.row rfl); clear ho hchg hbl hf)
            | (at_builtin; refine wpList_append_Own rfl (.tmp 74) (.tmp 80) 42 rfl 62 _ 3 24 Try.underlying42 Try.info62 rfl (by decide) (.slice (some ⟨g', 0, none⟩) (i + 1) cap') (i + 1) (wcs (L.take i) ++ [.int .i64 t, .int .i64 n, .int .i64 v]) rfl Hx.out (some ⟨g, i * 3, none⟩) (L.length - i) (cl - i) (wcs (L.drop i)) rfl (by rw [wcs_length, List.length_drop]) hnews.out (wcs_one' _) (by omega) (by omega) ?_; intro v2 w2 ho hchg hbl hf; obtain ⟨A3, c3, hv'⟩ := ho.slice; subst hv'; have Hx2 := Lib.hid ho; have Hg2 := Lib.hid (grown_all Hg.out.1 Hg.out.2 hchg hbl); have HR2 := Lib.hid (H.out.quiet Hg2.out.1); obtain ⟨x0, x1, x2, y0, y1, y2, hq2⟩ := cells3 HR2.out.heap; clear ho hchg hbl hf))
          refine bodyPost_ret (results_none rfl _ _ _) rfl ?_
          exact put_end H.out Hg2.out.1 (by have := Hx2.out; rwa [← wcs_one ((⟨t, n⟩, v) : D × Int), ← wcs_append, ← wcs_append, ins_at HS.out] at this) (by rw [ins_length]; omega) Hg2.out.2
    · have hlt' : decide ((i : Int) < (L.length : Int)) = false := by simp; omega
      have HS := Lib.hid (Nat.le_antisymm HI.out (Nat.le_trans (take_len _ L) (by omega)))
      clear HI
      go_wp2_with fail
      go_quiet (fail)
      go_wp2_with (first
        | (at_builtin; refine wpList_append_Own rfl (.tmp 70) (.tmp 72) 42 rfl 62 _ 3 24 Try.underlying42 Try.info62 rfl (by decide) (.slice A i c) i (wcs (L.take i)) rfl (by exact (Ho.out.drewN _).alloc _) (some ⟨wr.heap.size, 0, none⟩) 1 1 [.int .i64 t, .int .i64 n, .int .i64 v] rfl (by rfl) (news_wait (by exact heap_alloc_new (wr.drewN _) _)) (by simp; exact ⟨rfl, rfl, rfl⟩) (by omega) (by omega) ?_; intro v' w1 ho hchg hbl hf; obtain ⟨g', cap', hv'⟩ := hf (by omega); subst hv'; have Hx := Lib.hid ho; have Hg := Lib.hid (grown_all ((hC.out.drewN _).alloc _) HfrC.out hchg hbl); have HR1 := Lib.hid (H.out.quiet Hg.out.1); obtain ⟨r0, r1, r2, s0, s1, s2, hq1⟩ := cells3 HR1.out.heap; obtain ⟨A2, hA2, hnews⟩ : ∃ A2 : Option Addr, (if cl = i then some (⟨g, 0, none⟩ : Addr) else some ⟨g, i * 3, none⟩) = A2 ∧ Hid (0 < L.length - i → ∃ ad, A2 = some ad ∧ ∀ j u, (wcs (L.drop i))[j]? = some u → w1.cell? (ad.add j) = some u) := ⟨_, rfl, Lib.hid (wtail_news HR1.out.row rfl hcl)⟩; clear ho hchg hbl hf)
        | (at_builtin; refine wpList_append_Own rfl (.tmp 74) (.tmp 80) 42 rfl 62 _ 3 24 Try.underlying42 Try.info62 rfl (by decide) (.slice (some ⟨g', 0, none⟩) (i + 1) cap') (i + 1) (wcs (L.take i) ++ [.int .i64 t, .int .i64 n, .int .i64 v]) rfl Hx.out A2 (L.length - i) (cl - i) (wcs (L.drop i)) rfl (by rw [wcs_length, List.length_drop]) hnews.out (wcs_one' _) (by omega) (by omega) ?_; intro v2 w2 ho hchg hbl hf; obtain ⟨A3, c3, hv'⟩ := ho.slice; subst hv'; have Hx2 := Lib.hid ho; have Hg2 := Lib.hid (grown_all Hg.out.1 Hg.out.2 hchg hbl); have HR2 := Lib.hid (H.out.quiet Hg2.out.1); obtain ⟨x0, x1, x2, y0, y1, y2, hq2⟩ := cells3 HR2.out.heap; clear ho hchg hbl hf))
      refine bodyPost_ret (results_none rfl _ _ _) rfl ?_
      exact put_end H.out Hg2.out.1 (by have := Hx2.out; rwa [← wcs_one ((⟨t, n⟩, v) : D × Int), ← wcs_append, ← wcs_append, ins_at HS.out] at this) (by rw [ins_length]; omega) Hg2.out.2

set_option maxRecDepth 100000 in
set_option maxHeartbeats 4000000 in
theorem put_nil (w : World) (q : Nat) (va : Value) (ps : List Int) (now : Int) (t n v : Int) (h : RefAt w q va (.slice none 0 0) ps now []) :
    Calls Try.prog 23 #[.pointer (some ⟨q, 0, none⟩), .agg #[.int .i64 t, .int .i64 n, .int .i64 v]] w (PutPost w q va (.slice none 0 0) ps now (ins (⟨t, n⟩, v) [])) := by
  have H := Lib.hid h
  clear h
  go_enter Try.func23, Try.ntmps23
  go_wp2_with fail
  go_loopw [4, 5] (fun out iv wr => out = .slice none 0 0 ∧ iv = .int .i64 0 ∧ Chg (fun _ => False) (w.alloc (.cells #[.int .i64 t, .int .i64 n, .int .i64 v] 62)) wr) (fun _ i _ => 0)
  case atStart => exact ⟨rfl, rfl, Chg.refl _ _⟩
  case round =>
    obtain ⟨rfl, rfl, hch⟩ := hrel
    have hC := Lib.hid ((((Chg.refl (fun _ => False) w).alloc (.cells #[.int .i64 t, .int .i64 n, .int .i64 v] 62))).comp hch (fun _ _ f => f))
    have HR := Lib.hid (H.out.quiet hC.out)
    obtain ⟨k0, k1, k2, q0, q1, q2, hplt⟩ := cells3 HR.out.heap
    obtain ⟨b0, b1, b2, _, _, _, hblt⟩ := cells3 (heap_keep (heap_alloc_new w (.cells #[.int .i64 t, .int .i64 n, .int .i64 v] 62)) hch (fun f => f))
    clear hch
    go_wp2_with fail
    go_quiet (fail)
    go_wp2_with (first
      | (at_builtin; refine wpList_append_Own rfl (.tmp 70) (.tmp 72) 42 rfl 62 _ 3 24 Try.underlying42 Try.info62 rfl (by decide) (.slice none 0 0) 0 [] rfl (by exact Own.nil _ _ _) (some ⟨wr.heap.size, 0, none⟩) 1 1 [.int .i64 t, .int .i64 n, .int .i64 v] rfl (by rfl) (news_wait (by exact heap_alloc_new (wr.drewN _) _)) (by simp; exact ⟨rfl, rfl, rfl⟩) (by omega) (by omega) ?_; intro v' w1 ho hchg hbl hf; obtain ⟨g', cap', hv'⟩ := hf (by omega); subst hv'; have Hx := Lib.hid ho; have Hg := Lib.hid (grown_all ((hC.out.drewN _).alloc _) (by simp [Value.ownBlock]) hchg hbl); have HR1 := Lib.hid (H.out.quiet Hg.out.1); obtain ⟨r0, r1, r2, s0, s1, s2, hq1⟩ := cells3 HR1.out.heap; clear ho hchg hbl hf)
      | (at_builtin; refine wpList_append_Own rfl (.tmp 74) (.tmp 80) 42 rfl 62 _ 3 24 Try.underlying42 Try.info62 rfl (by decide) (.slice (some ⟨g', 0, none⟩) (0 + 1) cap') (0 + 1) ([] ++ [.int .i64 t, .int .i64 n, .int .i64 v]) rfl Hx.out none 0 0 [] rfl (by rfl) (by intro h; omega) (by simp) (by omega) (by omega) ?_; intro v2 w2 ho hchg hbl hf; obtain ⟨A3, c3, hv'⟩ := ho.slice; subst hv'; have Hx2 := Lib.hid ho; have Hg2 := Lib.hid (grown_all Hg.out.1 Hg.out.2 hchg hbl); have HR2 := Lib.hid (H.out.quiet Hg2.out.1); obtain ⟨x0, x1, x2, y0, y1, y2, hq2⟩ := cells3 HR2.out.heap; clear ho hchg hbl hf))
    refine bodyPost_ret (results_none rfl _ _ _) rfl ?_
    exact put_end H.out Hg2.out.1 Hx2.out rfl Hg2.out.2

theorem put_calls (w : World) (q : Nat) (va vl : Value) (ps : List Int) (now : Int) (L : List (D × Int)) (t n v : Int) (h : RefAt w q va vl ps now L) (hl : L.length ≤ 5000) :
    Calls Try.prog 23 #[.pointer (some ⟨q, 0, none⟩), .agg #[.int .i64 t, .int .i64 n, .int .i64 v]] w (PutPost w q va vl ps now (ins (⟨t, n⟩, v) L)) := by
  rcases h.row.2 with ⟨rfl, h0⟩ | ⟨g, cap, cur, rfl, _⟩
  · obtain rfl : L = [] := List.eq_nil_of_length_eq_zero h0
    exact put_nil w q va ps now t n v h
  · exact put_some w q va g cap ps now L t n v h hl
end Go.Proofs.Ytnhnmjdmenehoaa

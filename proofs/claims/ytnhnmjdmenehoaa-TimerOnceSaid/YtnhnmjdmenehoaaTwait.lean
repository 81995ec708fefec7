import Derived.Test.YtnhnmjdmenehoaaTnew
namespace Go.Proofs.Ytnhnmjdmenehoaa
open Go.RowKit

theorem Ranging.left_eq {w : World} {b r : Nat} {L rest : List (D × Int)} (h : Ranging w b r L rest) : w.rangeLeft b r = rest.length := by
  obtain ⟨l, c, seen, hm, hp, hi, he⟩ := h
  simp only [World.rangeLeft, hm.heap, hi]
  have hleft : (leftOf (l.map ent).toArray seen).toList = (l.filter (fun x => !seen.contains x.s)).map ent := by
    unfold leftOf
    rw [Array.toList_filter]
    simp only [List.filter_map]
    rfl
  rw [← Array.length_toList, hleft, ← he]
  simp

/-- What holds at the head of each round. -/
def WaitRel (w : World) (b r : Nat) (L : List (D × Int)) (sl : Value) (wr : World) : Prop :=
  ∃ (A : Option Addr) (c : Nat) (out : List D) (rest : List (D × Int)), sl = .slice A out.length c ∧ Own wr 48 2 (.slice A out.length c) out.length (dcs out) ∧ Sorted out ∧ (out ++ rest.map Prod.fst).Perm (L.map Prod.fst) ∧
    Ranging wr b r L rest ∧ Chg (fun _ => False) w wr ∧ (∀ k, (Value.slice A out.length c).ownBlock = some k → w.heap.size ≤ k)
/-- What holds at the head of each round of the inner loop. -/
def InRel (w : World) (b r : Nat) (L R : List (D × Int)) (g cap : Nat) (d : D) (out : List D) (si : Value) (wr : World) : Prop :=
  ∃ (P Q : List D), si = .int .i64 (P.length : Int) ∧ Own wr 48 2 (.slice (some ⟨g, 0, none⟩) (out.length + 1) cap) (out.length + 1) (dcs (P ++ d :: Q)) ∧ P ++ Q = out ∧ (∀ q ∈ Q, ltD d q = true) ∧ Ranging wr b r L R ∧ Chg (fun _ => False) w wr

/-- A new slice of the releases xs. -/
def NewDues (E : TypeId) (w : World) (xs : List D) (e : Ending) (w' : World) : Prop :=
  ∃ A c, e = .returned (.slice A xs.length c) ∧ Own w' E 2 (.slice A xs.length c) xs.length (dcs xs) ∧ Chg (fun _ => False) w w' ∧ ∀ k, (Value.slice A xs.length c).ownBlock = some k → w.heap.size ≤ k

theorem news_due {W : World} {g : Nat} {x y : Value} {e : TypeId} (hg : W.heap[g]? = some (.cells #[x, y] e (0, 0))) :
    0 < 1 → ∃ ad, some (⟨g, 0, none⟩ : Addr) = some ad ∧ ∀ k u, [x, y][k]? = some u → W.cell? (ad.add k) = some u := by
  refine fun _ => ⟨_, rfl, fun k u hu => ?_⟩
  have hadd : (⟨g, 0, none⟩ : Addr).add k = ⟨g, k, none⟩ := by unfold Addr.add; split <;> simp_all
  rw [hadd, cell_of_row W g k _ _ _ hg]
  simpa using hu
theorem grown_all {w W W' : World} {v v' : Value} (hW : Chg (fun _ => False) w W) (hfr : ∀ b, v.ownBlock = some b → w.heap.size ≤ b) (hc : Chg (fun k => v.ownBlock = some k) W W') (hb : v'.ownBlock = v.ownBlock ∨ v'.ownBlock = some W.heap.size) :
    Chg (fun _ => False) w W' ∧ ∀ b, v'.ownBlock = some b → w.heap.size ≤ b := by
  refine ⟨hW.comp hc (fun i hi hk => by have := hfr i hk; omega), fun b hk => ?_⟩
  rcases hb with hb | hb
  · exact hfr b (hb ▸ hk)
  · rw [hb] at hk
    injection hk with hk
    have := hW.size
    omega
theorem heap_new_at {W : World} {o : Obj} {g : Nat} (hg : g = W.heap.size) : (W.alloc o).heap[g]? = some o := by
  subst hg
  exact heap_alloc_new W o
theorem Ranging.ne_own {w : World} {b r : Nat} {L R : List (D × Int)} {e : TypeId} {size n : Nat} {v : Value} {xs : List Value} (h : Ranging w b r L R) (ho : Own w e size v n xs) : ¬ v.ownBlock = some r := by
  intro hk
  obtain ⟨l, c, s, hm, hp, hi, he⟩ := h
  rcases ho.2 with ⟨rfl, _⟩ | ⟨g, cap, cur, rfl, hg, _⟩
  · simp [Value.ownBlock] at hk
  · simp [Value.ownBlock] at hk
    subst hk
    rw [hi] at hg
    cases hg

theorem Ranging.quiet {w w' : World} {b r : Nat} {L R : List (D × Int)} (h : Ranging w b r L R) (hc : Chg (fun _ => False) w w') : Ranging w' b r L R := h.keep hc (fun f => f) (fun f => f)
theorem Own.quiet {w w' : World} {e : TypeId} {size n : Nat} {v : Value} {xs : List Value} (h : Own w e size v n xs) (hc : Chg (fun _ => False) w w') : Own w' e size v n xs := h.keep hc (fun _ _ f => f)
theorem closed {L : List (D × Int)} {out P Q : List D} {d : D} {v : Int} {rest R : List (D × Int)} (hpm : (out ++ rest.map Prod.fst).Perm (L.map Prod.fst)) (hpm1 : ((d, v) :: R).Perm rest) (hpq : P ++ Q = out) :
    ((P ++ d :: Q) ++ R.map Prod.fst).Perm (L.map Prod.fst) := by
  refine List.Perm.trans ?_ hpm
  have h2 : (rest.map Prod.fst).Perm (d :: R.map Prod.fst) := by simpa using (hpm1.symm.map Prod.fst)
  refine List.Perm.trans ?_ (h2.symm.append_left out)
  rw [← hpq]
  simp only [List.append_assoc, List.cons_append]
  refine List.Perm.append_left P ?_
  exact List.perm_middle.symm

theorem ltD_asymm {a b : D} (h : ltD a b = true) (h' : ltD b a = true) : False := by
  simp only [ltD, decide_eq_true_eq] at h h'
  omega
theorem ltD_total {a b : D} (h : ¬ ltD a b = true) (hne : a ≠ b) : ltD b a = true := by
  obtain ⟨x, n⟩ := a
  obtain ⟨y, m⟩ := b
  simp only [ltD, decide_eq_true_eq] at h ⊢
  have : ¬ (x = y ∧ n = m) := fun e => hne (by rw [e.1, e.2])
  omega
theorem ltD_trans {a b c : D} (h : ltD a b = true) (h' : ltD b c = true) : ltD a c = true := by
  simp only [ltD, decide_eq_true_eq] at h h' ⊢
  omega
theorem sorted_unique : ∀ (a b : List D), a.Perm b → Sorted a → Sorted b → a = b
  | [], b, h, _, _ => by have := h.symm.eq_nil; exact this.symm
  | x :: a, [], h, _, _ => by have := h.eq_nil; exact this
  | x :: a, y :: b, h, h1, h2 => by
    obtain ⟨x1, x2⟩ := List.pairwise_cons.1 h1
    obtain ⟨y1, y2⟩ := List.pairwise_cons.1 h2
    by_cases e : x = y
    · subst e
      rw [sorted_unique a b ((List.perm_cons x).1 h) x2 y2]
    · have hx : x ∈ y :: b := h.mem_iff.1 List.mem_cons_self
      have hy : y ∈ x :: a := h.mem_iff.2 List.mem_cons_self
      have hx' : x ∈ b := by
        rcases List.mem_cons.1 hx with h | h
        · exact absurd h e
        · exact h
      have hy' : y ∈ a := by
        rcases List.mem_cons.1 hy with h | h
        · exact absurd h.symm e
        · exact h
      exact (ltD_asymm (x1 y hy') (y1 x hx')).elim
/-- The new one stands at its place. -/
theorem sorted_in {P Q : List D} {d : D} (h : Sorted (P ++ Q)) (hq : ∀ q ∈ Q, ltD d q = true) (hp : ∀ p ∈ P, ltD p d = true) : Sorted (P ++ d :: Q) := by
  unfold Sorted at h ⊢
  rw [List.pairwise_append] at h ⊢
  refine ⟨h.1, List.pairwise_cons.2 ⟨hq, h.2.1⟩, fun a ha b hb => ?_⟩
  rcases List.mem_cons.1 hb with rfl | hb
  · exact hp a ha
  · exact h.2.2 a ha b hb
theorem below_last {P' : List D} {e d : D} (h : Sorted (P' ++ [e])) (he : ltD e d = true) : ∀ p ∈ P' ++ [e], ltD p d = true := by
  intro p hp
  unfold Sorted at h
  rw [List.pairwise_append] at h
  rcases List.mem_append.1 hp with hp | hp
  · exact ltD_trans (h.2.2 p hp e (by simp)) he
  · simp at hp; subst hp; exact he
theorem keep_cell {W W' : World} (hc : Chg (fun _ => False) W W') {a : Addr} {u : Value} (hu : W.cell? a = some u) : W'.cell? a = some u :=
  (hc.none_below.cell (World.block_lt_of_cell? W a hu)).trans hu
theorem Own.set {w : World} {e : TypeId} {size g n cap : Nat} {xs : List Value} (h : Own w e size (.slice (some ⟨g, 0, none⟩) n cap) n xs) (j : Nat) (u : Value) : Own (w.setCell ⟨g, j, none⟩ u) e size (.slice (some ⟨g, 0, none⟩) n cap) n (xs.set j u) := by
  rcases h.2 with ⟨h', _⟩ | ⟨g', cap', cur, h', hg, h1, h2, h3, h4⟩
  · simp at h'
  · simp only [Value.slice.injEq, Option.some.injEq, Addr.mk.injEq, and_true, true_and] at h'
    obtain ⟨rfl, rfl⟩ := h'
    refine ⟨by simpa using h.1, .inr ⟨g, cap, cur.setIfInBounds j u, rfl, heap_setCell_same w g j cur e u hg, h1, h2, by simpa using h3, ?_⟩⟩
    rw [Array.toList_setIfInBounds, ← h4, List.take_set]
theorem fresh {L : List (D × Int)} {out P' Q : List D} {d e : D} {v : Int} {rest R : List (D × Int)} (hn : (L.map Prod.fst).Nodup) (hpm : (out ++ rest.map Prod.fst).Perm (L.map Prod.fst)) (hpm1 : rest.Perm ((d, v) :: R)) (hpq : P' ++ [e] ++ Q = out) : d ≠ e := by
  have h1 := hpm.nodup_iff.2 hn
  rw [List.nodup_append] at h1
  refine (h1.2.2 e (by rw [← hpq]; simp) d ?_).symm
  have := (hpm1.map Prod.fst).mem_iff (a := d)
  rw [this]; simp
theorem dcs_swap (P Q : List D) (e d : D) : ((((dcs (P ++ e :: d :: Q)).set ((P.length + 1) * 2) (.int .i64 e.t)).set ((P.length + 1) * 2 + 1) (.int .i64 e.n)).set (P.length * 2) (.int .i64 d.t)).set (P.length * 2 + 1) (.int .i64 d.n) = dcs (P ++ d :: e :: Q) := by
  have h : ∀ x y, dcs (P ++ x :: y :: Q) = dcs P ++ ([.int .i64 x.t, .int .i64 x.n, .int .i64 y.t, .int .i64 y.n] ++ dcs Q) := fun x y => by simp [dcs]
  have hl := dcs_length P
  rw [h, h]
  rw [show (P.length + 1) * 2 = (dcs P).length + 2 by omega, show P.length * 2 = (dcs P).length + 0 by omega, Nat.add_assoc, Nat.add_assoc]
  simp

set_option maxRecDepth 100000 in
set_option maxHeartbeats 4000000 in
theorem waiting_calls (w : World) (p b : Nat) (va : Value) (ps : List Int) (now : Int) (L : List (D × Int)) (h : TimerAt w p va b ps now L) (hl : L.length ≤ 5000) (hs : Sorted (L.map Prod.fst)) :
    Calls Try.prog 18 #[.pointer (some ⟨p, 0, none⟩)] w (NewDues 48 w (L.map Prod.fst)) := by
  obtain ⟨c0, c1, c2, f0, f1, f2, hlt⟩ := cells3 h.heap
  have H := Lib.hid h
  have HS := Lib.hid hs
  clear h hs
  go_enter Try.func18, Try.ntmps18
  go_wp2_with (first | (go_at_call 21; refine (there_calls _ p b va ps now L H.out).mono ?_; rintro e w' ⟨rfl, rfl⟩) | (at_range; refine wpList_range_D rfl (.tmp 12) rfl rfl H.out.map ?_; intro w0 R0 hr0 hp0 hc0 hs0))
  go_frame
  have Hr0 := Lib.hid hr0
  have Hp0 := Lib.hid hp0
  have Hc0 := Lib.hid hc0
  have Hs0 := Lib.hid hs0
  clear hr0 hp0 hc0 hs0
  generalize hr : w.heap.size = r at *
  have Hr := Lib.hid hr
  clear hr
  go_loopw [3] (WaitRel w b r L) (fun _ wr => wr.rangeLeft b r)
  case atStart => exact ⟨none, 0, [], R0, rfl, Own.nil _ _ _, List.Pairwise.nil, by simpa using Hp0.out.map Prod.fst, Hr0.out, Hc0.out, by simp [Value.ownBlock]⟩
  case round =>
    obtain ⟨A, c, out, rest, rfl, ho, hso, hpm, hrg, hch, hfr⟩ := hrel
    have Ho := Lib.hid ho
    have Hso := Lib.hid hso
    have Hpm := Lib.hid hpm
    have Hrg := Lib.hid hrg
    have Hch := Lib.hid hch
    have Hfr := Lib.hid hfr
    have hlen : out.length + rest.length = L.length := by have := hpm.length_eq; simpa using this
    clear ho hso hpm hrg hch hfr Hr0 Hp0 Hc0 Hs0
    go_wp2_with (at_next; refine wpList_next_D rfl (.tmp 13) rfl rfl Hrg.out ?_ ?_)
    · intro hr0
      have Hr0 := Lib.hid hr0
      clear hr0
      go_wp2_with fail
      go_ret
      have hp := Hpm.out
      rw [Hr0.out] at hp
      simp only [List.map_nil, List.append_nil] at hp
      have he := sorted_unique _ _ hp Hso.out HS.out
      rw [← he]
      exact ⟨A, c, rfl, Ho.out, Hch.out, Hfr.out⟩
    · intro x n v w1 R' hr1 hpm1 hc1 hs1 hen
      have Hr1 := Lib.hid hr1
      have Hpm1 := Lib.hid hpm1
      have Hc1 := Lib.hid hc1
      have Hs1 := Lib.hid hs1
      clear hr1 hpm1 hc1 hs1
      have Ho1 := Lib.hid (Ho.out.keep Hc1.out (fun k hk e => Hrg.out.ne_own Ho.out (e ▸ hk)))
      go_wp2_with (at_builtin; refine wpList_append_Own rfl (.tmp 18) (.tmp 20) 33 rfl 48 _ 2 16 Try.underlying33 Try.info48 rfl (by decide) (.slice A out.length c) out.length (dcs out) rfl (by exact (Ho1.out.alloc _).alloc _) (some ⟨w1.heap.size + 1, 0, none⟩) 1 1 [.int .i64 x, .int .i64 n] rfl (by rfl) (news_due (by exact heap_alloc2_new w1 _ _)) (by simp; exact ⟨rfl, rfl⟩) (by omega) (by omega) ?_; intro v' w2 ho hchg hbl hf; obtain ⟨g', cap', hv'⟩ := hf (by omega); subst hv'; have Hx := Lib.hid ho; have Hc := Lib.hid hchg; have Hb := Lib.hid hbl; clear ho hchg hbl hf)
      clear hen
      have Hrr := Lib.hid (((Hr1.out.alloc (.cells #[.int .i64 x, .int .i64 n] 48)).alloc (.cells #[.int .i64 x, .int .i64 n] 48)).keep Hc.out (fun e => Hr1.out.holds.ne_own Ho1.out e) (fun e => Hr1.out.ne_own Ho1.out e))
      have Hg := Lib.hid (grown_all (((Hch.out.comp (T := fun k => k = r) Hc1.out (fun i hi e => by have := Hr.out; omega)).alloc (.cells #[.int .i64 x, .int .i64 n] 48)).alloc (.cells #[.int .i64 x, .int .i64 n] 48)) Hfr.out Hc.out Hb.out)
      obtain ⟨wo, rfl⟩ : ∃ wo : World, wo = w2 := ⟨_, rfl⟩
      go_loopw [5] (InRel w b r L R' g' cap' ⟨x, n⟩ out) (fun si _ => (intOf si).toNat)
      case atStart => exact ⟨out, [], rfl, by rw [dcs_append]; exact Hx.out, by simp, by simp, Hrr.out, Hg.out.1⟩
      case round =>
        obtain ⟨P, Q, rfl, ho, hpq, hq, hrg, hch⟩ := hrel
        rcases List.eq_nil_or_concat P with rfl | ⟨P', e, hPP⟩
        · have HO2 := Lib.hid ho
          have Hpq := Lib.hid hpq
          have Hq := Lib.hid hq
          have HR2 := Lib.hid hrg
          have HC2 := Lib.hid hch
          clear ho hpq hq hrg hch
          simp only [List.length_nil]
          go_wp2_with fail
          go_quiet (fail)
          go_wp2_with fail
          go_roundw
          case rel =>
            have hq2 : Q = out := Hpq.out
            have hn1 : out.length + 1 = ([] ++ D.mk x n :: Q).length := by rw [hq2]; simp
            refine ⟨some ⟨g', 0, none⟩, cap', [] ++ ⟨x, n⟩ :: Q, R', ?_, ?_, ?_, closed Hpm.out Hpm1.out.symm Hpq.out, HR2.out.quiet ((Chg.refl _ _).drewN _), HC2.out.drewN _, Hg.out.2⟩
            · rw [hn1]
            · rw [← hn1]; exact HO2.out.drewN _
            · exact sorted_in (by rw [Hpq.out]; exact Hso.out) Hq.out (by simp)
          case measure => 
            have hl2 := Hpm1.out.length_eq
            simp only [List.length_cons] at hl2
            rw [(HR2.out.quiet ((Chg.refl _ _).drewN _)).left_eq, Hrg.out.left_eq]
            omega
        · rw [List.concat_eq_append] at hPP
          subst hPP
          have Ho2 := Lib.hid ho
          have Hpq := Lib.hid hpq
          have Hq := Lib.hid hq
          have HR2 := Lib.hid hrg
          have HC2 := Lib.hid hch
          clear hq hrg hch
          have hl1 : out.length = P'.length + 1 + Q.length := by rw [← hpq]; simp; omega
          have hls : out.length < 5000 := by have := Hpm1.out.length_eq; simp at this; omega
          have Hl1 := Lib.hid hl1
          have hxe : (P' ++ [e] ++ D.mk x n :: Q)[P'.length]? = some e := by simp
          have hxd : (P' ++ [e] ++ D.mk x n :: Q)[P'.length + 1]? = some (D.mk x n) := by simp
          have hb : g' < wr.heap.size := ho.lt g' rfl
          have hle : out.length + 1 = (P' ++ [e] ++ D.mk x n :: Q).length := by simp; omega
          have hf := fun j => ho.frozen j
          obtain ⟨e0, e1⟩ := Own.due ho hle hxe
          obtain ⟨d0, d1⟩ := Own.due ho hle hxd
          clear hxe hxd ho hpq hl1 hle
          simp only [List.length_append, List.length_cons, List.length_nil] at *
          have hg1 : decide ((0 : Int) < ((P'.length + 1 : Nat) : Int)) = true := by simp
          obtain ⟨et, en⟩ := e
          have i1 : (0 : Int) ≤ (P'.length : Int) + 1 := by omega
          have hl1 := Hl1.out
          have i2 : (P'.length : Int) + 1 < (out.length : Int) + 1 := by omega
          have i3 : IntKind.i64.wrap ((P'.length : Int) + 1 - 1) = (P'.length : Int) := by
            rw [IntKind.wrap_i64]; omega
          have i7 : IntKind.i64.wrap (P'.length : Int) = (P'.length : Int) := by rw [IntKind.wrap_i64]; omega
          have i8 : (0 : Int) ≤ (P'.length : Int) := by omega
          have i4 : (P'.length : Int) < (out.length : Int) + 1 := by omega
          have i5 : P'.length < out.length := by omega
          have i6 : P'.length < out.length + 1 := by omega
          clear hl1
          go_wp2_with fail
          go_region_held3 (fun w' => w'.cell? ⟨g', P'.length * 2, none⟩ = some (.int .i64 et) ∧ w'.cell? ⟨g', P'.length * 2 + 1, none⟩ = some (.int .i64 en) ∧ w'.cell? ⟨g', (P'.length + 1) * 2, none⟩ = some (.int .i64 x) ∧ w'.cell? ⟨g', (P'.length + 1) * 2 + 1, none⟩ = some (.int .i64 n)) (refine ⟨?_, ?_, ?_, ?_⟩ <;> assumption) 
            ((go_at_call 24; refine (ahead_calls _ _ _ _ _).mono ?_; rintro e' w9 ⟨rfl, hc9⟩; have HC9 := Lib.hid ((Chg.refl (fun _ => False) wr).drew.trans hc9); have e0' := keep_cell HC9.out e0; have e1' := keep_cell HC9.out e1; have d0' := keep_cell HC9.out d0; have d1' := keep_cell HC9.out d1; clear hc9))
          clear e0 e1 d0 d1
          have HO9 := Lib.hid (Ho2.out.quiet HC9.out)
          have HR9 := Lib.hid (HR2.out.quiet HC9.out)
          have HD9 := Lib.hid (HC2.out.comp HC9.out (fun _ _ f => f))
          have hf9 := fun j => HO9.out.frozen j
          have hb9 : g' < w9.heap.size := HO9.out.lt g' rfl
          clear hf hb HC9
          rcases hlt9 : ltD ⟨x, n⟩ ⟨et, en⟩ with _ | _
          · go_wp2_with fail
            go_roundw
            case rel =>
              have hn1 : out.length + 1 = (P' ++ [D.mk et en] ++ D.mk x n :: Q).length := by have := Hl1.out; simp; omega
              have hs9 : Sorted (P' ++ [D.mk et en] ++ Q) := by rw [Hpq.out]; exact Hso.out
              have hs8 : Sorted (P' ++ [D.mk et en]) := by unfold Sorted at hs9 ⊢; exact (List.pairwise_append.1 hs9).1
              refine ⟨some ⟨g', 0, none⟩, cap', P' ++ [⟨et, en⟩] ++ ⟨x, n⟩ :: Q, R', ?_, ?_, ?_, closed Hpm.out Hpm1.out.symm Hpq.out, HR9.out, HD9.out, Hg.out.2⟩
              · rw [hn1]
              · rw [← hn1]; exact HO9.out
              · exact sorted_in hs9 Hq.out (below_last hs8 (ltD_total (by rw [hlt9]; decide) (fresh HR9.out.holds.nodup Hpm.out Hpm1.out Hpq.out)))
            case measure => 
              have hl2 := Hpm1.out.length_eq
              simp only [List.length_cons] at hl2
              rw [HR9.out.left_eq, Hrg.out.left_eq]
              omega
          · go_wp2_with fail
            go_region
            go_wp2_with fail
            go_roundw
            case rel =>
              have hc := ((((Chg.refl (fun k => k = g') w9).setCell (p := ⟨g', (P'.length + 1) * 2, none⟩) (fun _ => rfl) (.int .i64 et)).setCell (p := ⟨g', (P'.length + 1) * 2 + 1, none⟩) (fun _ => rfl) (.int .i64 en)).setCell (p := ⟨g', P'.length * 2, none⟩) (fun _ => rfl) (.int .i64 x)).setCell (p := ⟨g', P'.length * 2 + 1, none⟩) (fun _ => rfl) (.int .i64 n)
              have ho := (((HO9.out.set ((P'.length + 1) * 2) (.int .i64 et)).set ((P'.length + 1) * 2 + 1) (.int .i64 en)).set (P'.length * 2) (.int .i64 x)).set (P'.length * 2 + 1) (.int .i64 n)
              have hdw := dcs_swap P' Q ⟨et, en⟩ ⟨x, n⟩
              rw [List.append_assoc, List.singleton_append, hdw] at ho
              refine ⟨P', ⟨et, en⟩ :: Q, rfl, ho.drew, by rw [← Hpq.out]; simp, ?_, (HR9.out.keep hc (fun e => HR9.out.holds.ne_own HO9.out (by rw [e]; rfl)) (fun e => HR9.out.ne_own HO9.out (by rw [e]; rfl))).quiet (Chg.refl _ _).drew, (HD9.out.comp hc (fun i hi e => ?_)).drew⟩
              · intro q hq
                rcases List.mem_cons.1 hq with rfl | hq
                · exact hlt9
                · exact Hq.out q hq
              · have := Hg.out.2 g' rfl; omega
            case measure => simp [intOf]
end Go.Proofs.Ytnhnmjdmenehoaa

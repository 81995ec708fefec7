import Derived.Test.YtnhnmjdmenehoaaAlonep
namespace Go.Proofs.Ytnhnmjdmenehoaa
open Go.RowKit

/-- A tick, of which the answers are named. -/
def TickAs (W : World) (p b : Nat) (va : Value) (ps : List Int) (now : Int) (tl : List D) (L' : List (D × Int)) (e : Ending) (w' : World) : Prop :=
  ∃ A c, e = .returned (.slice A tl.length c) ∧ Own w' 48 2 (.slice A tl.length c) tl.length (dcs tl) ∧ (∀ i, (Value.slice A tl.length c).ownBlock = some i → W.heap.size ≤ i) ∧ Tim w' p b va ps (now + 1) L' ∧ Chg (fun i => i = p ∨ i = b) W w'
theorem Tim.tickAs {w : World} {p b : Nat} {va : Value} {ps : List Int} {now : Int} {L : List (D × Int)} (h : Tim w p b va ps now L) (picks : List Int) (sv : Value) (hk : PickAt w sv picks) (hn : now ≤ 1000000) (hl : L.length ≤ 4000) {tl : List D} {L' : List (D × Int)} (h1 : told ps now L picks = tl) (h2 : left ps now L picks = L') :
    Calls Try.prog 14 #[.pointer (some ⟨p, 0, none⟩), sv] w (TickAs w p b va ps now tl L') := by
  have h3 := h.tick picks sv hk hn hl
  unfold TimPost at h3
  rw [h1, h2] at h3
  exact h3
theorem ne_new {w w1 : World} {p b p2 b2 : Nat} {va : Value} {ps : List Int} {now : Int} {L : List (D × Int)} (h : Tim w1 p b va ps now L) (hc : Chg (fun _ => False) w1 w) (hp : w.heap.size ≤ p2) (hb : w.heap.size ≤ b2) : p ≠ p2 ∧ b ≠ b2 := by
  have h1 := (Array.getElem?_eq_some_iff.1 h.at_.heap).1
  have h2 := h.at_.map.lt
  have h3 := hc.size
  omega
theorem told_left_length {ps : List Int} {now : Int} {L : List (D × Int)} (h : Neat ps now L) (k : List Int) : (told ps now L k).length + (left ps now L k).length ≤ L.length + ps.length := by
  have h1 := h.lay_length k
  have h2 : ∀ l : List (D × Int), (l.filter (fun x => decide (x.2 ≤ now))).length + (l.filter (fun x => !decide (x.2 ≤ now))).length = l.length := by
    intro l
    induction l with
    | nil => rfl
    | cons x l ih => by_cases hx : x.2 ≤ now <;> simp [hx] at ih ⊢ <;> omega
  have h3 := h2 (lay ps now L k)
  unfold told left
  rw [List.length_map]
  omega


/-- Bytes that came in. -/
def BytesAt (w : World) (A : Option Addr) (js : List Int) : Prop :=
  js.length ≤ maxLen ∧ (∀ x ∈ js, 0 ≤ x ∧ x ≤ 255) ∧ (js = [] ∨ ∃ b off, A = some ⟨b, off, none⟩ ∧ ∀ k x, js[k]? = some x → w.cell? ⟨b, off + k, none⟩ = some (.int .u8 x))
theorem BytesAt.quiet {w w' : World} {A : Option Addr} {js : List Int} (h : BytesAt w A js) (hc : Chg (fun _ => False) w w') : BytesAt w' A js := by
  refine ⟨h.1, h.2.1, h.2.2.imp id ?_⟩
  rintro ⟨b, off, rfl, hh⟩
  exact ⟨b, off, rfl, fun k x hx => keep_cell hc (hh k x hx)⟩
theorem BytesAt.at_ {w : World} {A : Option Addr} {js : List Int} (h : BytesAt w A js) {k : Nat} {x : Int} (hx : js[k]? = some x) : ∃ b off, A = some ⟨b, off, none⟩ ∧ w.cell? ⟨b, off + k, none⟩ = some (.int .u8 x) := by
  rcases h.2.2 with h | ⟨b, off, rfl, hh⟩
  · rw [h] at hx; simp at hx
  · exact ⟨b, off, rfl, hh k x hx⟩
theorem Own.pick {w : World} {e : TypeId} {n c : Nat} {A : Option Addr} {l : List Int} (h : Own w e 1 (.slice A n c) n (ints l)) (hn : n = l.length) (h0 : 0 < n) : PickAt w (.slice A n c) l := by
  obtain ⟨g, cap, hv, h1, h2, _⟩ := h.form h0
  have hr := h.reads hn
  injection hv with _ _ h3
  subst h3
  exact ⟨A, c, by rw [hn], by omega, h2, hr⟩
theorem news_int {W : World} {g : Nat} {x : Int} {e : TypeId} (hg : W.heap[g]? = some (.cells #[.int .i64 x] e (0, 0))) :
    0 < 1 → ∃ ad, some (⟨g, 0, none⟩ : Addr) = some ad ∧ ∀ k u, (ints [x])[k]? = some u → W.cell? (ad.add k) = some u := by
  refine fun _ => ⟨_, rfl, fun k u hu => ?_⟩
  have hadd : (⟨g, 0, none⟩ : Addr).add k = ⟨g, k, none⟩ := by unfold Addr.add; split <;> simp_all
  rw [hadd, cell_of_row W g k _ _ _ hg]
  simpa [ints] using hu

def AloneRel (w : World) (p b p2 b2 : Nat) (va va2 : Value) (x y : Int) (n : Nat) (sv : Value) (wr : World) : Prop :=
  ∃ (s : Nat) (L L1 : List (D × Int)), s ≤ n ∧ s ≤ 200 ∧ sv = .int .i64 s ∧ Tim wr p b va [x, y] s L ∧ Tim wr p2 b2 va2 [y] s L1 ∧ Twin s L L1 ∧ L.length ≤ 2 * s ∧ L1.length ≤ s ∧ Chg (fun _ => False) w wr
def AloneIn (w : World) (tl tl1 : List D) (kv iv : Value) (wr : World) : Prop :=
  ∃ (i : Nat) (P : List Int), i ≤ tl.length ∧ iv = .int .i64 i ∧ kv = .int .i64 P.length ∧ tl1.map (·.n) = P ++ noms (tl.drop i) ∧ Chg (fun _ => False) w wr
theorem good_snd {x y : Int} (h : Good [x, y]) : Good [y] := ⟨by simp, by simp, fun z hz => h.2.2 z (by simp at hz; simp [hz])⟩

set_option maxRecDepth 100000 in
set_option maxHeartbeats 4000000 in
theorem alone_good (w : World) (x y : Int) (Aj : Option Addr) (cj : Nat) (js : List Int) (hj : BytesAt w Aj js) (hg : Good [x, y]) :
    Calls Try.prog 5 #[.int .i64 x, .int .i64 y, .slice Aj js.length cj] w (OnlyBool true w) := by
  have HJ := Lib.hid hj
  have HG := Lib.hid hg
  have hml : js.length ≤ 9223372036854775807 := by have := hj.1; simp only [maxLen] at this; omega
  clear hj
  obtain ⟨_, _, gp⟩ := hg
  obtain ⟨gx, _⟩ := gp x (by simp)
  clear gp
  have hx0 : (x == 0) = false := beq_eq_false_iff_ne.2 (by omega)
  go_enter Try.func5, Try.ntmps5
  go_wp2_with (go_at_call 11; refine (new_two w x y HG.out).mono ?_)
  rintro e w1 ⟨p, va, b, rfl, ht1, hc1, hp1, hb1, hv1⟩
  have H1 := Lib.hid (Tim.new ht1 HG.out)
  have C1 := Lib.hid hc1
  have P1 := Lib.hid (show w.heap.size ≤ p ∧ w.heap.size ≤ b from ⟨hp1, hb1⟩)
  clear ht1 hc1 hv1 hp1 hb1
  go_wp2_with (go_at_call 11; refine (new_one w1 y (good_snd HG.out)).mono ?_)
  rintro e w2 ⟨p2, va2, b2, rfl, ht2, hc2, hp2, hb2, hv2⟩
  have H2 := Lib.hid (Tim.new ht2 (good_snd HG.out))
  have HN := Lib.hid (ne_new H1.out (Chg.refl _ w1) hp2 hb2)
  have H12 := Lib.hid (H1.out.quiet hc2)
  have C2 := Lib.hid (C1.out.comp hc2 (fun _ _ f => f))
  have FR := Lib.hid (show (w.heap.size ≤ p ∧ w.heap.size ≤ b) ∧ w.heap.size ≤ p2 ∧ w.heap.size ≤ b2 from ⟨P1.out, Nat.le_trans C1.out.size hp2, Nat.le_trans C1.out.size hb2⟩)
  clear ht2 hc2 hp2 hb2 hv2 H1 C1
  go_wp2_with fail
  go_loopw [11] (AloneRel w p b p2 b2 va va2 x y js.length) (fun sv _ => 200 - (intOf sv).toNat)
  case atStart => exact ⟨0, [], [], by omega, by omega, rfl, H12.out, H2.out, Twin.nil, by simp, by simp, C2.out⟩
  case round =>
    obtain ⟨s, L, L1, hs, hs2, rfl, ht, hu, htw, hL, hL1, hch⟩ := hrel
    have HT := Lib.hid ht
    have HU := Lib.hid hu
    have HC := Lib.hid hch
    have HTW0 := Lib.hid htw
    clear ht hu hch htw H12 H2 C2
    by_cases hlt : s < js.length
    · have hlt' : (s : Int) < (js.length : Int) := by omega
      by_cases hlt2 : s < 200
      · have hlt2' : (s : Int) < 200 := by omega
        obtain ⟨j, hjs⟩ : ∃ j, js[s]? = some j := ⟨js[s], List.getElem?_eq_getElem hlt⟩
        obtain ⟨bj, oj, rfl, hcj⟩ := (HJ.out.quiet HC.out).at_ hjs
        have hbj := block_lt_of_cell hcj
        obtain ⟨j0, j1⟩ := HJ.out.2.1 j (List.mem_of_getElem? hjs)
        clear hjs
        obtain ⟨tl, htl⟩ : ∃ tl, told [x, y] s L (both x s j) = tl := ⟨_, rfl⟩
        obtain ⟨Ln, hLn⟩ : ∃ Ln, left [x, y] s L (both x s j) = Ln := ⟨_, rfl⟩
        obtain ⟨tl1, htl1⟩ : ∃ tl, told [y] s L1 [j] = tl := ⟨_, rfl⟩
        obtain ⟨Ln1, hLn1⟩ : ∃ Ln, left [y] s L1 [j] = Ln := ⟨_, rfl⟩
        obtain ⟨w1', w2', w3'⟩ := HTW0.out.next (a := x) (b := y) HT.out.neat.old HU.out.neat.old j0 j1
        have hb1 := told_left_length HT.out.neat (both x s j)
        have hb2 := told_left_length HU.out.neat [j]
        rw [htl, hLn] at hb1
        rw [htl1, hLn1] at hb2
        rw [hLn, hLn1] at w1'
        rw [htl, htl1] at w2'
        rw [htl1] at w3'
        simp only [List.length_cons, List.length_nil] at hb1 hb2
        have HTW := Lib.hid w1'
        have HNM := Lib.hid w2'
        have HZ := Lib.hid w3'
        have HTL := Lib.hid htl
        have HLN := Lib.hid hLn
        have HTL1 := Lib.hid htl1
        have HLN1 := Lib.hid hLn1
        clear w1' w2' w3' htl hLn htl1 hLn1
        by_cases hmod : (s : Int) % x = 0
        · have hm1 : ((s : Int).tmod x == 0) = true := by rw [Int.tmod_eq_emod_of_nonneg (by omega)]; simp [hmod]
          go_wp2_with (first
            | (at_builtin; refine wpList_append_Own rfl (.tmp 69) (.tmp 71) 22 rfl 3 _ 1 8 Try.underlying22 Try.info3 rfl (by decide) (.slice none 0 0) 0 [] rfl (Own.nil _ _ _) (some ⟨wr.heap.size, 0, none⟩) 1 1 (ints [j]) rfl (by rfl) (news_int (by exact heap_alloc_new wr _)) (ints_one' [j]) (by omega) (by omega) ?_; intro v' w3 ho hchg hbl hf; obtain ⟨g3, c3, hv'⟩ := hf (by omega); subst hv'; have HX3 := Lib.hid ho; have HG3 := Lib.hid (grown_all (by exact (Chg.refl _ wr).alloc _) (by simp [Value.ownBlock]) hchg hbl); clear ho hchg hbl hf)
            | (at_builtin; refine wpList_append_Own rfl (.tmp 73) (.tmp 75) 22 rfl 3 _ 1 8 Try.underlying22 Try.info3 rfl (by decide) (.slice (some ⟨g3, 0, none⟩) 1 c3) 1 (ints [j]) rfl (by exact HX3.out.alloc _) (some ⟨w3.heap.size, 0, none⟩) 1 1 (ints [j]) rfl (by rfl) (news_int (by exact heap_alloc_new w3 _)) (ints_one' [j]) (by omega) (by omega) ?_; intro v' w4 ho hchg hbl hf; obtain ⟨g4, c4, hv'⟩ := hf (by omega); subst hv'; have HX4 := Lib.hid ho; have HG4 := Lib.hid (grown_all (by exact HG3.out.1.alloc _) (by exact HG3.out.2) hchg hbl); clear ho hchg hbl hf))
          have HT4 := Lib.hid (HT.out.quiet HG4.out.1)
          have HU4 := Lib.hid (HU.out.quiet HG4.out.1)
          have HC4 := Lib.hid (HC.out.comp HG4.out.1 (fun _ _ f => f))
          have HPk := Lib.hid (show PickAt w4 (.slice (some ⟨g4, 0, none⟩) 2 c4) (both x s j) from by rw [show both x s j = [j, j] by simp [both, hmod]]; exact Own.pick (l := [j, j]) HX4.out rfl (by omega))
          clear HG4 HX4
          go_wp2_with (go_at_call 14; refine (HT4.out.tickAs (both x s j) _ HPk.out (by omega) (by omega) HTL.out HLN.out).mono ?_)
          rintro e w5 ⟨A5, c5, rfl, ho5, _, ht5, hc5⟩
          have HO5 := Lib.hid ho5
          have HT5 := Lib.hid ht5
          have HU5 := Lib.hid (HU4.out.apart HT4.out HN.out.1.symm HN.out.2.symm hc5)
          have HC5 := Lib.hid (own_new HC4.out FR.out.1 hc5)
          clear ho5 ht5 hc5 HT4 HU4 HC4 HPk
          go_wp2_with (go_at_call 14; refine ((HU5.out.alloc (.cells #[.int .i64 j] 3)).tickAs [j] _ (pick_one w5 j) (by omega) (by omega) HTL1.out HLN1.out).mono ?_)
          rintro e w6 ⟨A6, c6, rfl, ho6, _, ht6, hc6⟩
          have HO6 := Lib.hid ho6
          have HU6 := Lib.hid ht6
          have HT6 := Lib.hid ((HT5.out.alloc _).apart (HU5.out.alloc _) HN.out.1 HN.out.2 hc6)
          have HX6 := Lib.hid ((HU5.out.alloc _).beside (HO5.out.alloc _) (by decide) hc6)
          have HC6 := Lib.hid (own_new (HC5.out.alloc _) FR.out.2 hc6)
          clear ho6 ht6 hc6 HT5 HU5 HO5 HC5
          go_wp2_with fail
          go_loopw [16, 17] (AloneIn w6 tl tl1) (fun _ iv _ => tl.length - (intOf iv).toNat)
          case atStart => exact ⟨0, [], by omega, rfl, rfl, HNM.out.symm, Chg.refl _ _⟩
          case round =>
            obtain ⟨i, P, hi, rfl, rfl, hP, hch⟩ := hrel
            have HP := Lib.hid hP
            have HW := Lib.hid hch
            clear hP hch
            have HXr := Lib.hid (HX6.out.quiet HW.out)
            have HYr := Lib.hid (HO6.out.quiet HW.out)
            by_cases hli : i < tl.length
            · have hli' : (i : Int) < (tl.length : Int) := by omega
              obtain ⟨⟨t, n⟩, hx⟩ : ∃ d, tl[i]? = some d := ⟨tl[i], List.getElem?_eq_getElem hli⟩
              obtain ⟨g, cap, hv, _, _, hg⟩ := HXr.out.form (by omega)
              injection hv with hv1 _ hv2
              subst hv1; subst hv2
              obtain ⟨d0, d1⟩ := Own.due HXr.out rfl hx
              have hd := Lib.hid (drop_one hx)
              clear hx
              by_cases ht1 : t = 1
              · subst ht1
                have hPn : tl1.map (·.n) = P ++ n :: noms (tl.drop (i + 1)) := by rw [HP.out, hd.out, noms_cons]; simp
                have hlen : P.length < tl1.length := by
                  have := congrArg List.length hPn
                  simp at this; omega
                have hlen' : (P.length : Int) < (tl1.length : Int) := by omega
                have hat : tl1[P.length]? = some ⟨0, n⟩ := by
                  obtain ⟨⟨t', n'⟩, hy⟩ : ∃ d, tl1[P.length]? = some d := ⟨tl1[P.length], List.getElem?_eq_getElem hlen⟩
                  have h1 : (tl1.map (·.n))[P.length]? = some n := by rw [hPn]; simp
                  rw [List.getElem?_map, hy] at h1
                  simp at h1
                  have h2 := HZ.out ⟨t', n'⟩ (List.mem_of_getElem? hy)
                  simp only at h2
                  rw [hy, ← h1, h2]
                have HPn := Lib.hid hPn
                clear hPn
                obtain ⟨g2, cap2, hv, _, _, hg2⟩ := HYr.out.form (by omega)
                injection hv with hv1 _ hv2
                subst hv1; subst hv2
                obtain ⟨e0, e1⟩ := Own.due HYr.out rfl hat
                clear hat
                go_wp2_with fail
                go_quiet (fail)
                go_wp2_with fail
                go_roundw
                case rel => exact ⟨i + 1, P ++ [n], by omega, by go_num, by simp, by rw [HPn.out]; simp, HW.out.drewN _⟩
                case measure => simp [intOf]; omega
              · have ht2 : (t == 1) = false := beq_eq_false_iff_ne.2 ht1
                go_wp2_with fail
                go_roundw
                case rel => exact ⟨i + 1, P, by omega, by go_num, rfl, by rw [HP.out, hd.out, noms_cons]; simp [ht1], HW.out⟩
                case measure => simp [intOf]; omega
            · have hli' : ¬ (i : Int) < (tl.length : Int) := by omega
              have hPl : P.length = tl1.length := by
                have := congrArg List.length HP.out
                rw [List.drop_of_length_le (by omega)] at this
                simp [noms] at this
                omega
              have HPl := Lib.hid hPl
              rw [hPl]
              clear hPl
              go_wp2_with fail
              go_roundw
              case rel => exact ⟨s + 1, Ln, Ln1, by omega, by omega, by go_num, by have := HT6.out.quiet HW.out; rwa [show ((s : Int) + 1) = ((s + 1 : Nat) : Int) by omega] at this, by have := HU6.out.quiet HW.out; rwa [show ((s : Int) + 1) = ((s + 1 : Nat) : Int) by omega] at this, by have := HTW.out; rwa [show ((s : Int) + 1) = ((s + 1 : Nat) : Int) by omega] at this, by omega, by omega, HC6.out.comp HW.out (fun _ _ f => f)⟩
              case measure => simp [intOf]; omega
        · have hm1 : ((s : Int).tmod x == 0) = false := by rw [Int.tmod_eq_emod_of_nonneg (by omega)]; simp [hmod]
          go_wp2_with (at_builtin; refine wpList_append_Own rfl (.tmp 73) (.tmp 75) 22 rfl 3 _ 1 8 Try.underlying22 Try.info3 rfl (by decide) (.slice none 0 0) 0 [] rfl (Own.nil _ _ _) (some ⟨wr.heap.size, 0, none⟩) 1 1 (ints [j]) rfl (by rfl) (news_int (by exact heap_alloc_new wr _)) (ints_one' [j]) (by omega) (by omega) ?_; intro v' w4 ho hchg hbl hf; obtain ⟨g4, c4, hv'⟩ := hf (by omega); subst hv'; have HX4 := Lib.hid ho; have HG4 := Lib.hid (grown_all (by exact (Chg.refl _ wr).alloc _) (by simp [Value.ownBlock]) hchg hbl); clear ho hchg hbl hf)
          have HT4 := Lib.hid (HT.out.quiet HG4.out.1)
          have HU4 := Lib.hid (HU.out.quiet HG4.out.1)
          have HC4 := Lib.hid (HC.out.comp HG4.out.1 (fun _ _ f => f))
          have HPk := Lib.hid (show PickAt w4 (.slice (some ⟨g4, 0, none⟩) 1 c4) (both x s j) from by rw [show both x s j = [j] by simp [both, hmod]]; exact Own.pick (l := [j]) HX4.out rfl (by omega))
          clear HG4 HX4
          go_wp2_with (go_at_call 14; refine (HT4.out.tickAs (both x s j) _ HPk.out (by omega) (by omega) HTL.out HLN.out).mono ?_)
          rintro e w5 ⟨A5, c5, rfl, ho5, _, ht5, hc5⟩
          have HO5 := Lib.hid ho5
          have HT5 := Lib.hid ht5
          have HU5 := Lib.hid (HU4.out.apart HT4.out HN.out.1.symm HN.out.2.symm hc5)
          have HC5 := Lib.hid (own_new HC4.out FR.out.1 hc5)
          clear ho5 ht5 hc5 HT4 HU4 HC4 HPk
          go_wp2_with (go_at_call 14; refine ((HU5.out.alloc (.cells #[.int .i64 j] 3)).tickAs [j] _ (pick_one w5 j) (by omega) (by omega) HTL1.out HLN1.out).mono ?_)
          rintro e w6 ⟨A6, c6, rfl, ho6, _, ht6, hc6⟩
          have HO6 := Lib.hid ho6
          have HU6 := Lib.hid ht6
          have HT6 := Lib.hid ((HT5.out.alloc _).apart (HU5.out.alloc _) HN.out.1 HN.out.2 hc6)
          have HX6 := Lib.hid ((HU5.out.alloc _).beside (HO5.out.alloc _) (by decide) hc6)
          have HC6 := Lib.hid (own_new (HC5.out.alloc _) FR.out.2 hc6)
          clear ho6 ht6 hc6 HT5 HU5 HO5 HC5
          go_wp2_with fail
          go_loopw [16, 17] (AloneIn w6 tl tl1) (fun _ iv _ => tl.length - (intOf iv).toNat)
          case atStart => exact ⟨0, [], by omega, rfl, rfl, HNM.out.symm, Chg.refl _ _⟩
          case round =>
            obtain ⟨i, P, hi, rfl, rfl, hP, hch⟩ := hrel
            have HP := Lib.hid hP
            have HW := Lib.hid hch
            clear hP hch
            have HXr := Lib.hid (HX6.out.quiet HW.out)
            have HYr := Lib.hid (HO6.out.quiet HW.out)
            by_cases hli : i < tl.length
            · have hli' : (i : Int) < (tl.length : Int) := by omega
              obtain ⟨⟨t, n⟩, hx⟩ : ∃ d, tl[i]? = some d := ⟨tl[i], List.getElem?_eq_getElem hli⟩
              obtain ⟨g, cap, hv, _, _, hg⟩ := HXr.out.form (by omega)
              injection hv with hv1 _ hv2
              subst hv1; subst hv2
              obtain ⟨d0, d1⟩ := Own.due HXr.out rfl hx
              have hd := Lib.hid (drop_one hx)
              clear hx
              by_cases ht1 : t = 1
              · subst ht1
                have hPn : tl1.map (·.n) = P ++ n :: noms (tl.drop (i + 1)) := by rw [HP.out, hd.out, noms_cons]; simp
                have hlen : P.length < tl1.length := by
                  have := congrArg List.length hPn
                  simp at this; omega
                have hlen' : (P.length : Int) < (tl1.length : Int) := by omega
                have hat : tl1[P.length]? = some ⟨0, n⟩ := by
                  obtain ⟨⟨t', n'⟩, hy⟩ : ∃ d, tl1[P.length]? = some d := ⟨tl1[P.length], List.getElem?_eq_getElem hlen⟩
                  have h1 : (tl1.map (·.n))[P.length]? = some n := by rw [hPn]; simp
                  rw [List.getElem?_map, hy] at h1
                  simp at h1
                  have h2 := HZ.out ⟨t', n'⟩ (List.mem_of_getElem? hy)
                  simp only at h2
                  rw [hy, ← h1, h2]
                have HPn := Lib.hid hPn
                clear hPn
                obtain ⟨g2, cap2, hv, _, _, hg2⟩ := HYr.out.form (by omega)
                injection hv with hv1 _ hv2
                subst hv1; subst hv2
                obtain ⟨e0, e1⟩ := Own.due HYr.out rfl hat
                clear hat
                go_wp2_with fail
                go_quiet (fail)
                go_wp2_with fail
                go_roundw
                case rel => exact ⟨i + 1, P ++ [n], by omega, by go_num, by simp, by rw [HPn.out]; simp, HW.out.drewN _⟩
                case measure => simp [intOf]; omega
              · have ht2 : (t == 1) = false := beq_eq_false_iff_ne.2 ht1
                go_wp2_with fail
                go_roundw
                case rel => exact ⟨i + 1, P, by omega, by go_num, rfl, by rw [HP.out, hd.out, noms_cons]; simp [ht1], HW.out⟩
                case measure => simp [intOf]; omega
            · have hli' : ¬ (i : Int) < (tl.length : Int) := by omega
              have hPl : P.length = tl1.length := by
                have := congrArg List.length HP.out
                rw [List.drop_of_length_le (by omega)] at this
                simp [noms] at this
                omega
              have HPl := Lib.hid hPl
              rw [hPl]
              clear hPl
              go_wp2_with fail
              go_roundw
              case rel => exact ⟨s + 1, Ln, Ln1, by omega, by omega, by go_num, by have := HT6.out.quiet HW.out; rwa [show ((s : Int) + 1) = ((s + 1 : Nat) : Int) by omega] at this, by have := HU6.out.quiet HW.out; rwa [show ((s : Int) + 1) = ((s + 1 : Nat) : Int) by omega] at this, by have := HTW.out; rwa [show ((s : Int) + 1) = ((s + 1 : Nat) : Int) by omega] at this, by omega, by omega, HC6.out.comp HW.out (fun _ _ f => f)⟩
              case measure => simp [intOf]; omega
      · have hlt2' : ¬ (s : Int) < 200 := by omega
        go_wp2_with (go_at_call 10; refine (known_calls _).mono ?_)
        rintro e w3 ⟨rfl, hc3⟩
        go_wp2_with fail
        go_ret
        exact ⟨rfl, HC.out.comp hc3 (fun _ _ f => f)⟩
    · have hlt' : ¬ (s : Int) < (js.length : Int) := by omega
      go_wp2_with (go_at_call 10; refine (known_calls _).mono ?_)
      rintro e w3 ⟨rfl, hc3⟩
      go_wp2_with fail
      go_ret
      exact ⟨rfl, HC.out.comp hc3 (fun _ _ f => f)⟩


set_option maxRecDepth 100000 in
set_option maxHeartbeats 4000000 in
theorem alone_bad (w : World) (x y : Int) (v : Value) (hg : ¬ Good [x, y]) :
    Calls Try.prog 5 #[.int .i64 x, .int .i64 y, v] w (OnlyBool true w) := by
  have HE := Lib.hid (err_two w x y hg)
  clear hg
  by_cases hg2 : Good [y]
  · have HG2 := Lib.hid hg2
    clear hg2
    go_enter Try.func5, Try.ntmps5
    go_wp2_with (go_at_call 11; refine HE.out.mono ?_)
    rintro e w1 ⟨rfl, hc1⟩
    go_wp2_with (go_at_call 11; refine (new_one w1 y HG2.out).mono ?_)
    rintro e w2 ⟨p2, va2, b2, rfl, ht2, hc2, hp2, hb2, hv2⟩
    have HC2 := Lib.hid (hc1.comp hc2 (fun _ _ f => f))
    clear ht2 hc2 hp2 hb2 hv2
    go_wp2_with (go_at_call 10; refine (known_calls _).mono ?_)
    rintro e w3 ⟨rfl, hc3⟩
    go_wp2_with fail
    go_ret
    exact ⟨rfl, HC2.out.comp hc3 (fun _ _ f => f)⟩
  · have HG2 := Lib.hid hg2
    clear hg2
    go_enter Try.func5, Try.ntmps5
    go_wp2_with (go_at_call 11; refine HE.out.mono ?_)
    rintro e w1 ⟨rfl, hc1⟩
    go_wp2_with (go_at_call 11; refine (err_one w1 y HG2.out).mono ?_)
    rintro e w2 ⟨rfl, hc2⟩
    have HC2 := Lib.hid (hc1.comp hc2 (fun _ _ f => f))
    go_wp2_with (go_at_call 10; refine (known_calls _).mono ?_)
    rintro e w3 ⟨rfl, hc3⟩
    go_wp2_with fail
    go_ret
    exact ⟨rfl, HC2.out.comp hc3 (fun _ _ f => f)⟩

theorem alone_calls (w : World) (x y : Int) (Aj : Option Addr) (cj : Nat) (js : List Int) (hj : BytesAt w Aj js) :
    Calls Try.prog 5 #[.int .i64 x, .int .i64 y, .slice Aj js.length cj] w (OnlyBool true w) := by
  by_cases hg : Good [x, y]
  · exact alone_good w x y Aj cj js hj hg
  · exact alone_bad w x y _ hg
end Go.Proofs.Ytnhnmjdmenehoaa

import Derived.Test.YtnhnmjdmenehoaaLatep
namespace Go.Proofs.Ytnhnmjdmenehoaa
open Go.RowKit

/-! ### Many ticks -/
def toldAll (ps : List Int) : Int → List (D × Int) → List (List Int) → List D
  | _, _, [] => []
  | now, L, k :: r => told ps now L k ++ toldAll ps (now + 1) (left ps now L k) r
theorem told_left_length {ps : List Int} {now : Int} {L : List (D × Int)} (h : Neat ps now L) (k : List Int) : (told ps now L k).length + (left ps now L k).length ≤ L.length + ps.length := by
  have h1 := h.lay_length k
  have h2 : ∀ l : List (D × Int), (l.filter (fun x => decide (x.2 ≤ now))).length + (l.filter (fun x => !decide (x.2 ≤ now))).length = l.length := by
    intro l
    induction l with
    | nil => rfl
    | cons x l ih => by_cases hx : x.2 ≤ now <;> simp [hx] at ih ⊢ <;> omega
  have h3 := h2 (lay ps now L k)
  unfold told left
  rw [List.length_map]
  omega

/-- Rows of picks that can be read. -/
def PickRows (w : World) (A : Option Addr) (pk : List (List Int)) : Prop :=
  pk.length ≤ maxLen ∧ (pk = [] ∨ ∃ b off, A = some ⟨b, off, none⟩ ∧ ∀ k l, pk[k]? = some l → ∃ v, w.cell? ⟨b, off + k, none⟩ = some v ∧ PickAt w v l)
theorem PickRows.quiet {w w' : World} {A : Option Addr} {pk : List (List Int)} (h : PickRows w A pk) (hc : Chg (fun _ => False) w w') : PickRows w' A pk := by
  refine ⟨h.1, h.2.imp id ?_⟩
  rintro ⟨b, off, rfl, hh⟩
  refine ⟨b, off, rfl, fun k l hx => ?_⟩
  obtain ⟨v, hv, hp⟩ := hh k l hx
  exact ⟨v, keep_cell hc hv, hp.quiet hc⟩
theorem PickRows.at_ {w : World} {A : Option Addr} {pk : List (List Int)} (h : PickRows w A pk) {k : Nat} {l : List Int} (hx : pk[k]? = some l) : ∃ b off v, A = some ⟨b, off, none⟩ ∧ w.cell? ⟨b, off + k, none⟩ = some v ∧ PickAt w v l := by
  rcases h.2 with h | ⟨b, off, rfl, hh⟩
  · rw [h] at hx; simp at hx
  · obtain ⟨v, h1, h2⟩ := hh k l hx
    exact ⟨b, off, v, rfl, h1, h2⟩

section
variable {w w' : World} {p b : Nat} {va : Value} {ps : List Int} {now : Int} {L : List (D × Int)}
theorem Tim.grown (h : Tim w p b va ps now L) {n : Nat} {v : Value} {xs : List Value} (ho : Own w 48 2 v n xs) (hc : Chg (fun k => v.ownBlock = some k) w w') : Tim w' p b va ps now L :=
  ⟨h.at_.keep hc (fun e => ho.ne_blk h.at_.heap (by decide) p e rfl) (fun e => h.at_.map.ne_own ho e) (fun k hk e => h.at_.per.ne ho (by decide) k hk e), h.good, h.neat, h.low⟩
end

/-- What holds at the head of each round of the two last loops. -/
def CopRel (w : World) (pk : List (List Int)) (ps : List Int) (T : List D) (p b : Nat) (va : Value) (p' b' : Nat) (va' : Value) (now' : Int) (L' : List (D × Int)) (vs : Value) (xs : List D) (av iv : Value) (wr : World) : Prop :=
  ∃ (i : Nat) (A : Option Addr) (c : Nat) (acc : List D) (Li : List (D × Int)), i ≤ pk.length ∧ iv = .int .i64 i ∧ av = .slice A acc.length c ∧ Own wr 48 2 (.slice A acc.length c) acc.length (dcs acc) ∧
    (∀ k, (Value.slice A acc.length c).ownBlock = some k → w.heap.size ≤ k ∧ ¬ vs.ownBlock = some k) ∧ Tim wr p b va ps i Li ∧ Tim wr p' b' va' ps now' L' ∧ Own wr 48 2 vs xs.length (dcs xs) ∧
    acc ++ toldAll ps i Li (pk.drop i) = T ∧ acc.length + Li.length ≤ 8 * i ∧ Chg (fun _ => False) w wr
def CopRel1 (w : World) (n : Nat) (ps : List Int) (p b : Nat) (va : Value) (iv : Value) (wr : World) : Prop :=
  ∃ (i : Nat) (Li : List (D × Int)), i ≤ n ∧ iv = .int .i64 i ∧ Tim wr p b va ps i Li ∧ Li.length ≤ 8 * i ∧ Chg (fun _ => False) w wr

theorem ne_new {w w1 : World} {p b p2 b2 : Nat} {va : Value} {ps : List Int} {now : Int} {L : List (D × Int)} (h : Tim w1 p b va ps now L) (hc : Chg (fun _ => False) w1 w) (hp : w.heap.size ≤ p2) (hb : w.heap.size ≤ b2) : p ≠ p2 ∧ b ≠ b2 := by
  have h1 := (Array.getElem?_eq_some_iff.1 h.at_.heap).1
  have h2 := h.at_.map.lt
  have h3 := hc.size
  omega
theorem Own.news {w : World} {e : TypeId} {size n c : Nat} {A : Option Addr} {xs : List Value} (h : Own w e size (.slice A n c) n xs) :
    0 < n → ∃ ad, A = some ad ∧ ∀ j u, xs[j]? = some u → w.cell? (ad.add j) = some u := by
  intro hn
  obtain ⟨g, cap, hv, _⟩ := h.form hn
  injection hv with h1 _ h3
  subst h1; subst h3
  refine ⟨_, rfl, fun j u hu => ?_⟩
  have hj : j < n * size := by have := (List.getElem?_eq_some_iff.1 hu).1; rw [h.1] at this; exact this
  have hadd : (⟨g, 0, none⟩ : Addr).add j = ⟨g, j, none⟩ := by unfold Addr.add; split <;> simp_all
  rw [hadd, h.cell j hj, hu]
theorem same_eq (w : World) (A B : Option Addr) (c d : Nat) (xs : List D) (h : Own w 58 2 (.slice A xs.length c) xs.length (dcs xs)) (h' : Own w 58 2 (.slice B xs.length d) xs.length (dcs xs)) (hl : xs.length ≤ 10000) :
    Calls Try.prog 16 #[.slice A xs.length c, .slice B xs.length d] w (OnlyBool true w) := by
  simpa using same_calls w A B c d xs xs h h' hl hl
/-- A tick, of which the answers are named. -/
def TickAs (W : World) (p b : Nat) (va : Value) (ps : List Int) (now : Int) (tl : List D) (L' : List (D × Int)) (e : Ending) (w' : World) : Prop :=
  ∃ A c, e = .returned (.slice A tl.length c) ∧ Own w' 48 2 (.slice A tl.length c) tl.length (dcs tl) ∧ (∀ i, (Value.slice A tl.length c).ownBlock = some i → W.heap.size ≤ i) ∧ Tim w' p b va ps (now + 1) L' ∧ Chg (fun i => i = p ∨ i = b) W w'
theorem Tim.tickAs {w : World} {p b : Nat} {va : Value} {ps : List Int} {now : Int} {L : List (D × Int)} (h : Tim w p b va ps now L) (picks : List Int) (sv : Value) (hk : PickAt w sv picks) (hn : now ≤ 1000000) (hl : L.length ≤ 4000) {tl : List D} {L' : List (D × Int)} (h1 : told ps now L picks = tl) (h2 : left ps now L picks = L') :
    Calls Try.prog 14 #[.pointer (some ⟨p, 0, none⟩), sv] w (TickAs w p b va ps now tl L') := by
  have h3 := h.tick picks sv hk hn hl
  unfold TimPost at h3
  rw [h1, h2] at h3
  exact h3
theorem Tim.waitAs {w : World} {p b : Nat} {va : Value} {ps : List Int} {now : Int} {L : List (D × Int)} (h : Tim w p b va ps now L) (hl : L.length ≤ 4000) {xs : List D} (h1 : L.map Prod.fst = xs) : Calls Try.prog 18 #[.pointer (some ⟨p, 0, none⟩)] w (NewDues 48 w xs) := by
  rw [← h1]
  exact h.waiting hl
theorem cop_step {w wr w3 w4 : World} {pk : List (List Int)} {ps : List Int} {T : List D} {p b : Nat} {va : Value} {p' b' : Nat} {va' : Value} {now' : Int} {L' : List (D × Int)} {vs : Value} {xs : List D} {i : Nat} {A : Option Addr} {c : Nat} {acc : List D} {Li : List (D × Int)} {l : List Int} {tl : List D} {Ln : List (D × Int)} {A' : Option Addr} {c' : Nat} {iv : Value}
    (hi : i < pk.length) (hl : pk[i]? = some l) (ho : Own wr 48 2 (.slice A acc.length c) acc.length (dcs acc)) (hfr : ∀ k, (Value.slice A acc.length c).ownBlock = some k → w.heap.size ≤ k ∧ ¬ vs.ownBlock = some k) (ht : Tim wr p b va ps i Li) (ht' : Tim wr p' b' va' ps now' L') (hvs : Own wr 48 2 vs xs.length (dcs xs))
    (hT : acc ++ toldAll ps i Li (pk.drop i) = T) (hb : acc.length + Li.length ≤ 8 * i) (hch : Chg (fun _ => False) w wr) (hne : p' ≠ p ∧ b' ≠ b) (hP : w.heap.size ≤ p ∧ w.heap.size ≤ b) (h8 : ps.length ≤ 8)
    (h1 : told ps i Li l = tl) (h2 : left ps i Li l = Ln) (ht3 : Tim w3 p b va ps ((i : Int) + 1) Ln) (hc3 : Chg (fun k => k = p ∨ k = b) wr w3)
    (ho4 : Own w4 48 2 (.slice A' (acc.length + tl.length) c') (acc.length + tl.length) (dcs acc ++ dcs tl)) (hc4 : Chg (fun k => (Value.slice A acc.length c).ownBlock = some k) w3 w4) (hbl : (Value.slice A' (acc.length + tl.length) c').ownBlock = (Value.slice A acc.length c).ownBlock ∨ (Value.slice A' (acc.length + tl.length) c').ownBlock = some w3.heap.size)
    (hiv : iv = .int .i64 ((i + 1 : Nat) : Int)) : CopRel w pk ps T p b va p' b' va' now' L' vs xs (.slice A' (acc.length + tl.length) c') iv w4 := by
  have hbd := told_left_length ht.neat l
  rw [h1, h2] at hbd
  have ho3 := ht.beside ho (by decide) hc3
  have hvs3 := ht.beside hvs (by decide) hc3
  have hch3 := own_new hch hP hc3
  rw [← List.length_append] at ho4 hbl ⊢
  refine ⟨i + 1, A', c', acc ++ tl, Ln, by omega, hiv, rfl, by rw [dcs_append]; exact ho4, fun k hk => ?_, ?_, ?_, ?_, ?_, ?_, ?_⟩
  · rcases hbl with e | e
    · exact hfr k (e ▸ hk)
    · rw [e] at hk
      injection hk with hk
      have := hch3.size
      exact ⟨by omega, fun e2 => by have := hvs3.lt k e2; omega⟩
  · have := ht3.grown ho3 hc4
    rwa [show ((i : Int) + 1) = ((i + 1 : Nat) : Int) by omega] at this
  · exact (ht'.apart ht hne.1 hne.2 hc3).grown ho3 hc4
  · exact hvs3.keep hc4 (fun k hk e => (hfr k e).2 hk)
  · rw [← hT, drop_one hl]
    simp only [toldAll, h1, h2, List.append_assoc]
    rw [show ((i : Int) + 1) = ((i + 1 : Nat) : Int) by omega]
  · rw [List.length_append]; omega
  · exact hch3.comp hc4 (fun k hk e => by have := (hfr k e).1; omega)

set_option maxRecDepth 100000 in
set_option maxHeartbeats 4000000 in
theorem copies_good (w : World) (A : Option Addr) (c : Nat) (ps : List Int) (Ap : Option Addr) (c2 : Nat) (pk : List (List Int)) (hr : Reads w A ps) (hp : PickRows w Ap pk) (hg : Good ps) (h1 : pk.length ≤ 100) :
    Calls Try.prog 8 #[.slice A ps.length c, .slice Ap pk.length c2] w (OnlyBool true w) := by
  have HR := Lib.hid hr
  have HP := Lib.hid hp
  have HG := Lib.hid hg
  obtain ⟨g1, g8, _⟩ := hg
  clear hr hp
  have hgt : ¬ (100 : Int) < (pk.length : Int) := by omega
  have hq1 : (pk.length : Int).tdiv 2 = ((pk.length / 2 : Nat) : Int) := by rw [Int.tdiv_eq_ediv_of_nonneg (by omega)]; omega
  have hq2 : (pk.length : Int) / 2 = ((pk.length / 2 : Nat) : Int) := by omega
  obtain ⟨h, hh⟩ : ∃ h, pk.length / 2 = h := ⟨_, rfl⟩
  rw [hh] at hq1 hq2
  have hhl : h ≤ pk.length := by omega
  clear hh
  go_enter Try.func8, Try.ntmps8
  go_wp2_with (go_at_call 11; refine (new_calls w A c ps HR.out HG.out).mono ?_)
  rintro e w1 ⟨p, va, b, rfl, ht1, hc1, hp1, hb1, hv1⟩
  have H1 := Lib.hid (Tim.new ht1 HG.out)
  have C1 := Lib.hid hc1
  have P1 := Lib.hid (show w.heap.size ≤ p ∧ w.heap.size ≤ b from ⟨hp1, hb1⟩)
  clear ht1 hc1 hv1 hp1 hb1
  go_wp2_with fail
  go_loopw [7] (CopRel1 w h ps p b va) (fun iv _ => h - (intOf iv).toNat)
  case atStart => exact ⟨0, [], by omega, rfl, H1.out, by simp, C1.out⟩
  case round =>
    obtain ⟨i, Li, hi, rfl, ht, hLi, hch⟩ := hrel
    have HT := Lib.hid ht
    have HC := Lib.hid hch
    clear ht hch H1 C1
    by_cases hlt : i < h
    · have hlt' : (i : Int) < (h : Int) := by omega
      obtain ⟨l, hl⟩ : ∃ l, pk[i]? = some l := ⟨pk[i], List.getElem?_eq_getElem (by omega)⟩
      obtain ⟨b2, off2, v, rfl, hv, hpl⟩ := (HP.out.quiet HC.out).at_ hl
      obtain ⟨Al, cl, rfl, hpl'⟩ := hpl
      have HPl := Lib.hid (show PickAt wr (.slice Al l.length cl) l from ⟨Al, cl, rfl, hpl'⟩)
      clear hpl' hl
      have hil : (i : Int) < (pk.length : Int) := by omega
      go_wp2_with (go_at_call 14; refine (HT.out.tick l _ HPl.out (by omega) (by omega)).mono ?_)
      rintro e w3 ⟨A3, c3, rfl, _, _, ht3, hc3⟩
      have HT3 := Lib.hid ht3
      have HC3 := Lib.hid (own_new HC.out P1.out hc3)
      have hL3 := HT.out.neat.left_length l
      clear ht3 hc3
      go_wp2_with fail
      go_roundw
      case rel => exact ⟨i + 1, left ps i Li l, by omega, by go_num, by have := HT3.out; rwa [show ((i : Int) + 1) = ((i + 1 : Nat) : Int) by omega] at this, by omega, HC3.out⟩
      case measure => simp [intOf]; omega
    · have hlt' : ¬ (i : Int) < (h : Int) := by omega
      obtain rfl : i = h := by omega
      obtain ⟨xs, hxs⟩ : ∃ xs, Li.map Prod.fst = xs := ⟨_, rfl⟩
      have HXS := Lib.hid hxs
      have HXL := Lib.hid (show xs.length ≤ 800 by rw [← hxs]; simp; omega)
      clear hxs
      go_wp2_with (go_at_call 13; refine (copy_calls _ p b va ps i Li HT.out.at_).mono ?_)
      rintro e w2 ⟨q, d, rfl, htc, hc2, hq, hd⟩
      have hne := ne_new HT.out (Chg.refl _ _) hq hd
      have HNE := Lib.hid hne
      have PQ := Lib.hid (show w.heap.size ≤ q ∧ w.heap.size ≤ d from ⟨Nat.le_trans HC.out.size hq, Nat.le_trans HC.out.size hd⟩)
      have HTq := Lib.hid (show Tim w2 q d va ps i Li from ⟨htc, HG.out, HT.out.neat, HT.out.low⟩)
      have HTp := Lib.hid (HT.out.quiet hc2)
      have HC2 := Lib.hid (HC.out.comp hc2 (fun _ _ f => f))
      clear htc hc2 hq hd hne HT HC
      go_wp2_with (go_at_call 18; refine (HTp.out.waitAs (by omega) HXS.out).mono ?_)
      rintro e w3 ⟨Aw, cw, rfl, how, hc3, hfw⟩
      have HOw := Lib.hid how
      have HTq3 := Lib.hid (HTq.out.quiet hc3)
      have HTp3 := Lib.hid (HTp.out.quiet hc3)
      have HC3 := Lib.hid (HC2.out.comp hc3 (fun _ _ f => f))
      clear how hc3 hfw HTq HTp HC2
      go_wp2_with (go_at_call 20; refine (now_at _ p b va _ _ _ HTp3.out.at_).mono ?_)
      rintro e w4 ⟨rfl, rfl⟩
      go_wp2_with fail
      obtain ⟨h, hhi⟩ : ∃ h, h = i := ⟨_, rfl⟩
      subst hhi
      obtain ⟨T, hT⟩ : ∃ T, toldAll ps h Li (pk.drop h) = T := ⟨_, rfl⟩
      have HTT := Lib.hid hT
      clear hT
      go_loopw [11, 12] (CopRel w pk ps T q d va p b va h Li (.slice Aw xs.length cw) xs) (fun _ iv _ => pk.length - (intOf iv).toNat)
      case atStart => exact ⟨h, none, 0, [], Li, by omega, rfl, rfl, Own.nil _ _ _, by simp [Value.ownBlock], HTq3.out, HTp3.out, HOw.out, by simpa using HTT.out, by simpa using hLi, HC3.out⟩
      case round =>
        obtain ⟨i, A2, ca, acc, Lj, hi, rfl, rfl, ho, hfr, ht, ht', hvs, hT, hb, hch⟩ := hrel
        have HO := Lib.hid ho
        have HF := Lib.hid hfr
        have HT1 := Lib.hid ht
        have HT2 := Lib.hid ht'
        have HV := Lib.hid hvs
        have HQ := Lib.hid hT
        have HD := Lib.hid hch
        clear ho hfr ht ht' hvs hT hch
        by_cases hlt : i < pk.length
        · have hlt' : (i : Int) < (pk.length : Int) := by omega
          obtain ⟨l, hl⟩ : ∃ l, pk[i]? = some l := ⟨pk[i], List.getElem?_eq_getElem hlt⟩
          have HLl := Lib.hid hl
          obtain ⟨b2, off2, v, rfl, hv, hpl⟩ := (HP.out.quiet HD.out).at_ hl
          obtain ⟨Al, cl, rfl, hpl'⟩ := hpl
          have HPl := Lib.hid (show PickAt wr (.slice Al l.length cl) l from ⟨Al, cl, rfl, hpl'⟩)
          clear hpl' hl
          obtain ⟨tl, htl⟩ : ∃ tl, told ps i Lj l = tl := ⟨_, rfl⟩
          obtain ⟨Ln, hLn⟩ : ∃ Ln, left ps i Lj l = Ln := ⟨_, rfl⟩
          have HTL := Lib.hid htl
          have HLN := Lib.hid hLn
          have hbd := told_left_length HT1.out.neat l
          rw [htl, hLn] at hbd
          clear htl hLn
          go_wp2_with (go_at_call 14; refine (HT1.out.tickAs l _ HPl.out (by omega) (by omega) HTL.out HLN.out).mono ?_)
          rintro e w3 ⟨A3, c3, rfl, ho3, _, ht3, hc3⟩
          have HO3 := Lib.hid ho3
          have HT3 := Lib.hid ht3
          have HC3 := Lib.hid hc3
          have HA3 := Lib.hid (HT1.out.beside HO.out (by decide) hc3)
          clear ho3 ht3 hc3
          go_wp2_with (at_builtin; refine wpList_append_Own rfl (.tmp 62) (.tmp 68) 33 rfl 48 _ 2 16 Try.underlying33 Try.info48 rfl (by decide) (.slice A2 acc.length ca) acc.length (dcs acc) rfl HA3.out A3 tl.length c3 (dcs tl) rfl (dcs_length tl) HO3.out.news (dcs_one' tl) (by omega) (by omega) ?_; intro v' w4 ho hchg hbl hf; obtain ⟨A4, c4, hv'⟩ := ho.slice; subst hv'; have HO4 := Lib.hid ho; have HC4 := Lib.hid hchg; have HB4 := Lib.hid hbl; clear ho hchg hbl hf)
          go_roundw
          case rel => exact cop_step hlt HLl.out HO.out HF.out HT1.out HT2.out HV.out HQ.out hb HD.out HNE.out PQ.out g8 HTL.out HLN.out HT3.out HC3.out HO4.out HC4.out HB4.out (by go_num)
          case measure => simp [intOf]; omega
        · have hlt' : ¬ (i : Int) < (pk.length : Int) := by omega
          obtain rfl : i = pk.length := by omega
          have hacc : acc = T := by have := HQ.out; rwa [List.drop_length, toldAll, List.append_nil] at this
          subst hacc
          clear HQ HTq3 HTp3 HOw HC3
          go_wp2_with (go_at_call 18; refine (HT2.out.waitAs (by omega) HXS.out).mono ?_)
          rintro e w5 ⟨A5, c5, rfl, ho5, hc5, _⟩
          have HO5 := Lib.hid ho5
          have HV5 := Lib.hid (HV.out.quiet hc5)
          have HO15 := Lib.hid (HO.out.quiet hc5)
          have HT15 := Lib.hid (HT1.out.quiet hc5)
          have HT25 := Lib.hid (HT2.out.quiet hc5)
          have HD5 := Lib.hid (HD.out.comp hc5 (fun _ _ f => f))
          clear ho5 hc5 HO HF HV HT1 HT2 HD
          go_wp2_with (go_at_call 17; refine (plain_calls _ A5 c5 xs HO5.out (by have := HXL.out; omega)).mono ?_)
          rintro e w6 ⟨A6, c6, rfl, ho6, hc6, _⟩
          have HO6 := Lib.hid ho6
          have HV6 := Lib.hid (HV5.out.quiet hc6)
          have HO16 := Lib.hid (HO15.out.quiet hc6)
          have HT16 := Lib.hid (HT15.out.quiet hc6)
          have HT26 := Lib.hid (HT25.out.quiet hc6)
          have HD6 := Lib.hid (HD5.out.comp hc6 (fun _ _ f => f))
          clear ho6 hc6 HV5 HO15 HT15 HT25 HD5
          go_wp2_with (go_at_call 17; refine (plain_calls _ Aw cw xs HV6.out (by have := HXL.out; omega)).mono ?_)
          rintro e w7 ⟨A7, c7, rfl, ho7, hc7, _⟩
          have HO7 := Lib.hid ho7
          have HO67 := Lib.hid (HO6.out.quiet hc7)
          have HO17 := Lib.hid (HO16.out.quiet hc7)
          have HT17 := Lib.hid (HT16.out.quiet hc7)
          have HT27 := Lib.hid (HT26.out.quiet hc7)
          have HD7 := Lib.hid (HD6.out.comp hc7 (fun _ _ f => f))
          clear ho7 hc7 HO16 HT16 HT26 HD6
          go_wp2_with (go_at_call 16; refine (same_eq _ A6 A7 c6 c7 xs HO67.out HO7.out (by have := HXL.out; omega)).mono ?_)
          rintro e w8 ⟨rfl, hc8⟩
          have HO18 := Lib.hid (HO17.out.quiet hc8)
          have HT18 := Lib.hid (HT17.out.quiet hc8)
          have HT28 := Lib.hid (HT27.out.quiet hc8)
          have HD8 := Lib.hid (HD7.out.comp hc8 (fun _ _ f => f))
          clear hc8 HO17 HT17 HT27 HD7
          go_wp2_with (go_at_call 20; refine (now_at _ p b va _ _ _ HT28.out.at_).mono ?_)
          rintro e w9 ⟨rfl, rfl⟩
          go_wp2_with fail
          have HOL := Lib.hid (show acc.length ≤ 800 by omega)
          go_loopw [13, 14] (CopRel w pk ps acc p b va q d va pk.length Lj (.slice A2 acc.length ca) acc) (fun _ iv _ => pk.length - (intOf iv).toNat)
          case atStart => exact ⟨h, none, 0, [], Li, by omega, rfl, rfl, Own.nil _ _ _, by simp [Value.ownBlock], HT28.out, HT18.out, HO18.out, by simpa using HTT.out, by simpa using hLi, HD8.out⟩
          case round =>
            obtain ⟨i, A23, ca3, acc3, Lj3, hi, rfl, rfl, ho, hfr, ht, ht', hvs, hT, hb, hch⟩ := hrel
            have HO := Lib.hid ho
            have HF := Lib.hid hfr
            have HT1 := Lib.hid ht
            have HT2 := Lib.hid ht'
            have HV := Lib.hid hvs
            have HQ := Lib.hid hT
            have HD := Lib.hid hch
            clear ho hfr ht ht' hvs hT hch
            by_cases hlt : i < pk.length
            · have hlt' : (i : Int) < (pk.length : Int) := by omega
              obtain ⟨l, hl⟩ : ∃ l, pk[i]? = some l := ⟨pk[i], List.getElem?_eq_getElem hlt⟩
              have HLl := Lib.hid hl
              obtain ⟨b2, off2, v, rfl, hv, hpl⟩ := (HP.out.quiet HD.out).at_ hl
              obtain ⟨Al, cl, rfl, hpl'⟩ := hpl
              have HPl := Lib.hid (show PickAt wr (.slice Al l.length cl) l from ⟨Al, cl, rfl, hpl'⟩)
              clear hpl' hl
              obtain ⟨tl, htl⟩ : ∃ tl, told ps i Lj3 l = tl := ⟨_, rfl⟩
              obtain ⟨Ln, hLn⟩ : ∃ Ln, left ps i Lj3 l = Ln := ⟨_, rfl⟩
              have HTL := Lib.hid htl
              have HLN := Lib.hid hLn
              have hbd := told_left_length HT1.out.neat l
              rw [htl, hLn] at hbd
              clear htl hLn
              go_wp2_with (go_at_call 14; refine (HT1.out.tickAs l _ HPl.out (by omega) (by omega) HTL.out HLN.out).mono ?_)
              rintro e w3 ⟨A3, c3, rfl, ho3, _, ht3, hc3⟩
              have HO3 := Lib.hid ho3
              have HT3 := Lib.hid ht3
              have HC3 := Lib.hid hc3
              have HA3 := Lib.hid (HT1.out.beside HO.out (by decide) hc3)
              clear ho3 ht3 hc3
              go_wp2_with (at_builtin; refine wpList_append_Own rfl (.tmp 92) (.tmp 98) 33 rfl 48 _ 2 16 Try.underlying33 Try.info48 rfl (by decide) (.slice A23 acc3.length ca3) acc3.length (dcs acc3) rfl HA3.out A3 tl.length c3 (dcs tl) rfl (dcs_length tl) HO3.out.news (dcs_one' tl) (by omega) (by omega) ?_; intro v' w4 ho hchg hbl hf; obtain ⟨A4, c4, hv'⟩ := ho.slice; subst hv'; have HO4 := Lib.hid ho; have HC4 := Lib.hid hchg; have HB4 := Lib.hid hbl; clear ho hchg hbl hf)
              go_roundw
              case rel => exact cop_step hlt HLl.out HO.out HF.out HT1.out HT2.out HV.out HQ.out hb HD.out ⟨HNE.out.1.symm, HNE.out.2.symm⟩ P1.out g8 HTL.out HLN.out HT3.out HC3.out HO4.out HC4.out HB4.out (by go_num)
              case measure => simp [intOf]; omega
            · have hlt' : ¬ (i : Int) < (pk.length : Int) := by omega
              obtain rfl : i = pk.length := by omega
              have hacc : acc3 = acc := by have := HQ.out; rwa [List.drop_length, toldAll, List.append_nil] at this
              subst hacc
              clear HQ HT18 HT28 HO18 HD8
              go_wp2_with (go_at_call 17; refine (plain_calls _ A2 ca acc3 HV.out (by have := HOL.out; omega)).mono ?_)
              rintro e w9 ⟨A9, c9, rfl, ho9, hc9, _⟩
              have HO9 := Lib.hid ho9
              have HP9 := Lib.hid (HO.out.quiet hc9)
              have HT19 := Lib.hid (HT1.out.quiet hc9)
              have HT29 := Lib.hid (HT2.out.quiet hc9)
              have HD9 := Lib.hid (HD.out.comp hc9 (fun _ _ f => f))
              clear ho9 hc9 HO HV HT1 HT2 HD
              go_wp2_with (go_at_call 17; refine (plain_calls _ A23 ca3 acc3 HP9.out (by have := HOL.out; omega)).mono ?_)
              rintro e w10 ⟨A10, c10, rfl, ho10, hc10, _⟩
              have HO10 := Lib.hid ho10
              have HO910 := Lib.hid (HO9.out.quiet hc10)
              have HT110 := Lib.hid (HT19.out.quiet hc10)
              have HT210 := Lib.hid (HT29.out.quiet hc10)
              have HD10 := Lib.hid (HD9.out.comp hc10 (fun _ _ f => f))
              clear ho10 hc10 HO9 HP9 HT19 HT29 HD9
              go_wp2_with (go_at_call 16; refine (same_eq _ A9 A10 c9 c10 acc3 HO910.out HO10.out (by have := HOL.out; omega)).mono ?_)
              rintro e w11 ⟨rfl, hc11⟩
              have HT111 := Lib.hid (HT110.out.quiet hc11)
              have HT211 := Lib.hid (HT210.out.quiet hc11)
              have HD11 := Lib.hid (HD10.out.comp hc11 (fun _ _ f => f))
              clear hc11 HT110 HT210 HD10
              go_wp2_with (go_at_call 20; refine (now_at _ p b va _ _ _ HT111.out.at_).mono ?_)
              rintro e w12 ⟨rfl, rfl⟩
              go_wp2_with (go_at_call 20; refine (now_at _ q d va _ _ _ HT211.out.at_).mono ?_)
              rintro e w12 ⟨rfl, rfl⟩
              go_wp2_with (go_at_call 10; refine (known_calls _).mono ?_)
              rintro e w13 ⟨rfl, hc13⟩
              go_wp2_with fail
              go_ret
              exact ⟨rfl, HD11.out.comp hc13 (fun _ _ f => f)⟩

set_option maxRecDepth 100000 in
set_option maxHeartbeats 4000000 in
theorem copies_bad (w : World) (A : Option Addr) (c : Nat) (ps : List Int) (v : Value) (hr : Reads w A ps) (hg : ¬ Good ps) :
    Calls Try.prog 8 #[.slice A ps.length c, v] w (OnlyBool true w) := by
  have HE := Lib.hid (new_err w A c ps hr hg)
  clear hr hg
  go_enter Try.func8, Try.ntmps8
  go_wp2_with (go_at_call 11; refine HE.out.mono ?_)
  rintro e w1 ⟨rfl, hc1⟩
  go_wp2_with (go_at_call 10; refine (known_calls _).mono ?_)
  rintro e w3 ⟨rfl, hc3⟩
  go_wp2_with fail
  go_ret
  exact ⟨rfl, hc1.comp hc3 (fun _ _ f => f)⟩
set_option maxRecDepth 100000 in
set_option maxHeartbeats 4000000 in
theorem copies_long (w : World) (A : Option Addr) (c : Nat) (ps : List Int) (Ap : Option Addr) (n c2 : Nat) (hr : Reads w A ps) (hg : Good ps) (hn : 100 < n) (hm : n ≤ maxLen) :
    Calls Try.prog 8 #[.slice A ps.length c, .slice Ap n c2] w (OnlyBool true w) := by
  simp only [maxLen] at hm
  have HE := Lib.hid (new_calls w A c ps hr hg)
  have hgt : (100 : Int) < (n : Int) := by omega
  clear hr hg
  go_enter Try.func8, Try.ntmps8
  go_wp2_with (go_at_call 11; refine HE.out.mono ?_)
  rintro e w1 ⟨p, va, b, rfl, ht1, hc1, hp1, hb1, hv1⟩
  have HC1 := Lib.hid hc1
  clear ht1 hc1 hp1 hb1 hv1
  go_wp2_with (go_at_call 10; refine (known_calls _).mono ?_)
  rintro e w3 ⟨rfl, hc3⟩
  go_wp2_with fail
  go_ret
  exact ⟨rfl, HC1.out.comp hc3 (fun _ _ f => f)⟩
theorem copies_calls (w : World) (A : Option Addr) (c : Nat) (ps : List Int) (Ap : Option Addr) (c2 : Nat) (pk : List (List Int)) (hr : Reads w A ps) (hp : PickRows w Ap pk) :
    Calls Try.prog 8 #[.slice A ps.length c, .slice Ap pk.length c2] w (OnlyBool true w) := by
  by_cases hg : Good ps
  · by_cases hn : pk.length ≤ 100
    · exact copies_good w A c ps Ap c2 pk hr hp hg hn
    · exact copies_long w A c ps Ap _ c2 hr hg (by omega) hp.1
  · exact copies_bad w A c ps _ hr hg
end Go.Proofs.Ytnhnmjdmenehoaa

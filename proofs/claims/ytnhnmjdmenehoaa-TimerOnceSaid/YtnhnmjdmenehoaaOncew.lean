import Derived.Test.YtnhnmjdmenehoaaOnces
namespace Go.Proofs.Ytnhnmjdmenehoaa
open Go.RowKit

/-! The walk of TimerOnce. -/
theorem reads_get {w : World} {A : Option Addr} {l : List Int} {k : Nat} {x : Int} (h : Reads w A l) (hx : l[k]? = some x) : ∃ b off, A = some ⟨b, off, none⟩ ∧ w.cell? ⟨b, off + k, none⟩ = some (.int .i64 x) := by
  rcases h.2 with h | ⟨b, off, rfl, hh⟩
  · rw [h] at hx; simp at hx
  · exact ⟨b, off, rfl, hh k x hx⟩
def ORel (w : World) (B n p b : Nat) (va : Value) (ps : List Int) (tv av kv wv sv : Value) (wr : World) : Prop :=
  ∃ (s k : Nat) (Z W L : List (D × Int)) (A1 : Option Addr) (c1 : Nat) (A2 : Option Addr) (c2 : Nat) (A3 : Option Addr) (c3 : Nat), s ≤ n ∧ sv = .int .i64 s ∧ kv = .int .i64 k ∧ tv = .slice A1 Z.length c1 ∧ av = .slice A2 Z.length c2 ∧ wv = .slice A3 (W.length * 3) c3 ∧
    OSt w B p b va ps s k Z W L (.slice A1 Z.length c1) (.slice A2 Z.length c2) (.slice A3 (W.length * 3) c3) wr
def IRel (wr0 : World) (ps : List Int) (s k0 : Nat) (W : List (D × Int)) (wv0 : Value) (kv wv pv iv : Value) (wr : World) : Prop :=
  ∃ (i k m : Nat) (W' : List (D × Int)) (P : List Int) (A3 : Option Addr) (c3 : Nat) (A4 : Option Addr) (c4 : Nat), i ≤ ps.length ∧ k ≤ k0 + i ∧ iv = .int .i64 i ∧ kv = .int .i64 k ∧ wv = .slice A3 m c3 ∧ pv = .slice A4 P.length c4 ∧
    ISt wr0 ps s W wv0 i m W' P (.slice A3 m c3) (.slice A4 P.length c4) wr
def JRel (wr1 : World) (s : Nat) (tl : List D) (Z : List (D × Int)) (tv1 av1 : Value) (tv av iv : Value) (wr : World) : Prop :=
  ∃ (i nz : Nat) (A1 : Option Addr) (c1 : Nat) (A2 : Option Addr) (c2 : Nat), i ≤ tl.length ∧ iv = .int .i64 i ∧ tv = .slice A1 nz c1 ∧ av = .slice A2 nz c2 ∧ JSt wr1 s tl Z tv1 av1 i nz (.slice A1 nz c1) (.slice A2 nz c2) wr

set_option maxRecDepth 100000 in
set_option maxHeartbeats 4000000 in
theorem once_good (w : World) (A : Option Addr) (c : Nat) (ps : List Int) (Aj : Option Addr) (cj : Nat) (js : List Int) (n : Int) (hr : Reads w A ps) (hj : BytesAt w Aj js) (hg : Good ps) (hn0 : 0 ≤ n) (hn1 : n ≤ 255) :
    Calls Try.prog 4 #[.slice A ps.length c, .slice Aj js.length cj, .int .u8 n] w (OnlyBool true w) := by
  obtain ⟨n, rfl⟩ : ∃ k : Nat, n = (k : Int) := ⟨n.toNat, by omega⟩
  have HR := Lib.hid hr
  have HJ := Lib.hid hj
  have HG := Lib.hid hg
  have hml : js.length ≤ 9223372036854775807 := by have := hj.1; simp only [maxLen] at this; omega
  obtain ⟨g1, g8, _⟩ := hg
  clear hr hj
  have hgt : ¬ (8 : Int) < (ps.length : Int) := by omega
  go_enter Try.func4, Try.ntmps4
  go_wp2_with (go_at_call 11; refine (new_calls w A c ps HR.out HG.out).mono ?_)
  rintro e w1 ⟨p, va, b, rfl, ht1, hc1, hp1, hb1, hv1⟩
  have HVA := Lib.hid (fun k (hk : va.ownBlock = some k) => ht1.per.lt k hk)
  have HB := Lib.hid hc1.size
  have PP := Lib.hid (show w.heap.size ≤ p ∧ w.heap.size ≤ b from ⟨hp1, hb1⟩)
  have H1 := Lib.hid (show OSt w w1.heap.size p b va ps 0 0 [] [] [] (.slice none 0 0) (.slice none 0 0) (.slice none 0 0) w1 from
    ⟨Own.nil _ _ _, Own.nil _ _ _, Own.nil _ _ _, by simp [Value.ownBlock], by simp [Value.ownBlock], by simp [Value.ownBlock], by simp [Value.ownBlock], Tim.new ht1 HG.out, Once.nil _ _, by simp, by simp, hc1, Nat.le_refl _⟩)
  clear ht1 hc1 hv1 hp1 hb1
  go_wp2_with fail
  go_loopw [9, 10, 11, 12, 14] (ORel w w1.heap.size n p b va ps) (fun _ _ _ _ sv _ => n - (intOf sv).toNat)
  case atStart => exact ⟨0, 0, [], [], [], none, 0, none, 0, none, 0, by omega, rfl, rfl, rfl, rfl, rfl, H1.out⟩
  case round =>
    obtain ⟨s, k0, Z, W, L, A1, c1, A2, c2, A3, c3, hs, rfl, rfl, rfl, rfl, rfl, ho⟩ := hrel
    have HO := Lib.hid ho
    have hk0 := ho.kb
    have hwl := ho.wl
    have hct := ho.once.count
    clear ho H1
    by_cases hlt : s < n
    · have hlt' : (s : Int) < (n : Int) := by omega
      go_wp2_with fail
      obtain ⟨wo, rfl⟩ : ∃ wo : World, wo = wr := ⟨_, rfl⟩
      go_loopw [11, 12, 15, 16] (IRel wo ps s k0 W (.slice A3 (W.length * 3) c3)) (fun _ _ _ iv _ => ps.length - (intOf iv).toNat)
      case atStart => exact ⟨0, k0, W.length * 3, W, [], A3, c3, none, 0, by omega, by omega, rfl, rfl, rfl, rfl, ISt.start HO.out⟩
      case round =>
        obtain ⟨i, k, m, W', P, A3, c3, A4, c4, hi, hk, rfl, rfl, rfl, rfl, hst⟩ := hrel
        have HI := Lib.hid hst
        have hpl := hst.plen
        have hwl' := hst.len
        have hm := hst.hm
        have hmb : m ≤ 100000 := by omega
        have HC := Lib.hid (HO.out.mid hst HB.out HVA.out).2.2.2
        clear hst hm
        by_cases hli : i < ps.length
        · have hli' : (i : Int) < (ps.length : Int) := by omega
          obtain ⟨x, hx⟩ : ∃ x, ps[i]? = some x := ⟨ps[i], List.getElem?_eq_getElem hli⟩
          obtain ⟨bp, op, rfl, hcx⟩ := reads_get (HR.out.keep HC.out) hx
          obtain ⟨hx1, hx2⟩ := HG.out.2.2 x (List.mem_of_getElem? hx)
          have HX := Lib.hid hx
          clear hx
          have hx0 : (x == 0) = false := beq_eq_false_iff_ne.2 (by omega)
          by_cases hmod : (s : Int) % x = 0
          · have hm1 : ((s : Int).tmod x == 0) = true := by rw [Int.tmod_eq_emod_of_nonneg (by omega)]; simp [hmod]
            by_cases hkl : k < js.length
            · have hkl' : (k : Int) < (js.length : Int) := by omega
              obtain ⟨j, hjs⟩ : ∃ j, js[k]? = some j := ⟨js[k], List.getElem?_eq_getElem hkl⟩
              obtain ⟨bj, oj, rfl, hcj⟩ := (HJ.out.quiet HC.out).at_ hjs
              obtain ⟨j0, j1⟩ := HJ.out.2.1 j (List.mem_of_getElem? hjs)
              clear hjs
              go_wp2_with (first
              | (at_builtin; refine wpList_append_Own rfl (.tmp 76) (.tmp 78) 22 rfl 3 _ 1 8 Try.underlying22 Try.info3 rfl (by decide) (.slice A4 P.length c4) P.length (ints P) rfl (by exact HI.out.picks.alloc _) (some ⟨wr.heap.size, 0, none⟩) 1 1 (ints [j]) rfl (by rfl) (news_int (by exact heap_alloc_new wr _)) (ints_one' [j]) (by omega) (by omega) ?_; intro v' w3 ho hchg hbl hf; obtain ⟨g3, c3', hv'⟩ := hf (by omega); subst hv'; have HO3 := Lib.hid ho; have HC3 := Lib.hid hchg; have HB3 := Lib.hid hbl; clear ho hchg hbl hf)
              | (at_builtin; refine wpList_append_Own rfl (.tmp 80) (.tmp 86) 22 rfl 3 _ 1 8 Try.underlying22 Try.info3 rfl (by decide) (.slice A3 m c3) m (wcs W') rfl (by exact (HI.out.want3 HC3.out).alloc _) (some ⟨w3.heap.size, 0, none⟩) 3 3 (wcs [((⟨(i : Int), (s : Int)⟩ : D), (s : Int) + j)]) rfl (by rfl) (news_three (by exact heap_alloc_new w3 _)) (wcs_one' _) (by omega) (by omega) ?_; intro v' w4 ho hchg hbl hf; obtain ⟨g4, c4', hv'⟩ := hf (by omega); subst hv'; have HO4 := Lib.hid ho; have HC4 := Lib.hid hchg; have HB4 := Lib.hid hbl; clear ho hchg hbl hf))
              go_roundw
              case rel => exact ⟨i + 1, k + 1, m + 3, _, P ++ [j], some ⟨g4, 0, none⟩, c4', some ⟨g3, 0, none⟩, c3', by omega, by omega, by go_num, by go_num, rfl, by simp, by have := HI.out.step HX.out hmod j0 j1 HO3.out HC3.out HB3.out HO4.out HC4.out HB4.out; simpa using this⟩
              case measure => simp [intOf]; omega
            · have hkl' : ¬ (k : Int) < (js.length : Int) := by omega
              go_wp2_with (first
              | (at_builtin; refine wpList_append_Own rfl (.tmp 76) (.tmp 78) 22 rfl 3 _ 1 8 Try.underlying22 Try.info3 rfl (by decide) (.slice A4 P.length c4) P.length (ints P) rfl (by exact HI.out.picks.alloc _) (some ⟨wr.heap.size, 0, none⟩) 1 1 (ints [0]) rfl (by rfl) (news_int (by exact heap_alloc_new wr _)) (ints_one' [0]) (by omega) (by omega) ?_; intro v' w3 ho hchg hbl hf; obtain ⟨g3, c3', hv'⟩ := hf (by omega); subst hv'; have HO3 := Lib.hid ho; have HC3 := Lib.hid hchg; have HB3 := Lib.hid hbl; clear ho hchg hbl hf)
              | (at_builtin; refine wpList_append_Own rfl (.tmp 80) (.tmp 86) 22 rfl 3 _ 1 8 Try.underlying22 Try.info3 rfl (by decide) (.slice A3 m c3) m (wcs W') rfl (by exact (HI.out.want3 HC3.out).alloc _) (some ⟨w3.heap.size, 0, none⟩) 3 3 (wcs [((⟨(i : Int), (s : Int)⟩ : D), (s : Int) + 0)]) rfl (by rfl) (news_three (by exact heap_alloc_new w3 _)) (wcs_one' _) (by omega) (by omega) ?_; intro v' w4 ho hchg hbl hf; obtain ⟨g4, c4', hv'⟩ := hf (by omega); subst hv'; have HO4 := Lib.hid ho; have HC4 := Lib.hid hchg; have HB4 := Lib.hid hbl; clear ho hchg hbl hf))
              go_roundw
              case rel => exact ⟨i + 1, k + 1, m + 3, _, P ++ [0], some ⟨g4, 0, none⟩, c4', some ⟨g3, 0, none⟩, c3', by omega, by omega, by go_num, by go_num, rfl, by simp, by have := HI.out.step HX.out hmod (Int.le_refl 0) (by omega) HO3.out HC3.out HB3.out HO4.out HC4.out HB4.out; simpa using this⟩
              case measure => simp [intOf]; omega
          · have hm1 : ((s : Int).tmod x == 0) = false := by rw [Int.tmod_eq_emod_of_nonneg (by omega)]; simp [hmod]
            go_wp2_with fail
            go_roundw
            case rel => exact ⟨i + 1, k, m, W', P, A3, c3, A4, c4, by omega, by omega, by go_num, rfl, rfl, rfl, HI.out.skip HX.out hmod⟩
            case measure => simp [intOf]; omega
        · have hli' : ¬ (i : Int) < (ps.length : Int) := by omega
          obtain rfl : i = ps.length := by omega
          have HPK := Lib.hid (HI.out.picks.pickAt rfl)
          obtain ⟨tl, htl⟩ : ∃ tl, told ps s L P = tl := ⟨_, rfl⟩
          obtain ⟨Ln, hLn⟩ : ∃ Ln, left ps s L P = Ln := ⟨_, rfl⟩
          have hbd := told_left_length HO.out.tim.neat P
          rw [htl, hLn] at hbd
          have HTL := Lib.hid htl
          have HLN := Lib.hid hLn
          have hLb : L.length ≤ 4000 := by omega
          have hzb : Z.length + tl.length ≤ 10000 := by omega
          have HCT := Lib.hid hct
          clear htl hLn hct
          have HM := Lib.hid (HO.out.mid HI.out HB.out HVA.out)
          go_wp2_with (go_at_call 14; refine (HM.out.2.2.1.tickAs P _ HPK.out (by omega) hLb HTL.out HLN.out).mono ?_)
          rintro e w2 ⟨Ad, cd, rfl, hod, hfd, ht2, hc2⟩
          have HN1 := Lib.hid (HM.out.2.2.1.besideN HM.out.1 (by decide) hc2)
          have HN2 := Lib.hid (HM.out.2.2.1.besideN HM.out.2.1 (by decide) hc2)
          have HD := Lib.hid hod
          have HFD := Lib.hid (fun k (hk : (Value.slice Ad tl.length cd).ownBlock = some k) (e : (Value.slice A1 Z.length c1).ownBlock = some k) => show False by have := hfd k hk; have := HM.out.1.lt k e; omega)
          have HT2 := Lib.hid ht2
          have HC2 := Lib.hid hc2
          clear hod hfd ht2 hc2
          go_wp2_with fail
          obtain ⟨wd, rfl⟩ : ∃ wd : World, wd = w2 := ⟨_, rfl⟩
          go_loopw [9, 10, 19] (JRel wd s tl Z (.slice A1 Z.length c1) (.slice A2 Z.length c2)) (fun _ _ iv _ => tl.length - (intOf iv).toNat)
          case atStart => exact ⟨0, Z.length, A1, c1, A2, c2, by omega, rfl, rfl, rfl, JSt.start HN1.out HN2.out⟩
          case round =>
            obtain ⟨i, nz, A1', c1', A2', c2', hi, rfl, rfl, rfl, hj⟩ := hrel
            have HJ2 := Lib.hid hj
            have hnzb : nz ≤ 10000 := by have := hj.hnz; omega
            have HDr := Lib.hid (HD.out.keep hj.chg (fun k hk e => e.elim (HFD.out k hk) (fun e => HD.out.ne HN2.out (by decide) k hk e)))
            clear hj
            by_cases hli : i < tl.length
            · have hli' : (i : Int) < (tl.length : Int) := by omega
              obtain ⟨⟨dt, dn⟩, hd⟩ : ∃ d, tl[i]? = some d := ⟨tl[i], List.getElem?_eq_getElem hli⟩
              obtain ⟨gd, capd, hv, _, _, hgd⟩ := HDr.out.form (by omega)
              injection hv with hv1 _ hv2
              subst hv1; subst hv2
              obtain ⟨d0, d1⟩ := Own.due HDr.out rfl hd
              have Hd := Lib.hid hd
              clear hd
              go_wp2_with (first
                | (at_builtin; refine wpList_append_Own rfl (.tmp 97) (.tmp 102) 33 rfl 48 _ 2 16 Try.underlying33 Try.info48 rfl (by decide) (.slice A1' nz c1') nz (dcs (Z.map Prod.fst ++ tl.take i)) rfl (by exact HJ2.out.said.alloc _) (some ⟨wr.heap.size, 0, none⟩) 1 1 [.int .i64 dt, .int .i64 dn] rfl (by rfl) (news_due (by exact heap_alloc_new wr _)) (by simp; exact ⟨rfl, rfl⟩) (by omega) (by omega) ?_; intro v' w3 ho hchg hbl hf; obtain ⟨g3, c3', hv'⟩ := hf (by omega); subst hv'; have HO3 := Lib.hid ho; have HC3 := Lib.hid hchg; have HB3 := Lib.hid hbl; clear ho hchg hbl hf)
                | (at_builtin; refine wpList_append_Own rfl (.tmp 104) (.tmp 106) 22 rfl 3 _ 1 8 Try.underlying22 Try.info3 rfl (by decide) (.slice A2' nz c2') nz (ints (Z.map Prod.snd ++ List.replicate i (s : Int))) rfl (by exact (HJ2.out.ats3 HC3.out).alloc _) (some ⟨w3.heap.size, 0, none⟩) 1 1 (ints [(s : Int)]) rfl (by rfl) (news_int (by exact heap_alloc_new w3 _)) (ints_one' _) (by omega) (by omega) ?_; intro v' w4 ho hchg hbl hf; obtain ⟨g4, c4', hv'⟩ := hf (by omega); subst hv'; have HO4 := Lib.hid ho; have HC4 := Lib.hid hchg; have HB4 := Lib.hid hbl; clear ho hchg hbl hf))
              go_roundw
              case rel => exact ⟨i + 1, nz + 1, some ⟨g3, 0, none⟩, c3', some ⟨g4, 0, none⟩, c4', by omega, by go_num, rfl, rfl, HJ2.out.step Hd.out HO3.out HC3.out HB3.out HO4.out HC4.out HB4.out⟩
              case measure => simp [intOf]; omega
            · have hli' : ¬ (i : Int) < (tl.length : Int) := by omega
              obtain rfl : i = tl.length := by omega
              go_wp2_with fail
              go_roundw
              case rel =>
                have hz : nz = (Z ++ tl.map (fun d => (d, (s : Int)))).length := by rw [HJ2.out.hnz]; simp
                refine ⟨s + 1, k, Z ++ tl.map (fun d => (d, (s : Int))), W', Ln, A1', c1', A2', c2', A3, c3, by omega, by go_num, rfl, by rw [← hz], by rw [← hz], by rw [← HI.out.hm], ?_⟩
                rw [← hz, ← HI.out.hm]
                exact HO.out.next HI.out HB.out PP.out HVA.out g8 HTL.out HLN.out HT2.out HC2.out HJ2.out hk
              case measure => simp [intOf]; omega
    · have hlt' : ¬ (s : Int) < (n : Int) := by omega
      obtain rfl : s = n := by omega
      obtain ⟨xs, hxs⟩ : ∃ xs, L.map Prod.fst = xs := ⟨_, rfl⟩
      have hwt := HO.out.tim.waiting (by omega)
      rw [hxs] at hwt
      have HWT := Lib.hid hwt
      have HXS := Lib.hid hxs
      clear hwt hxs
      go_wp2_with (go_at_call 18; refine HWT.out.mono ?_)
      rintro e w5 ⟨A5, c5, rfl, ho5, hc5, _⟩
      have HXL := Lib.hid (show xs.length = L.length by rw [← HXS.out]; simp)
      have HON := Lib.hid HO.out.once
      have HS := Lib.hid (HO.out.said.keep hc5 (fun _ _ f => f))
      have HA := Lib.hid (HO.out.ats.keep hc5 (fun _ _ f => f))
      have HW := Lib.hid (HO.out.want.keep hc5 (fun _ _ f => f))
      have HT := Lib.hid (HO.out.tim.quiet hc5)
      have HC := Lib.hid (HO.out.chg.comp hc5 (fun _ _ f => f))
      have HL := Lib.hid ho5
      have h32 : (wrap64 (3 * wrap64 ((Z.length : Int) + (xs.length : Int))) != (W.length : Int) * 3) = false := by
        have h1 := HXL.out
        rw [show (Z.length : Int) + (xs.length : Int) = (W.length : Int) by omega, IntWalk.wrap64_in (W.length : Int) (by omega), IntWalk.wrap64_in (3 * (W.length : Int)) (by omega)]
        simp [Int.mul_comm]
      have h33 : (3 * ((Z.length : Int) + (xs.length : Int)) != (W.length : Int) * 3) = false := by
        have h1 := HXL.out
        rw [show (Z.length : Int) + (xs.length : Int) = (W.length : Int) by omega]
        simp [Int.mul_comm]
      have HCT := Lib.hid hct
      have hzb : Z.length ≤ 100000 := by omega
      have hwb : W.length ≤ 10000 := by omega
      have hxb : xs.length ≤ 100000 := by have := HXL.out; omega
      clear ho5 hc5 HO hct
      go_wp2_with fail
      clear h32 h33
      obtain ⟨we, rfl⟩ : ∃ we : World, we = w5 := ⟨_, rfl⟩
      go_loopw [21] (fun iv wr => ∃ i : Nat, i ≤ Z.length ∧ iv = .int .i64 i ∧ Chg (fun _ => False) we wr) (fun iv _ => Z.length - (intOf iv).toNat)
      case atStart => exact ⟨0, by omega, rfl, Chg.refl _ _⟩
      case round =>
        obtain ⟨i, hi, rfl, hch⟩ := hrel
        have HC1 := Lib.hid hch
        clear hch
        by_cases hli : i < Z.length
        · have hli' : (i : Int) < (Z.length : Int) := by omega
          obtain ⟨⟨⟨zt, zn⟩, zv⟩, hz⟩ : ∃ z, Z[i]? = some z := ⟨Z[i], List.getElem?_eq_getElem hli⟩
          have HZW := Lib.hid (HON.out.said _ (List.mem_of_getElem? hz))
          have HZ1 := Lib.hid (show (Z.map Prod.fst)[i]? = some ⟨zt, zn⟩ by rw [List.getElem?_map, hz]; rfl)
          have HZ2 := Lib.hid (show (Z.map Prod.snd)[i]? = some zv by rw [List.getElem?_map, hz]; rfl)
          clear hz
          obtain ⟨gz, cz, hv, _, _, _⟩ := HS.out.form (by omega)
          injection hv with hv1 _ hv2
          subst hv1; subst hv2
          obtain ⟨ga, ca, hv, _, _, _⟩ := HA.out.form (by omega)
          injection hv with hv1 _ hv2
          subst hv1; subst hv2
          go_wp2_with fail
          go_loopw [22, 23] (fun okv mv wr => ∃ r m : Nat, r ≤ W.length ∧ Hid (m = r * 3) ∧ mv = .int .i64 m ∧ okv = .bool (decide (((⟨zt, zn⟩ : D), zv) ∈ W.take r)) ∧ Chg (fun _ => False) we wr) (fun _ mv _ => W.length * 3 - (intOf mv).toNat)
          case atStart => exact ⟨0, 0, by omega, Lib.hid rfl, rfl, by simp, HC1.out⟩
          case round =>
            obtain ⟨r, m, hr, hm, rfl, rfl, hch⟩ := hrel
            have HC2 := Lib.hid hch
            clear hch
            by_cases hrl : r < W.length
            · obtain ⟨⟨⟨yt, yn⟩, yv⟩, hy⟩ : ∃ y, W[r]? = some y := ⟨W[r], List.getElem?_eq_getElem hrl⟩
              obtain ⟨gw, cw, hv, _, _, _⟩ := HW.out.form (by omega)
              injection hv with hv1 _ hv2
              subst hv1; subst hv2
              have HW2 := Lib.hid (HW.out.keep HC2.out (fun _ _ f => f))
              have HS2 := Lib.hid (HS.out.keep HC2.out (fun _ _ f => f))
              have HA2 := Lib.hid (HA.out.keep HC2.out (fun _ _ f => f))
              obtain ⟨c0, c1', c2'⟩ := Own.wait1 HW2.out rfl hy
              rw [← hm.out] at c0 c1' c2'
              obtain ⟨d0, d1⟩ := Own.due HS2.out (by simp) HZ1.out
              have a0 := Own.int HA2.out (by simp) HZ2.out
              have l1 := block_lt_of_cell c0
              have l2 := block_lt_of_cell d0
              have l3 := block_lt_of_cell a0
              have Hy := Lib.hid hy
              clear hy
              have hm3 := hm.out
              have hmw : (m : Int) < (W.length : Int) * 3 := by omega
              have hmw1 : (m : Int) + 1 < (W.length : Int) * 3 := by omega
              have hmw2 : (m : Int) + 2 < (W.length : Int) * 3 := by omega
              have hmb : m ≤ 100000 := by omega
              have hn1 : ((m : Int) + 1).toNat = m + 1 := by omega
              have hn2 : ((m : Int) + 2).toNat = m + 2 := by omega
              have hp1 : (0 : Int) ≤ (m : Int) + 1 := by omega
              have hp2 : (0 : Int) ≤ (m : Int) + 2 := by omega
              have hs1 : IntKind.i64.wrap ((m : Int) + 1) = (m : Int) + 1 := by rw [IntKind.wrap_i64]; omega
              have hs2 : IntKind.i64.wrap ((m : Int) + 2) = (m : Int) + 2 := by rw [IntKind.wrap_i64]; omega
              clear hm3
              by_cases hz : ((⟨zt, zn⟩ : D), zv) ∈ W.take r
              · have hzd := Lib.hid hz
                rw [decide_eq_true hz]
                clear hz
                go_wp2_with fail
                go_quiet (fail)
                go_wp2_with fail
                go_roundw
                case rel => exact ⟨r + 1, m + 3, by omega, Lib.hid (by have := hm.out; omega), by go_num, by rw [take_one Hy.out]; simp [hzd.out], HC2.out.drewN _⟩
                case measure => have := hm.out; simp [intOf]; omega
              · have hzd := Lib.hid hz
                rw [decide_eq_false hz]
                clear hz
                by_cases q1 : yt = zt
                · by_cases q2 : yn = zn
                  · by_cases q3 : yv = zv
                    · subst q1 q2 q3
                      have b1 : (yt == yt) = true := by simp
                      have b2 : (yn == yn) = true := by simp
                      have b3 : (yv == yv) = true := by simp
                      go_wp2_with fail
                      go_quiet (fail)
                      go_wp2_with fail
                      go_roundw
                      case rel => exact ⟨r + 1, m + 3, by omega, Lib.hid (by have := hm.out; omega), by go_num, by rw [take_one Hy.out]; simp, HC2.out.drewN _⟩
                      case measure => have := hm.out; simp [intOf]; omega
                    · subst q1 q2
                      have b1 : (yt == yt) = true := by simp
                      have b2 : (yn == yn) = true := by simp
                      have b3 : (yv == zv) = false := by simpa using q3
                      have HQ := Lib.hid q3
                      clear q3
                      go_wp2_with fail
                      go_quiet (fail)
                      go_wp2_with fail
                      go_roundw
                      case rel => exact ⟨r + 1, m + 3, by omega, Lib.hid (by have := hm.out; omega), by go_num, by rw [take_one Hy.out]; simp [hzd.out]; intro e; exact HQ.out e.symm, HC2.out.drewN _⟩
                      case measure => have := hm.out; simp [intOf]; omega
                  · subst q1
                    have b1 : (yt == yt) = true := by simp
                    have b2 : (yn == zn) = false := by simpa using q2
                    have HQ := Lib.hid q2
                    clear q2
                    go_wp2_with fail
                    go_quiet (fail)
                    go_wp2_with fail
                    go_roundw
                    case rel => exact ⟨r + 1, m + 3, by omega, Lib.hid (by have := hm.out; omega), by go_num, by rw [take_one Hy.out]; simp [hzd.out]; intro e; exact absurd e.symm HQ.out, HC2.out.drewN _⟩
                    case measure => have := hm.out; simp [intOf]; omega
                · have b1 : (yt == zt) = false := by simpa using q1
                  have HQ := Lib.hid q1
                  clear q1
                  go_wp2_with fail
                  go_quiet (fail)
                  go_wp2_with fail
                  go_roundw
                  case rel => exact ⟨r + 1, m + 3, by omega, Lib.hid (by have := hm.out; omega), by go_num, by rw [take_one Hy.out]; simp [hzd.out]; intro e; exact absurd e.symm HQ.out, HC2.out.drewN _⟩
                  case measure => have := hm.out; simp [intOf]; omega
            · obtain rfl : r = W.length := by omega
              have hm3 := hm.out
              have hmw : ¬ (m : Int) < (W.length : Int) * 3 := by omega
              rw [List.take_length, decide_eq_true HZW.out]
              clear hm3
              go_wp2_with fail
              go_roundw
              case rel => exact ⟨i + 1, by omega, by go_num, HC2.out⟩
              case measure => simp [intOf]; omega
        · have hli' : ¬ (i : Int) < (Z.length : Int) := by omega
          go_wp2_with fail
          go_loopw [24] (fun iv wr => ∃ i : Nat, i ≤ xs.length ∧ iv = .int .i64 i ∧ Chg (fun _ => False) we wr) (fun iv _ => xs.length - (intOf iv).toNat)
          case atStart => exact ⟨0, by omega, rfl, HC1.out⟩
          case round =>
            obtain ⟨i, hi, rfl, hch⟩ := hrel
            have HC2 := Lib.hid hch
            clear hch
            by_cases hlx : i < xs.length
            · have hlx' : (i : Int) < (xs.length : Int) := by omega
              have HL2 := Lib.hid (HL.out.keep HC2.out (fun _ _ f => f))
              obtain ⟨gl, cl, hv, _, _, _⟩ := HL.out.form (by omega)
              injection hv with hv1 _ hv2
              subst hv1; subst hv2
              obtain ⟨⟨xt, xn⟩, hx⟩ : ∃ x, xs[i]? = some x := ⟨xs[i], List.getElem?_eq_getElem hlx⟩
              obtain ⟨d0, d1⟩ := Own.due HL2.out rfl hx
              have l1 := block_lt_of_cell d0
              have hmem : (⟨xt, xn⟩ : D) ∈ L.map Prod.fst := by rw [HXS.out]; exact List.mem_of_getElem? hx
              obtain ⟨y, hy, hye⟩ := List.mem_map.1 hmem
              obtain ⟨_, _, hy1, hy2, hy3⟩ := HON.out.wait y hy
              rw [hye] at hy1 hy2 hy3
              have hq1 : decide ((s : Int) ≤ xn) = false := by simp only at hy1; simp; omega
              have hq2 : decide (xt < 0) = false := by simp only at hy2; simp; omega
              have hq3 : decide ((ps.length : Int) ≤ xt) = false := by simp only at hy3; simp; omega
              clear hx hmem hy hye hy1 hy2 hy3
              go_wp2_with fail
              go_roundw
              case rel => exact ⟨i + 1, by omega, by go_num, HC2.out⟩
              case measure => simp [intOf]; omega
            · have hlx' : ¬ (i : Int) < (xs.length : Int) := by omega
              have HT2 := Lib.hid (HT.out.quiet HC2.out)
              go_wp2_with (first
                | (go_at_call 20; refine (now_at _ _ _ va _ _ _ HT2.out.at_).mono ?_; rintro e w7 ⟨rfl, rfl⟩)
                | (go_at_call 10; refine (known_calls _).mono ?_; rintro e w8 ⟨rfl, hc8⟩))
              go_wp2_with fail
              go_ret
              exact ⟨rfl, (HC.out.comp HC2.out (fun _ _ f => f)).comp hc8 (fun _ _ f => f)⟩

set_option maxRecDepth 100000 in
set_option maxHeartbeats 4000000 in
theorem once_long (w : World) (A : Option Addr) (c m : Nat) (u v : Value) (hl : 8 < m) :
    Calls Try.prog 4 #[.slice A m c, u, v] w (OnlyBool true w) := by
  have hgt : (8 : Int) < (m : Int) := by omega
  go_enter Try.func4, Try.ntmps4
  go_wp2_with (go_at_call 10; refine (known_calls _).mono ?_)
  rintro e w3 ⟨rfl, hc3⟩
  go_wp2_with fail
  go_ret
  exact ⟨rfl, hc3⟩
set_option maxRecDepth 100000 in
set_option maxHeartbeats 4000000 in
theorem once_bad (w : World) (A : Option Addr) (c : Nat) (ps : List Int) (u v : Value) (hr : Reads w A ps) (hg : ¬ Good ps) (hl : ps.length ≤ 8) :
    Calls Try.prog 4 #[.slice A ps.length c, u, v] w (OnlyBool true w) := by
  have HE := Lib.hid (new_err w A c ps hr hg)
  have hgt : ¬ (8 : Int) < (ps.length : Int) := by omega
  clear hr hg
  go_enter Try.func4, Try.ntmps4
  go_wp2_with (go_at_call 11; refine HE.out.mono ?_)
  rintro e w1 ⟨rfl, hc1⟩
  go_wp2_with (go_at_call 10; refine (known_calls _).mono ?_)
  rintro e w3 ⟨rfl, hc3⟩
  go_wp2_with fail
  go_ret
  exact ⟨rfl, hc1.comp hc3 (fun _ _ f => f)⟩
theorem once_calls (w : World) (A : Option Addr) (c : Nat) (ps : List Int) (Aj : Option Addr) (cj : Nat) (js : List Int) (n : Int) (hr : Reads w A ps) (hj : BytesAt w Aj js) (hn0 : 0 ≤ n) (hn1 : n ≤ 255) :
    Calls Try.prog 4 #[.slice A ps.length c, .slice Aj js.length cj, .int .u8 n] w (OnlyBool true w) := by
  by_cases hl : 8 < ps.length
  · exact once_long w A c _ _ _ hl
  · by_cases hg : Good ps
    · exact once_good w A c ps Aj cj js n hr hj hg hn0 hn1
    · exact once_bad w A c ps _ _ hr hg (by omega)
end Go.Proofs.Ytnhnmjdmenehoaa

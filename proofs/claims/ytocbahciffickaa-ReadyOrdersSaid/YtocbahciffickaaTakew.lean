import Derived.Test.YtocbahciffickaaTake
namespace Go.Proofs.Ytocbahciffickaa
open Go.RowKit

/-- A box of three cells. -/
theorem box3 {W : World} {g : Nat} {a b c : Value} {T : TypeId} (h : W.heap[g]? = some (.cells #[a, b, c] T (0, 0))) :
    W.cell? ⟨g, 0, none⟩ = some a ∧ W.cell? ⟨g, 1, none⟩ = some b ∧ W.cell? ⟨g, 2, none⟩ = some c ∧ W.frozen? ⟨g, 0, none⟩ = false ∧ W.frozen? ⟨g, 1, none⟩ = false ∧ W.frozen? ⟨g, 2, none⟩ = false :=
  ⟨by rw [cell_of_row W g 0 _ _ _ h]; rfl, by rw [cell_of_row W g 1 _ _ _ h]; rfl, by rw [cell_of_row W g 2 _ _ _ h]; rfl, frozen_of_row W g 0 _ _ h, frozen_of_row W g 1 _ _ h, frozen_of_row W g 2 _ _ h⟩
theorem Chg.new {w w' : World} {o : Obj} (h : Chg (fun _ => False) (w.alloc o) w') : w'.heap[w.heap.size]? = some o ∧ w.heap.size < w'.heap.size := by
  have hlt : w.heap.size < (w.alloc o).heap.size := by simp
  exact ⟨(h.block _ hlt (fun f => f)).trans (heap_alloc_new w o), Nat.lt_of_lt_of_le hlt h.size⟩
theorem Chg.ofAlloc {S : Nat → Prop} {w w' : World} {o : Obj} (h : Chg S (w.alloc o) w') : Chg S w w' := ((Chg.refl S w).alloc o).trans h

/-- The result's cells are stored: three stores into a block that is new since w. -/
theorem Chg.set3 {S : Nat → Prop} {w w' : World} (h : Chg S w w') {g : Nat} (hg : w.heap.size ≤ g) (a b c : Value) : Chg S w (((w'.setCell ⟨g, 0, none⟩ a).setCell ⟨g, 1, none⟩ b).setCell ⟨g, 2, none⟩ c) :=
  ((h.setCell (p := ⟨g, 0, none⟩) (fun hh => absurd hh (by show ¬ g < _; omega)) a).setCell (p := ⟨g, 1, none⟩) (fun hh => absurd hh (by show ¬ g < _; omega)) b).setCell (p := ⟨g, 2, none⟩) (fun hh => absurd hh (by show ¬ g < _; omega)) c

theorem news_up {w W : World} {m : Nat} {A : Option Addr} {xs : List Value} (h : 0 < m → ∃ ad, A = some ad ∧ ∀ j u, xs[j]? = some u → w.cell? (ad.add j) = some u) (hk : ∀ a u, w.cell? a = some u → W.cell? a = some u) :
    0 < m → ∃ ad, A = some ad ∧ ∀ j u, xs[j]? = some u → W.cell? (ad.add j) = some u := fun hm =>
  let ⟨ad, e, hc⟩ := h hm
  ⟨ad, e, fun j u hu => hk _ _ (hc j u hu)⟩

/-- What is left behind place i. -/
theorem tail_news {W : World} {E : TypeId} {g cap n i : Nat} {xs : List J} (h : Own W E 3 (.slice (some ⟨g, 0, none⟩) n cap) n (jcs xs)) (hn : n = xs.length) (hc : n ≤ cap) :
    0 < n - (i + 1) → ∃ ad, (if cap = i + 1 then some (⟨g, 0, none⟩ : Addr) else some ⟨g, (i + 1) * 3, none⟩) = some ad ∧ ∀ j u, (jcs (xs.drop (i + 1)))[j]? = some u → W.cell? (ad.add j) = some u := by
  intro hpos
  rw [if_neg (by omega)]
  refine ⟨_, rfl, fun j u hu => ?_⟩
  have hadd : (⟨g, (i + 1) * 3, none⟩ : Addr).add j = ⟨g, (i + 1) * 3 + j, none⟩ := by unfold Addr.add; split <;> simp_all
  have hj : j < (jcs (xs.drop (i + 1))).length := (List.getElem?_eq_some_iff.1 hu).1
  rw [jcs_length, List.length_drop] at hj
  rw [hadd, h.cell _ (by omega), ← hu, ← jcs_drop, List.getElem?_drop]

theorem tmod_up (pick : Int) (m k : Nat) (hm : 0 < m) (hk : (k : Int) = pick % (m : Int)) (hs : 0 ≤ pick.tmod m) : pick.tmod (m : Int) = (k : Int) := by
  rw [hk]
  rw [Int.tmod_eq_emod] at hs ⊢
  have h1 := Int.emod_nonneg pick (b := (m : Int)) (by omega)
  have h2 := Int.emod_lt_of_pos pick (b := (m : Int)) (by omega)
  split at hs <;> rename_i h
  · simp [h]
  · simp [h] at hs ⊢; omega
theorem tmod_down (pick : Int) (m k : Nat) (hk : (k : Int) = pick % (m : Int)) (hs : ¬ 0 ≤ pick.tmod m) : pick.tmod (m : Int) = (k : Int) - m := by
  rw [hk]
  rw [Int.tmod_eq_emod] at hs ⊢
  split at hs <;> rename_i h
  · omega
  · rw [if_neg h]; simp

theorem take_end {T E : TypeId} {w W W' : World} {p i : Nat} {v v' : Value} {xs : List J} {above pick : Int} {j : J} {n : Nat} {x : Value} {a b c : Value}
    (h : SetAt T E w p v xs) (hTE : E ≠ T) (hW : Chg (fun _ => False) w W) (hb : W'.heap[p]? = some (.cells #[v] T (0, 0)))
    (ho : Own W' E 3 v' n (jcs (xs.take i) ++ jcs (xs.drop (i + 1)))) (hn : n = i + (xs.length - (i + 1))) (hi : i < xs.length) (hc : Chg (fun k => v.ownBlock = some k) W W') (hbl : v'.ownBlock = v.ownBlock ∨ v'.ownBlock = some W.heap.size)
    (hnb : best xs ≠ 0) (ha : ¬ best xs ≤ above) (hti : takeAt xs pick = i) (hj : xs[i]? = some j) (hx : x = .tuple #[jv j, .bool true]) {g : Nat} (hg : W'.heap[g]? = some (.cells #[a, b, c] E (0, 0))) (hgv : ∀ k, v'.ownBlock = some k → k ≠ g) (hgw : w.heap.size ≤ g) (a' b' c' : Value) :
    TakePost T E w p v xs above pick (.returned x) ((((W'.setCell ⟨p, 0, none⟩ v').setCell ⟨g, 0, none⟩ a').setCell ⟨g, 1, none⟩ b').setCell ⟨g, 2, none⟩ c') := by
  have h1 : ¬ (best xs ≤ above ∨ best xs = 0) := by omega
  have hpg : p ≠ g := by
    intro e
    subst e
    have := h.lt
    omega
  refine ⟨?_, v', ?_, ?_, ?_⟩
  · rw [hx]
    simp only [takeJ, takeB, if_neg h1, hti, h1, decide_false, Bool.not_false, List.getD_eq_getElem?_getD, hj, Option.getD_some, if_false]
  · have hs : SetAt T E (W'.setCell ⟨p, 0, none⟩ v') p v' (takeL xs above pick) := by
      refine SetAt.store hb hTE ho ?_ ?_
      · simp only [takeL, if_neg h1, hti, List.length_eraseIdx, if_pos hi]
        omega
      · simp only [takeL, if_neg h1, hti]
        rw [← jcs_append, List.eraseIdx_eq_take_drop_succ]
    have hk : ∀ u o W1, SetAt T E W1 p v' (takeL xs above pick) → SetAt T E (W1.setCell ⟨g, o, none⟩ u) p v' (takeL xs above pick) := fun u o W1 hw =>
      hw.keep (S := fun k => k = g) (Chg.setCell (S := fun k => k = g) (Chg.refl _ _) (fun _ => rfl) u) hpg (fun k hk => hgv k hk)
    exact hk _ _ _ (hk _ _ _ (hk _ _ _ hs))
  · refine Chg.set3 ?_ hgw _ _ _
    exact Chg.setCell ((hW.mono (T := fun k => k = p ∨ v.ownBlock = some k) (fun _ _ f => f.elim)).comp hc (fun i _ hi => .inr hi)) (fun _ => .inl rfl) v'
  · intro k hk
    rcases hbl with hbl | hbl
    · exact .inl (hbl.symm.trans hk)
    · rw [hbl] at hk
      injection hk with hk
      have := hW.size
      exact .inr (by omega)

def BestQ (w : World) (xs : List J) (e : Ending) (w' : World) : Prop :=
  ∃ A c, e = .returned (.tuple #[.slice A (idxs (best xs) xs 0).length c, .int .i64 (best xs)]) ∧ Own w' 3 1 (.slice A (idxs (best xs) xs 0).length c) (idxs (best xs) xs 0).length (nvs (idxs (best xs) xs 0)) ∧ Chg (fun _ => False) w w'
/-- What 'best' answers, in the words of 'idxs'. -/
theorem best_calls' (w : World) (p : Nat) (v : Value) (xs : List J) (h : SetAt 53 30 w p v xs) (hl : xs.length ≤ 10000) :
    Calls Try.prog 18 #[.pointer (some ⟨p, 0, none⟩)] w (BestQ w xs) := by
  refine (best_calls w p v xs h hl).mono fun e w' hp => ?_
  obtain ⟨A, c, he, ho, hc, _⟩ := hp
  rw [bestOf_eq] at he ho
  exact ⟨A, c, he, ho, hc⟩

set_option maxRecDepth 100000 in
set_option maxHeartbeats 400000 in
theorem take_none (w : World) (p : Nat) (v : Value) (xs : List J) (above pick : Int) (h : SetAt 53 30 w p v xs) (hl : xs.length ≤ 10000) (hp : ∀ j ∈ xs, 1 ≤ j.p) (hn : best xs = 0) :
    Calls Try.prog 9 #[.pointer (some ⟨p, 0, none⟩), .int .i64 above, .int .i64 pick] w (TakePost 53 30 w p v xs above pick) := by
  have hx := idxs_none xs hp hn
  subst hx
  have hc := fun W (hk : Chg (fun _ => False) w W) => best_calls' W p v [] (h.keep hk (fun f => f) (fun _ _ f => f)) (by simp)
  have H := Lib.hid h
  have HC := Lib.hid hc
  clear h hc hp hn
  go_enter Try.func9, Try.ntmps9
  go_wp2_with (go_at_call 18; refine (HC.out _ ((Chg.refl _ w).alloc _)).mono ?_)
  intro e w1 hp
  obtain ⟨A, c, rfl, ho, hch⟩ := hp
  obtain ⟨b0, b1, b2, f0, f1, f2⟩ := box3 hch.new.1
  have Hch := Lib.hid hch
  clear ho hch
  simp only [idxs, List.length_nil, best, mostGo]
  go_wp2_with fail
  refine bodyPost_ret (v := .tuple #[jv zeroJ, .bool false]) (by simp [results, Try.results9, go_sem, b0, b1, b2, f0, f1, f2, jv, zeroJ]) rfl ⟨by simp [takeJ, takeB, best, mostGo], v, ?_, ?_, fun _ h => .inl h⟩
  · have e : takeL [] above pick = [] := by simp [takeL, best, mostGo]
    rw [e]
    exact H.out.keep (Hch.out.ofAlloc.set3 (Nat.le_refl _) _ _ _) (fun f => f) (fun _ _ f => f)
  · exact (Hch.out.ofAlloc.set3 (Nat.le_refl _) _ _ _).mono (fun _ _ f => f.elim)

set_option maxRecDepth 100000 in
set_option maxHeartbeats 400000 in
theorem take_not (w : World) (p : Nat) (v : Value) (xs : List J) (above pick : Int) (h : SetAt 53 30 w p v xs) (hl : xs.length ≤ 10000) (hn : best xs ≠ 0) (ha : best xs ≤ above) :
    Calls Try.prog 9 #[.pointer (some ⟨p, 0, none⟩), .int .i64 above, .int .i64 pick] w (TakePost 53 30 w p v xs above pick) := by
  have hc := fun W (hk : Chg (fun _ => False) w W) => best_calls' W p v xs (h.keep hk (fun f => f) (fun _ _ f => f)) hl
  have hpos := idxs_pos xs hn
  have hlen := idxs_len (best xs) xs 0
  have H := Lib.hid h
  have HC := Lib.hid hc
  clear h hc
  go_enter Try.func9, Try.ntmps9
  go_wp2_with (go_at_call 18; refine (HC.out _ ((Chg.refl _ w).alloc _)).mono ?_)
  intro e w1 hp
  obtain ⟨A, c, rfl, ho, hch⟩ := hp
  obtain ⟨b0, b1, b2, f0, f1, f2⟩ := box3 hch.new.1
  have Hch := Lib.hid hch
  clear ho hch
  have Hn := Lib.hid hn
  clear hn
  generalize hq : best xs = q at *
  generalize hm : (idxs q xs 0).length = m at *
  have Hq := Lib.hid hq
  have Hm := Lib.hid hm
  clear hq hm
  have hm0 : ((m : Int) == 0) = false := by simp; omega
  go_wp2_with fail
  refine bodyPost_ret (v := .tuple #[jv zeroJ, .bool false]) (by simp [results, Try.results9, go_sem, b0, b1, b2, f0, f1, f2, jv, zeroJ]) rfl ⟨by simp [takeJ, takeB, Hq.out, ha], v, ?_, ?_, fun _ h => .inl h⟩
  · have e : takeL xs above pick = xs := by simp [takeL, Hq.out, ha]
    rw [e]
    exact H.out.keep (Hch.out.ofAlloc.set3 (Nat.le_refl _) _ _ _) (fun f => f) (fun _ _ f => f)
  · exact (Hch.out.ofAlloc.set3 (Nat.le_refl _) _ _ _).mono (fun _ _ f => f.elim)

set_option maxRecDepth 100000 in
set_option maxHeartbeats 1000000 in
theorem take_some (w : World) (p : Nat) (v : Value) (xs : List J) (above pick : Int) (h : SetAt 53 30 w p v xs) (hl : xs.length ≤ 10000) (hn : best xs ≠ 0) (ha : ¬ best xs ≤ above) :
    Calls Try.prog 9 #[.pointer (some ⟨p, 0, none⟩), .int .i64 above, .int .i64 pick] w (TakePost 53 30 w p v xs above pick) := by
  have hc := fun W (hk : Chg (fun _ => False) w W) => best_calls' W p v xs (h.keep hk (fun f => f) (fun _ _ f => f)) hl
  have hpos := idxs_pos xs hn
  have hlen := idxs_len (best xs) xs 0
  obtain ⟨k, i, j, hk, hk2, hk3, hi, hi2, hj⟩ := takeAt_get xs pick hn
  obtain ⟨gs, cs, rfl, hcs, hcm, _⟩ := h.2.form (by omega)
  have H := Lib.hid h
  have HC := Lib.hid hc
  clear h hc
  go_enter Try.func9, Try.ntmps9
  go_wp2_with (go_at_call 18; refine (HC.out _ ((Chg.refl _ w).alloc _)).mono ?_)
  intro e w1 hp
  obtain ⟨A, c, rfl, ho, hch⟩ := hp
  obtain ⟨b0, b1, b2, f0, f1, f2⟩ := box3 hch.new.1
  obtain ⟨ga, ca, hv, hac, _⟩ := ho.form hpos
  injection hv with hA _ hC
  subst hA; subst hC
  have k0 : w1.cell? ⟨ga, k, none⟩ = some (.int .i64 (i : Int)) := by
    rw [ho.cell k (by omega)]
    simp only [nvs, List.getElem?_map, hk3, Option.map_some]
  have hset := H.out.keep hch.ofAlloc (fun f => f) (fun _ _ f => f)
  obtain ⟨c0, c1, c2⟩ := hset.2.job rfl hj
  have hp0 := hset.cell
  have hpf := hset.frozen
  have hlt1 := hset.lt
  have Hset := Lib.hid hset
  have Hch := Lib.hid hch
  have Hn := Lib.hid hn
  have Hi := Lib.hid hi
  have Hj := Lib.hid hj
  clear ho hch hn hset hi hj hk3
  generalize hq : best xs = q at *
  generalize hm : (idxs q xs 0).length = m at *
  have Hq := Lib.hid hq
  have Hm := Lib.hid hm
  clear hq hm
  have Hk := Lib.hid hk
  clear hk
  have hm0 : ((m : Int) == 0) = false := by simp; omega
  have hqa : above < q := by omega
  have hal : ((q : Int) ≤ above) = False := by simp; omega
  have hgsp : gs < w.heap.size := H.out.2.lt gs rfl
  have hlt := H.out.lt
  have hne1 : ¬ w.heap.size = p := by omega
  have hne2 : ¬ w1.heap.size = p := by omega
  by_cases hs : 0 ≤ pick.tmod m
  · have hr := tmod_up pick m k hpos Hk.out hs
    clear hs
    go_wp2_with fail
    have hwr : IntKind.i64.wrap ((i : Int) + 1) = (i : Int) + 1 := by rw [IntKind.wrap_i64]; omega
    have hp0' : (0 : Int) ≤ (i : Int) + 1 := by omega
    have hp1 : (i : Int) + 1 ≤ (xs.length : Int) := by omega
    have hp2 : ((i : Int) + 1).toNat = i + 1 := by omega
    have hp3 : i ≤ cs := by omega
    obtain ⟨A, hA, hnews⟩ : ∃ A : Option Addr, (if cs = i + 1 then some (⟨gs, 0, none⟩ : Addr) else some ⟨gs, (i + 1) * 3, none⟩) = A ∧ Hid (0 < xs.length - (i + 1) → ∃ ad, A = some ad ∧ ∀ j u, (jcs (xs.drop (i + 1)))[j]? = some u → w1.cell? (ad.add j) = some u) :=
      ⟨_, rfl, tail_news Hset.out.2 rfl hcs⟩
    have HOwn : Hid (Own (w1.alloc (.cells #[.int .i64 j.t, .int .i64 j.p, .int .i64 j.n] 30)).drew 30 3 (.slice (some ⟨gs, 0, none⟩) i i) i (jcs (xs.take i))) := by
      have hx := ((Hset.out.2.cut i i (by omega) (by omega) (by omega)).alloc (.cells #[.int .i64 j.t, .int .i64 j.p, .int .i64 j.n] 30)).drew
      rw [jcs_take] at hx
      exact hx
    have HNews : Hid (0 < xs.length - (i + 1) → ∃ ad, A = some ad ∧ ∀ y u, (jcs (xs.drop (i + 1)))[y]? = some u → (w1.alloc (.cells #[.int .i64 j.t, .int .i64 j.p, .int .i64 j.n] 30)).drew.cell? (ad.add y) = some u) :=
      news_up hnews.out (fun a u hu => (World.cell?_alloc_some w1 a _ (by rw [hu]; rfl)).trans hu)
    have HL1 : Hid (w.heap.size < (w1.alloc (.cells #[.int .i64 j.t, .int .i64 j.p, .int .i64 j.n] 30)).drew.heap.size) := by
      have := Hch.out.new.2
      show w.heap.size < (w1.alloc (.cells #[.int .i64 j.t, .int .i64 j.p, .int .i64 j.n] 30)).heap.size
      rw [World.size_alloc]
      omega
    have HL2 : Hid (w1.heap.size < (w1.alloc (.cells #[.int .i64 j.t, .int .i64 j.p, .int .i64 j.n] 30)).drew.heap.size) := by
      show w1.heap.size < (w1.alloc (.cells #[.int .i64 j.t, .int .i64 j.p, .int .i64 j.n] 30)).heap.size
      rw [World.size_alloc]
      omega
    have HS1 : Hid (¬ (Value.slice (some ⟨gs, 0, none⟩) i i).ownBlock = some w.heap.size) := by
      show ¬ _
      rw [sl_own]
      intro e
      injection e with e
      omega
    have HS2 : Hid (¬ (Value.slice (some ⟨gs, 0, none⟩) i i).ownBlock = some w1.heap.size) := by
      have := Hch.out.new.2
      show ¬ _
      rw [sl_own]
      intro e
      injection e with e
      omega
    have HR1 := Lib.hid ((Below.heap_alloc w1 (.cells #[.int .i64 j.t, .int .i64 j.p, .int .i64 j.n] 30) _ Hch.out.new.2).trans Hch.out.new.1)
    have HR2 := Lib.hid (heap_alloc_new w1 (.cells #[.int .i64 j.t, .int .i64 j.p, .int .i64 j.n] 30))
    go_region_law (
      refine step_append_Own rfl (.tmp 58) (.tmp 65) 44 rfl 30 _ 3 24 Try.underlying44 Try.info30 rfl (by decide) (.slice (some ⟨gs, 0, none⟩) i i) i (jcs (xs.take i)) (by simp [Act.eval, Act.put]) HOwn.out A (xs.length - (i + 1)) (cs - (i + 1)) (jcs (xs.drop (i + 1))) (by simp [Act.eval, Act.put]) (by rw [jcs_length, List.length_drop]) HNews.out (jcs_one' _) (by omega) (by omega) ?_
      intro v' w' ho hchg hbl hf
      obtain ⟨A', c', hv'⟩ := ho.slice
      subst hv'
      have hb := Lib.hid (Hset.out.behind (by decide) ((((Chg.refl _ w1).alloc _)).drew) hchg)
      have k0 := cell_of_row w' p 0 _ _ _ hb.out
      have e0 := frozen_of_row w' p 0 _ _ hb.out
      simp only [List.getElem?_toArray, List.getElem?_cons_zero] at k0
      have hr1 := Lib.hid ((hchg.block w.heap.size HL1.out HS1.out).trans HR1.out)
      have hr2 := Lib.hid ((hchg.block w1.heap.size HL2.out HS2.out).trans HR2.out)
      obtain ⟨r0, r1, r2, g0, g1, g2⟩ := box3 hr1.out
      obtain ⟨s0, s1, s2, _, _, _⟩ := box3 hr2.out
      have Ho := Lib.hid ho
      have Hc := Lib.hid hchg
      have Hbl := Lib.hid hbl
      clear ho hchg hbl hf)
    all_goals clear b0 b1 b2 f0 f1 f2 c0 c1 c2 hp0 hpf hA hnews hwr hp0' hp1 hp2 hr
    all_goals go_wp2_with fail
    all_goals
      refine bodyPost_ret (v := .tuple #[jv j, .bool true]) (by simp [results, Try.results9, go_sem, r0, r1, r2, g0, g1, g2, jv, hne1]) rfl ?_
      have hbl := Hbl.out
      refine take_end H.out (by decide) ((Hch.out.ofAlloc.alloc _).drew) hb.out Ho.out rfl hi2 Hc.out hbl (by rw [Hq.out]; exact Hn.out) (by rw [Hq.out]; omega) Hi.out Hj.out rfl hr1.out ?_ (Nat.le_refl _) _ _ _
      intro y hy e
      subst e
      rcases hbl with hbl | hbl
      · exact HS1.out (hbl.symm.trans hy)
      · rw [hbl] at hy
        injection hy with hy
        have := HL1.out
        omega
  · have hr := tmod_down pick m k Hk.out hs
    clear hs
    go_wp2_with fail
    have hwr : IntKind.i64.wrap ((i : Int) + 1) = (i : Int) + 1 := by rw [IntKind.wrap_i64]; omega
    have hp0' : (0 : Int) ≤ (i : Int) + 1 := by omega
    have hp1 : (i : Int) + 1 ≤ (xs.length : Int) := by omega
    have hp2 : ((i : Int) + 1).toNat = i + 1 := by omega
    have hp3 : i ≤ cs := by omega
    obtain ⟨A, hA, hnews⟩ : ∃ A : Option Addr, (if cs = i + 1 then some (⟨gs, 0, none⟩ : Addr) else some ⟨gs, (i + 1) * 3, none⟩) = A ∧ Hid (0 < xs.length - (i + 1) → ∃ ad, A = some ad ∧ ∀ j u, (jcs (xs.drop (i + 1)))[j]? = some u → w1.cell? (ad.add j) = some u) :=
      ⟨_, rfl, tail_news Hset.out.2 rfl hcs⟩
    have HOwn : Hid (Own (w1.alloc (.cells #[.int .i64 j.t, .int .i64 j.p, .int .i64 j.n] 30)).drew 30 3 (.slice (some ⟨gs, 0, none⟩) i i) i (jcs (xs.take i))) := by
      have hx := ((Hset.out.2.cut i i (by omega) (by omega) (by omega)).alloc (.cells #[.int .i64 j.t, .int .i64 j.p, .int .i64 j.n] 30)).drew
      rw [jcs_take] at hx
      exact hx
    have HNews : Hid (0 < xs.length - (i + 1) → ∃ ad, A = some ad ∧ ∀ y u, (jcs (xs.drop (i + 1)))[y]? = some u → (w1.alloc (.cells #[.int .i64 j.t, .int .i64 j.p, .int .i64 j.n] 30)).drew.cell? (ad.add y) = some u) :=
      news_up hnews.out (fun a u hu => (World.cell?_alloc_some w1 a _ (by rw [hu]; rfl)).trans hu)
    have HL1 : Hid (w.heap.size < (w1.alloc (.cells #[.int .i64 j.t, .int .i64 j.p, .int .i64 j.n] 30)).drew.heap.size) := by
      have := Hch.out.new.2
      show w.heap.size < (w1.alloc (.cells #[.int .i64 j.t, .int .i64 j.p, .int .i64 j.n] 30)).heap.size
      rw [World.size_alloc]
      omega
    have HL2 : Hid (w1.heap.size < (w1.alloc (.cells #[.int .i64 j.t, .int .i64 j.p, .int .i64 j.n] 30)).drew.heap.size) := by
      show w1.heap.size < (w1.alloc (.cells #[.int .i64 j.t, .int .i64 j.p, .int .i64 j.n] 30)).heap.size
      rw [World.size_alloc]
      omega
    have HS1 : Hid (¬ (Value.slice (some ⟨gs, 0, none⟩) i i).ownBlock = some w.heap.size) := by
      show ¬ _
      rw [sl_own]
      intro e
      injection e with e
      omega
    have HS2 : Hid (¬ (Value.slice (some ⟨gs, 0, none⟩) i i).ownBlock = some w1.heap.size) := by
      have := Hch.out.new.2
      show ¬ _
      rw [sl_own]
      intro e
      injection e with e
      omega
    have HR1 := Lib.hid ((Below.heap_alloc w1 (.cells #[.int .i64 j.t, .int .i64 j.p, .int .i64 j.n] 30) _ Hch.out.new.2).trans Hch.out.new.1)
    have HR2 := Lib.hid (heap_alloc_new w1 (.cells #[.int .i64 j.t, .int .i64 j.p, .int .i64 j.n] 30))
    go_region_law (
      refine step_append_Own rfl (.tmp 58) (.tmp 65) 44 rfl 30 _ 3 24 Try.underlying44 Try.info30 rfl (by decide) (.slice (some ⟨gs, 0, none⟩) i i) i (jcs (xs.take i)) (by simp [Act.eval, Act.put]) HOwn.out A (xs.length - (i + 1)) (cs - (i + 1)) (jcs (xs.drop (i + 1))) (by simp [Act.eval, Act.put]) (by rw [jcs_length, List.length_drop]) HNews.out (jcs_one' _) (by omega) (by omega) ?_
      intro v' w' ho hchg hbl hf
      obtain ⟨A', c', hv'⟩ := ho.slice
      subst hv'
      have hb := Lib.hid (Hset.out.behind (by decide) ((((Chg.refl _ w1).alloc _)).drew) hchg)
      have k0 := cell_of_row w' p 0 _ _ _ hb.out
      have e0 := frozen_of_row w' p 0 _ _ hb.out
      simp only [List.getElem?_toArray, List.getElem?_cons_zero] at k0
      have hr1 := Lib.hid ((hchg.block w.heap.size HL1.out HS1.out).trans HR1.out)
      have hr2 := Lib.hid ((hchg.block w1.heap.size HL2.out HS2.out).trans HR2.out)
      obtain ⟨r0, r1, r2, g0, g1, g2⟩ := box3 hr1.out
      obtain ⟨s0, s1, s2, _, _, _⟩ := box3 hr2.out
      have Ho := Lib.hid ho
      have Hc := Lib.hid hchg
      have Hbl := Lib.hid hbl
      clear ho hchg hbl hf)
    all_goals clear b0 b1 b2 f0 f1 f2 c0 c1 c2 hp0 hpf hA hnews hwr hp0' hp1 hp2 hr
    all_goals go_wp2_with fail
    all_goals
      refine bodyPost_ret (v := .tuple #[jv j, .bool true]) (by simp [results, Try.results9, go_sem, r0, r1, r2, g0, g1, g2, jv, hne1]) rfl ?_
      have hbl := Hbl.out
      refine take_end H.out (by decide) ((Hch.out.ofAlloc.alloc _).drew) hb.out Ho.out rfl hi2 Hc.out hbl (by rw [Hq.out]; exact Hn.out) (by rw [Hq.out]; omega) Hi.out Hj.out rfl hr1.out ?_ (Nat.le_refl _) _ _ _
      intro y hy e
      subst e
      rcases hbl with hbl | hbl
      · exact HS1.out (hbl.symm.trans hy)
      · rw [hbl] at hy
        injection hy with hy
        have := HL1.out
        omega

theorem take_calls (w : World) (p : Nat) (v : Value) (xs : List J) (above pick : Int) (h : SetAt 53 30 w p v xs) (hl : xs.length ≤ 10000) (hp : ∀ j ∈ xs, 1 ≤ j.p) :
    Calls Try.prog 9 #[.pointer (some ⟨p, 0, none⟩), .int .i64 above, .int .i64 pick] w (TakePost 53 30 w p v xs above pick) := by
  by_cases hn : best xs = 0
  · exact take_none w p v xs above pick h hl hp hn
  · by_cases ha : best xs ≤ above
    · exact take_not w p v xs above pick h hl hn ha
    · exact take_some w p v xs above pick h hl hn ha
end Go.Proofs.Ytocbahciffickaa

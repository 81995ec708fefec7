import Derived.Test.YtnhnmjdmenehoaaOncep
namespace Go.Proofs.Ytnhnmjdmenehoaa
open Go.RowKit

/-! TimerOnce: what stands at the heads of its loops, and what a round makes of it. -/
structure OSt (w : World) (B p b : Nat) (va : Value) (ps : List Int) (s k : Nat) (Z W L : List (D × Int)) (tv av wv : Value) (wr : World) : Prop where
  said : Own wr 48 2 tv Z.length (dcs (Z.map Prod.fst))
  ats : Own wr 3 1 av Z.length (ints (Z.map Prod.snd))
  want : Own wr 3 1 wv (W.length * 3) (wcs W)
  ne : ∀ j, av.ownBlock = some j → ¬ wv.ownBlock = some j
  ft : ∀ j, tv.ownBlock = some j → B ≤ j
  fa : ∀ j, av.ownBlock = some j → B ≤ j
  fw : ∀ j, wv.ownBlock = some j → B ≤ j
  tim : Tim wr p b va ps s L
  once : Once ps s L Z W
  kb : k ≤ 8 * s
  wl : W.length ≤ 8 * s
  chg : Chg (fun _ => False) w wr
  size : B ≤ wr.heap.size
structure ISt (wr0 : World) (ps : List Int) (s : Nat) (W : List (D × Int)) (wv0 : Value) (i m : Nat) (W' : List (D × Int)) (P : List Int) (wv pv : Value) (wr : World) : Prop where
  want : Own wr 3 1 wv m (wcs W')
  hm : m = W'.length * 3
  picks : Own wr 3 1 pv P.length (ints P)
  ne : ∀ j, pv.ownBlock = some j → ¬ wv.ownBlock = some j
  fp : ∀ j, pv.ownBlock = some j → wr0.heap.size ≤ j
  fw : ∀ j, wv.ownBlock = some j → wv0.ownBlock = some j ∨ wr0.heap.size ≤ j
  chg : Chg (fun j => wv0.ownBlock = some j) wr0 wr
  eq : W' = W ++ rels s (ps.take i) 0 P
  cnts : cnt s (ps.take i) = P.length
  len : W'.length ≤ W.length + i
  plen : P.length ≤ i
structure JSt (wr1 : World) (s : Nat) (tl : List D) (Z : List (D × Int)) (tv1 av1 : Value) (i nz : Nat) (tv av : Value) (wr : World) : Prop where
  said : Own wr 48 2 tv nz (dcs (Z.map Prod.fst ++ tl.take i))
  hnz : nz = Z.length + i
  ats : Own wr 3 1 av nz (ints (Z.map Prod.snd ++ List.replicate i (s : Int)))
  ft : ∀ j, tv.ownBlock = some j → tv1.ownBlock = some j ∨ wr1.heap.size ≤ j
  fa : ∀ j, av.ownBlock = some j → av1.ownBlock = some j ∨ wr1.heap.size ≤ j
  chg : Chg (fun j => tv1.ownBlock = some j ∨ av1.ownBlock = some j) wr1 wr

theorem ints_append (l m : List Int) : ints (l ++ m) = ints l ++ ints m := by simp [ints]

section
variable {w wr wr0 wr1 w2 w3 w4 : World} {B p b s k i m nz : Nat} {va tv av wv tv1 av1 wv0 pv tv' av' wv' pv' : Value} {ps P : List Int} {Z W W' L Ln : List (D × Int)} {tl : List D} {o o2 : Obj} {x j : Int}
theorem ISt.start (h : OSt w B p b va ps s k Z W L tv av wv wr) : ISt wr ps s W wv 0 (W.length * 3) W [] wv (.slice none 0 0) wr :=
  ⟨h.want, rfl, Own.nil _ _ _, by simp [Value.ownBlock], by simp [Value.ownBlock], fun _ hj => .inl hj, Chg.refl _ _, by simp [rels], by simp [cnt], by simp, by simp⟩
theorem ISt.want3 (h : ISt wr0 ps s W wv0 i m W' P wv pv wr) (hc3 : Chg (fun k => pv.ownBlock = some k) (wr.alloc o) w3) : Own w3 3 1 wv m (wcs W') :=
  (h.want.alloc o).keep hc3 fun k hk e => h.ne k e hk
theorem ISt.step (h : ISt wr0 ps s W wv0 i m W' P wv pv wr) (hx : ps[i]? = some x) (hmod : (s : Int) % x = 0) (h0 : 0 ≤ j) (h1 : j ≤ 255)
    (ho3 : Own w3 3 1 pv' (P.length + 1) (ints P ++ ints [j])) (hc3 : Chg (fun k => pv.ownBlock = some k) (wr.alloc o) w3) (hb3 : pv'.ownBlock = pv.ownBlock ∨ pv'.ownBlock = some (wr.alloc o).heap.size)
    (ho4 : Own w4 3 1 wv' (m + 3) (wcs W' ++ wcs [((⟨(i : Int), (s : Int)⟩ : D), (s : Int) + j)])) (hc4 : Chg (fun k => wv.ownBlock = some k) (w3.alloc o2) w4) (hb4 : wv'.ownBlock = wv.ownBlock ∨ wv'.ownBlock = some (w3.alloc o2).heap.size) :
    ISt wr0 ps s W wv0 (i + 1) (m + 3) (W' ++ [((⟨(i : Int), (s : Int)⟩ : D), (s : Int) + j)]) (P ++ [j]) wv' pv' w4 := by
  obtain ⟨e1, e2⟩ := rels_yes hx h.cnts hmod h0 h1
  have s1 : wr.heap.size < (wr.alloc o).heap.size := by simp
  have s2 := hc3.size
  have s3 : w3.heap.size < (w3.alloc o2).heap.size := by simp
  have s0 := h.chg.size
  have hpw : ∀ k, pv'.ownBlock = some k → ¬ wv.ownBlock = some k := by
    intro k hk e
    rcases hb3 with e' | e'
    · exact h.ne k (e' ▸ hk) e
    · rw [e'] at hk
      injection hk with hk
      have := h.want.lt k e
      omega
  refine ⟨by rw [wcs_append]; exact ho4, by rw [h.hm]; simp only [List.length_append, List.length_cons, List.length_nil]; omega, ?_, fun k hk e => ?_, fun k hk => ?_, fun k hk => ?_, ?_, ?_, e2, ?_, ?_⟩
  · have := (ho3.alloc o2).keep hc4 fun k hk e => hpw k hk e
    rw [List.length_append, ints_append]
    exact this
  · rcases hb4 with e' | e'
    · exact hpw k hk (e' ▸ e)
    · rw [e'] at e
      injection e with e
      have := ho3.lt k hk
      omega
  · rcases hb3 with e' | e'
    · exact h.fp k (e' ▸ hk)
    · rw [e'] at hk
      injection hk with hk
      omega
  · rcases hb4 with e' | e'
    · exact h.fw k (e' ▸ hk)
    · rw [e'] at hk
      injection hk with hk
      right; omega
  · refine (((h.chg.alloc o).comp hc3 (fun k hk e => ?_)).alloc o2).comp hc4 (fun k hk e => ?_)
    · have := h.fp k e; omega
    · rcases h.fw k e with e' | e'
      · exact e'
      · omega
  · rw [e1, h.eq, List.append_assoc]
  · have := h.len; simp only [List.length_append, List.length_cons, List.length_nil]; omega
  · have := h.plen; simp only [List.length_append, List.length_cons, List.length_nil]; omega
theorem ISt.skip (h : ISt wr0 ps s W wv0 i m W' P wv pv wr) (hx : ps[i]? = some x) (hmod : ¬ (s : Int) % x = 0) : ISt wr0 ps s W wv0 (i + 1) m W' P wv pv wr := by
  obtain ⟨e1, e2⟩ := rels_no hx h.cnts hmod
  exact ⟨h.want, h.hm, h.picks, h.ne, h.fp, h.fw, h.chg, by rw [e1]; exact h.eq, e2, by have := h.len; omega, by have := h.plen; omega⟩

theorem OSt.mid (h : OSt w B p b va ps s k Z W L tv av wv wr0) (hi : ISt wr0 ps s W wv i m W' P wv' pv' wr1) (hB : w.heap.size ≤ B) (hva : ∀ k, va.ownBlock = some k → k < B) :
    Own wr1 48 2 tv Z.length (dcs (Z.map Prod.fst)) ∧ Own wr1 3 1 av Z.length (ints (Z.map Prod.snd)) ∧ Tim wr1 p b va ps s L ∧ Chg (fun _ => False) w wr1 := by
  refine ⟨h.said.keep hi.chg (fun k hk e => h.said.ne h.want (by decide) k hk e), h.ats.keep hi.chg h.ne, h.tim.keepS hi.chg (h.tim.not_own h.want (by decide)).1 (h.tim.not_own h.want (by decide)).2 (fun k hk e => ?_), h.chg.comp hi.chg (fun k hk e => ?_)⟩
  · have := hva k hk; have := h.fw k e; omega
  · have := h.fw k e; omega
theorem JSt.start (h1 : Own wr1 48 2 tv Z.length (dcs (Z.map Prod.fst))) (h2 : Own wr1 3 1 av Z.length (ints (Z.map Prod.snd))) : JSt wr1 s tl Z tv av 0 Z.length tv av wr1 :=
  ⟨by simpa using h1, rfl, by simpa using h2, fun _ hj => .inl hj, fun _ hj => .inl hj, Chg.refl _ _⟩
theorem JSt.ats3 (h : JSt wr1 s tl Z tv1 av1 i nz tv av wr) (hc3 : Chg (fun k => tv.ownBlock = some k) (wr.alloc o) w3) : Own w3 3 1 av nz (ints (Z.map Prod.snd ++ List.replicate i (s : Int))) :=
  (h.ats.alloc o).keep hc3 fun k hk e => h.ats.ne h.said (by decide) k hk e
theorem JSt.step {d : D} (h : JSt wr1 s tl Z tv1 av1 i nz tv av wr) (hd : tl[i]? = some d)
    (ho3 : Own w3 48 2 tv' (nz + 1) (dcs (Z.map Prod.fst ++ tl.take i) ++ [.int .i64 d.t, .int .i64 d.n])) (hc3 : Chg (fun k => tv.ownBlock = some k) (wr.alloc o) w3) (hb3 : tv'.ownBlock = tv.ownBlock ∨ tv'.ownBlock = some (wr.alloc o).heap.size)
    (ho4 : Own w4 3 1 av' (nz + 1) (ints (Z.map Prod.snd ++ List.replicate i (s : Int)) ++ ints [(s : Int)])) (hc4 : Chg (fun k => av.ownBlock = some k) (w3.alloc o2) w4) (hb4 : av'.ownBlock = av.ownBlock ∨ av'.ownBlock = some (w3.alloc o2).heap.size) :
    JSt wr1 s tl Z tv1 av1 (i + 1) (nz + 1) tv' av' w4 := by
  have s1 : wr.heap.size < (wr.alloc o).heap.size := by simp
  have s2 := hc3.size
  have s3 : w3.heap.size < (w3.alloc o2).heap.size := by simp
  have s0 := h.chg.size
  have h3 := h.ats3 hc3
  refine ⟨?_, by rw [h.hnz]; omega, ?_, fun k hk => ?_, fun k hk => ?_, ?_⟩
  · have := (ho3.alloc o2).keep hc4 fun k hk e => ho3.ne h3 (by decide) k hk e
    rw [take_one hd, ← List.append_assoc, dcs_append]
    exact this
  · rw [List.replicate_succ', ← List.append_assoc, ints_append]
    exact ho4
  · rcases hb3 with e' | e'
    · exact h.ft k (e' ▸ hk)
    · rw [e'] at hk
      injection hk with hk
      right; omega
  · rcases hb4 with e' | e'
    · exact h.fa k (e' ▸ hk)
    · rw [e'] at hk
      injection hk with hk
      right; omega
  · refine (((h.chg.alloc o).comp hc3 (fun k hk e => ?_)).alloc o2).comp hc4 (fun k hk e => ?_)
    · rcases h.ft k e with e' | e'
      · exact .inl e'
      · omega
    · rcases h.fa k e with e' | e'
      · exact .inr e'
      · omega
theorem OSt.next (h : OSt w B p b va ps s k Z W L tv av wv wr0) (hi : ISt wr0 ps s W wv ps.length m W' P wv' pv' wr1) (hB : w.heap.size ≤ B) (hP : w.heap.size ≤ p ∧ w.heap.size ≤ b) (hva : ∀ k, va.ownBlock = some k → k < B) (h8 : ps.length ≤ 8)
    (h1 : told ps s L P = tl) (h2 : left ps s L P = Ln) (ht : Tim w2 p b va ps ((s : Int) + 1) Ln) (hc2 : Chg (fun i => i = p ∨ i = b) wr1 w2) (hj : JSt w2 s tl Z tv av tl.length nz tv' av' w3) {k' : Nat} (hk : k' ≤ k + ps.length) :
    OSt w B p b va ps (s + 1) k' (Z ++ tl.map (fun d => (d, (s : Int)))) W' Ln tv' av' wv' w3 := by
  obtain ⟨m1, m2, m3, m4⟩ := h.mid hi hB hva
  have n1 := m3.besideN m1 (by decide) hc2
  have n2 := m3.besideN m2 (by decide) hc2
  have n3 := m3.besideN hi.want (by decide) hc2
  have s0 := hi.chg.size
  have s1 := hc2.size
  have s2 := hj.chg.size
  have s3 := h.size
  have haw : ∀ j, av.ownBlock = some j → ¬ wv'.ownBlock = some j := by
    intro j hj e
    rcases hi.fw j e with e' | e'
    · exact h.ne j hj e'
    · have := h.ats.lt j hj; omega
  refine ⟨?_, ?_, ?_, fun j hj' e => ?_, fun j hj' => ?_, fun j hj' => ?_, fun j hj' => ?_, ?_, ?_, ?_, ?_, ?_, ?_⟩
  · have := hj.said
    rw [hj.hnz, List.take_length] at this
    simpa [Function.comp_def] using this
  · have := hj.ats
    rw [hj.hnz] at this
    simpa [Function.comp_def, List.map_const'] using this
  · have := n3.keep hj.chg (fun j hj' e => by
      rcases e with e | e
      · exact n3.ne n1 (by decide) j hj' e
      · exact haw j e hj')
    rw [hi.hm] at this
    exact this
  · rcases hj.fa j hj' with e' | e'
    · exact haw j e' e
    · have := n3.lt j e; omega
  · rcases hj.ft j hj' with e' | e'
    · exact h.ft j e'
    · omega
  · rcases hj.fa j hj' with e' | e'
    · exact h.fa j e'
    · omega
  · rcases hi.fw j hj' with e' | e'
    · exact h.fw j e'
    · omega
  · have := ht.keepS hj.chg (fun e => e.elim (m3.not_own m1 (by decide)).1 (m3.not_own m2 (by decide)).1) (fun e => e.elim (m3.not_own m1 (by decide)).2 (m3.not_own m2 (by decide)).2) (fun j hj' e => by
      have h3 := hva j hj'
      rcases e with e | e
      · have := h.ft j e; omega
      · have := h.fa j e; omega)
    rwa [show ((s : Int) + 1) = ((s + 1 : Nat) : Int) by omega] at this
  · have := h.once.step h.tim.neat P
    rw [h1, h2] at this
    rw [show ((s + 1 : Nat) : Int) = (s : Int) + 1 by omega]
    have e := hi.eq
    rw [List.take_length] at e
    rw [e]
    exact this
  · have := h.kb; omega
  · have := h.wl; have := hi.len; omega
  · refine (m4.comp hc2 (fun j hj' e => by rcases e with rfl | rfl <;> omega)).comp hj.chg (fun j hj' e => ?_)
    rcases e with e | e
    · have := h.ft j e; omega
    · have := h.fa j e; omega
  · omega
end
end Go.Proofs.Ytnhnmjdmenehoaa

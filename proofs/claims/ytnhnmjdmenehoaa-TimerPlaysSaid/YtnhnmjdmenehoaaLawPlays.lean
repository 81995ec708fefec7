/-
  For every list of periods and every list of picks, what the timer tells, what waits and the next slot are as the document's timer says, slot by slot: the call of TimerPlays returns true and leaves its arguments as they were.
  No condition.
-/
import Derived.Test.YtnhnmjdmenehoaaPlayw
import Derived.Test.YtnhnmjdmenehoaaTrow
namespace Go.Proofs.Ytnhnmjdmenehoaa
open Go.ChangeShapes Go.WideShapes Go.ChangeAt Go.RowKit Go.Deep

namespace Ply
/-- Rows of ints that came in. -/
theorem row_of_cells {H : Type} {enc : TypeId × Value → H} {W : World} {fuel : Nat} {cs : List Value} {x : DataW H × List MemPlace} (h : DataW.trod enc Try.prog W 0 (fun _ => true) true fuel 22 cs = some x) : ∃ v ps, cs = [v] ∧ PickAt W v ps := by
  have h' := h
  rcases open_ints Try.underlying22 Try.underlying3 (by kernel_rfl) h with ⟨rfl, _⟩ | ⟨a, l, c, zs, rfl, _⟩
  · obtain ⟨ps, _, hp⟩ := ints_of_cells h'
    exact ⟨_, ps, rfl, hp⟩
  · obtain ⟨ps, _, hp⟩ := ints_of_cells h'
    exact ⟨_, ps, rfl, hp⟩
theorem open_rows {H : Type} {enc : TypeId × Value → H} {W : World} {a0 : Option Addr} {len cap : Nat} {d : DataW H} {p : List MemPlace} (h : DataW.Trod enc Try.prog W 0 (fun _ => true) true 23 (.slice a0 len cap) d p) :
    ∃ pk : List (List Int), pk.length = len ∧ PickRows W a0 pk := by
  obtain ⟨fuel, hf⟩ := h
  rcases open_slice Try.underlying23 hf with ⟨hcs, _⟩ | ⟨a, l, c, m, n, D, Pl, hcs, _, hl, hm, hmm, _, hx⟩
  · simp [Value.cells] at hcs
    obtain ⟨rfl, rfl, rfl⟩ := hcs
    exact ⟨[], rfl, by simp, .inl rfl⟩
  · simp [Value.cells] at hcs
    obtain ⟨rfl, rfl, rfl⟩ := hcs
    simp only [if_true] at hmm
    subst hmm
    rw [Try.cells22] at hx
    have hone : ∀ k, k < len → ∃ l : List Int, ∃ v, W.cell? (a.add (k * 1)) = some v ∧ PickAt W v l := by
      intro k hk
      obtain ⟨cs', h1, h2⟩ := hx k (by omega)
      obtain ⟨v, ps, rfl, hp⟩ := row_of_cells h2
      obtain ⟨_, hlen, hat⟩ := World.cells?_some h1
      have h3 := hat 0 (by omega)
      simp only [List.getElem?_cons_zero] at h3
      refine ⟨ps, v, ?_, hp⟩
      rw [add_add] at h3
      simpa using h3
    rcases Nat.eq_zero_or_pos len with h0 | h0
    · exact ⟨[], h0.symm, by simp, .inl rfl⟩
    have hspot : a.spot = none := by
      obtain ⟨l, v, hv, _⟩ := hone 0 h0
      simpa [Addr.add] using World.cell?_spot hv
    obtain ⟨b, off, spot⟩ := a
    simp only at hspot
    subst hspot
    obtain ⟨f, hfun⟩ := Classical.axiomOfChoice (fun k : Fin len => hone k.1 k.2)
    refine ⟨List.ofFn f, by simp, by simp; omega, .inr ⟨b, off, rfl, fun k l hk => ?_⟩⟩
    obtain ⟨hk1, hk2⟩ := List.getElem?_eq_some_iff.1 hk
    have hkl : k < len := by simpa using hk1
    obtain ⟨v, hv, hp⟩ := hfun ⟨k, hkl⟩
    rw [Addr.add_lit, Nat.mul_one] at hv
    refine ⟨v, hv, ?_⟩
    have : f ⟨k, hkl⟩ = l := by rw [← hk2]; simp
    rwa [← this]

set_option maxRecDepth 100000 in
theorem lifted (os : Os) (started : os.Started) (H : Type) (enc : TypeId × Value → H) :
    ReturnsInHanded {} Try.checked os 3 .any (Rows.timerPlaysSpec.pre6 enc Try.prog Try.f3 Rows.timerPlaysRow.domain false) (Rows.timerPlaysSpec.post enc Try.prog Try.f3 false true false false) := by
  refine returnsInHanded_of_change (C := Try.checked) Try.own started (by kernel_rfl) Try.func3
    (ChangeSpec.witness6 (enc := enc) (C := Try.checked) false ⟨#[], #[.slice none 0 0, .slice none 0 0], []⟩ 8 (by kernel_rfl) (by kernel_rfl) (by kernel_rfl) (by kernel_rfl)) ?_
  intro W base args ds gs before hval0 hW hcnd _
  have hval : ∀ (j : Nat) t v, Try.f3.params[j]? = some t → args[j]? = some v → Value.okWide Try.prog W .any base t v := hval0
  have hW' := hW
  obtain ⟨p, q, hA0, hV, rfl, hfz, hnd⟩ := hW
  have hA : DataW.TrodAll enc Try.prog W 0 (fun _ => true) true Try.f3.params.toList args.toList ds p := hA0
  rw [Try.params3] at hA hval
  obtain ⟨v0, vs0, d0, ds0, p0, q0, hargs, rfl, rfl, h0, r0⟩ := trodAll_cons hA
  obtain ⟨v1, vs1, d1, ds1, p1, q1, rfl, rfl, rfl, h1, r1⟩ := trodAll_cons r0
  obtain ⟨rfl, rfl, rfl⟩ := trodAll_nil r1
  obtain rfl : args = #[v0, v1] := by cases args; simp_all
  obtain ⟨rfl, rfl⟩ := trodVars_none hV
  obtain ⟨a0, len0, cap0, rfl⟩ := okWide_slice Try.underlying22 (hval 0 22 v0 rfl rfl)
  obtain ⟨a1, len1, cap1, rfl⟩ := okWide_slice Try.underlying23 (hval 1 23 v1 rfl rfl)
  have k0 := h0
  have k1 := h1
  have lt0 : ∀ x ∈ p0, x.block < W.heap.size := by obtain ⟨m, hm⟩ := k0; exact DataW.trod_lt m _ _ _ hm
  have lt1 : ∀ x ∈ p1, x.block < W.heap.size := by obtain ⟨m, hm⟩ := k1; exact DataW.trod_lt m _ _ _ hm
  clear hA0 hval0
  obtain ⟨ps, rfl, hp⟩ := open_introw h0
  obtain ⟨pk, rfl, hq⟩ := open_rows h1
  refine (plays_calls W a0 cap0 ps a1 cap1 pk hp.reads hq).mono fun e W' ⟨he, hc⟩ => ?_
  have bel := hc.none_below
  subst he
  exact ⟨_, rfl, _, _, _, [], _, [], hW', trodAll_mk1 (shut_bool Try.underlying4 _), (trodAll_cons_mk (Below.trod Try.laidOut (by kernel_rfl) (of_decide_eq_true (by kernel_rfl)) k0 bel lt0) (trodAll_cons_mk (Below.trod Try.laidOut (by kernel_rfl) (of_decide_eq_true (by kernel_rfl)) k1 bel lt1) trodAll_mk0)), rfl, bel.frame _, fun h => by cases h⟩

theorem over : Rows.timerPlaysRow.holds Try.pinned (OpenSpec.ofChange Rows.timerPlaysSpec) :=
  OpenClaim.holds_of_wide 3 Try.f3 rfl rfl rfl rfl rfl rfl rfl ⟨rfl, rfl, rfl, rfl, rfl⟩ rfl rfl rfl rfl rfl (by kernel_rfl) Try.func3 (by kernel_rfl)
    (of_decide_eq_true (by kernel_rfl)) (by unfold Func.isWrapper; first | (rw [if_pos (by decide +kernel)]; kernel_rfl) | (rw [if_neg (by decide +kernel)]; exact ⟨rfl, rfl⟩))
    (fun os started H enc _ => lifted os started H enc)
end Ply

theorem TimerPlays_holds : Rows.TimerPlaysSaid := Ply.over
#print axioms TimerPlays_holds
end Go.Proofs.Ytnhnmjdmenehoaa

/-
  For every list of jobs and every list of picks, all jobs that were put are taken, each once, those of greater priority first, with the pick 0 those of the same priority as they came, and then there is none: the call of ReadyOrders returns true and leaves its arguments as they were.
  No condition.
-/
import Derived.Test.YtocbahciffickaaOrders
import Derived.WalkKit
import Derived.ProofKit
import Derived.OpenShut
import Derived.ShutString
import Derived.ChangeOld
import Derived.Below
import Derived.Deep.Slices
namespace Go.Proofs.Ytocbahciffickaa
open Go.ChangeShapes Go.WideShapes Go.ChangeAt Go.RowKit Go.Deep

namespace Ord
theorem own : ownKnob Try.prog.godebug = none := by kernel_rfl
theorem laidOut : laidOutB Try.prog = true := by kernel_rfl
theorem cells30 : Try.prog.cellsOf 30 = 3 := by kernel_rfl
theorem cells3 : Try.prog.cellsOf 3 = 1 := by kernel_rfl

/-- A job's three cells read. -/
theorem open_job {H : Type} {enc : TypeId × Value → H} {w : World} {base : Nat} {spare : Nat → Bool} {held : Bool} {fuel : Nat} {cs : List Value} {x : DataW H × List MemPlace} (h : DataW.trod enc Try.prog w base spare held fuel 30 cs = some x) : ∃ j : J, cs = jc j := by
  obtain ⟨xs, n, _, _, hlen, _, hf⟩ := DataW.trod_struct Try.underlying30 h
  rw [cells30] at hlen
  match cs, hlen with
  | [c0, c1, c2], _ =>
    have h0 : DataW.trod enc Try.prog w base spare held n 3 (([c0, c1, c2].drop 0).take (Try.prog.cellsOf 3)) = xs[0]? := hf 0 _ rfl
    have h1 : DataW.trod enc Try.prog w base spare held n 3 (([c0, c1, c2].drop 1).take (Try.prog.cellsOf 3)) = xs[1]? := hf 1 _ rfl
    have h2 : DataW.trod enc Try.prog w base spare held n 3 (([c0, c1, c2].drop 2).take (Try.prog.cellsOf 3)) = xs[2]? := hf 2 _ rfl
    rw [cells3] at h0 h1 h2
    have hx : xs.length = 3 := by assumption
    match xs, hx with
    | [x0, x1, x2], _ =>
      obtain ⟨n0, e0, _⟩ := DataW.trod_int Try.underlying3 (h0.trans rfl)
      obtain ⟨n1, e1, _⟩ := DataW.trod_int Try.underlying3 (h1.trans rfl)
      obtain ⟨n2, e2, _⟩ := DataW.trod_int Try.underlying3 (h2.trans rfl)
      simp at e0 e1 e2
      exact ⟨⟨n0, n1, n2⟩, by simp [jc, e0, e1, e2]⟩

/-- A list of jobs that came in. -/
theorem open_jobs {H : Type} {enc : TypeId × Value → H} (W : World) (a0 : Option Addr) (len cap : Nat) {d : DataW H} {p : List MemPlace} (h : DataW.Trod enc Try.prog W 0 (fun _ => true) true 44 (.slice a0 len cap) d p) :
    ∃ b off, (len = 0 ∨ a0 = some ⟨b, off, none⟩) ∧ len ≤ maxLen ∧ ∀ c, c < len → ∃ j, JobIn W b off c j := by
  obtain ⟨fuel, hf⟩ := h
  rcases open_slice Try.underlying44 hf with ⟨hcs, _⟩ | ⟨a, l, c, m, n, D, Pl, hcs, _, hl, hm, hmm, _, hx⟩
  · simp [Value.cells] at hcs
    exact ⟨0, 0, .inl hcs.2.1, by omega, fun c hc => by omega⟩
  · simp [Value.cells] at hcs
    obtain ⟨rfl, rfl, rfl⟩ := hcs
    simp only [if_true] at hmm
    subst hmm
    rw [cells30] at hx
    rcases Nat.eq_zero_or_pos len with h0 | h0
    · exact ⟨0, 0, .inl h0, by omega, fun c hc => by omega⟩
    have hspot : a.spot = none := by
      obtain ⟨cs', h1, h2⟩ := hx 0 (by omega)
      obtain ⟨_, hlen, hat⟩ := World.cells?_some h1
      have h3 := hat 0 (by omega)
      obtain ⟨o, ho⟩ := open_job h2
      subst ho
      simp only [Nat.zero_mul, jc, List.getElem?_cons_zero] at h3
      simpa [Addr.add] using World.cell?_spot h3
    obtain ⟨b, off, spot⟩ := a
    simp only at hspot
    subst hspot
    refine ⟨b, off, .inr rfl, by omega, fun k hk => ?_⟩
    obtain ⟨cs', h1, h2⟩ := hx k (by omega)
    obtain ⟨_, hlen, hat⟩ := World.cells?_some h1
    obtain ⟨o, ho⟩ := open_job h2
    subst ho
    have hadd : ∀ i, ((⟨b, off, none⟩ : Addr).add (k * 3)).add i = ⟨b, off + k * 3 + i, none⟩ := by
      intro i
      rw [add_add, Addr.add_lit, Nat.add_assoc]
    have hg := fun i (hi : i < 3) => hat i hi
    simp only [hadd] at hg
    exact ⟨o, hg 0 (by omega), hg 1 (by omega), hg 2 (by omega)⟩

/-- A list of bytes that came in. -/
theorem open_picks {H : Type} {enc : TypeId × Value → H} (W : World) (a0 : Option Addr) (len cap : Nat) {d : DataW H} {p : List MemPlace} (h : DataW.Trod enc Try.prog W 0 (fun _ => true) true 49 (.slice a0 len cap) d p) :
    ∃ b off, (len = 0 ∨ a0 = some ⟨b, off, none⟩) ∧ len ≤ maxLen ∧ ∀ c, c < len → ∃ x : Int, 0 ≤ x ∧ x ≤ 255 ∧ W.cell? ⟨b, off + c, none⟩ = some (.int .u8 x) := by
  obtain ⟨fuel, hf⟩ := h
  rcases open_ints Try.underlying49 Try.underlying5 (by kernel_rfl) hf with ⟨hcs, _⟩ | ⟨a, l, c, zs, hcs, _, hl, hm, hz, _, hcell, hwz⟩
  · simp [Value.cells] at hcs
    exact ⟨0, 0, .inl hcs.2.1, by omega, fun c hc => by omega⟩
  · simp [Value.cells] at hcs
    obtain ⟨rfl, rfl, rfl⟩ := hcs
    simp only [if_true] at hz
    rcases Nat.eq_zero_or_pos len with h0 | h0
    · exact ⟨0, 0, .inl h0, by omega, fun c hc => by omega⟩
    have hspot : a.spot = none := by
      have hc := hcell 0 (by omega)
      simpa [Addr.add] using World.cell?_spot hc
    obtain ⟨b, off, spot⟩ := a
    simp only at hspot
    subst hspot
    refine ⟨b, off, .inr rfl, by omega, fun k hk => ?_⟩
    have hc := hcell k (by omega)
    rw [Addr.add_lit] at hc
    have hr := range_u8 hwz k
    refine ⟨zs.getD k 0, ?_, ?_, hc⟩
    · rw [List.getD_eq_getElem?_getD]; exact hr.1
    · rw [List.getD_eq_getElem?_getD]; exact hr.2

theorem walk {H : Type} {enc : TypeId × Value → H} (W : World) (a0 a1 : Option Addr) (len cap len2 cap2 : Nat) {d d2 : DataW H} {p p2 : List MemPlace} (h : DataW.Trod enc Try.prog W 0 (fun _ => true) true 44 (.slice a0 len cap) d p)
    (h2 : DataW.Trod enc Try.prog W 0 (fun _ => true) true 49 (.slice a1 len2 cap2) d2 p2) :
    Calls Try.prog 4 #[.slice a0 len cap, .slice a1 len2 cap2] W fun e w' => e = .returned (.bool true) ∧ Below W.heap.size W w' := by
  obtain ⟨b, off, hA, hm, hj⟩ := open_jobs W a0 len cap h
  obtain ⟨b2, off2, hA2, hm2, hp⟩ := open_picks W a1 len2 cap2 h2
  simp only [maxLen] at hm hm2
  have hc : Calls Try.prog 4 #[.slice a0 len cap, .slice a1 len2 cap2] W (OnlyBool true W) := by
    by_cases h60 : len ≤ 60
    · exact orders_walk W a0 a1 b off len cap b2 off2 len2 cap2 h60 (by omega) hA hA2 hj hp
    · exact orders_long W a0 a1 len cap len2 cap2 (by omega) (by omega)
  exact hc.mono fun e w' ⟨he, hw⟩ => ⟨he, hw.none_below⟩

set_option maxRecDepth 100000 in
theorem lifted (os : Os) (started : os.Started) (H : Type) (enc : TypeId × Value → H) :
    ReturnsInHanded {} Try.checked os 4 .any (Rows.readyOrdersSpec.pre6 enc Try.prog Try.f4 Rows.readyOrdersRow.domain false) (Rows.readyOrdersSpec.post enc Try.prog Try.f4 false true false false) := by
  refine returnsInHanded_of_change (C := Try.checked) own started (by kernel_rfl) Try.func4
    (ChangeSpec.witness6 (enc := enc) (C := Try.checked) false ⟨#[], #[.slice none 0 0, .slice none 0 0], []⟩ 8 (by kernel_rfl) (by kernel_rfl) (by kernel_rfl) (by kernel_rfl)) ?_
  intro W base args ds gs before hval0 hW hcnd _
  have hval : ∀ (j : Nat) t v, Try.f4.params[j]? = some t → args[j]? = some v → Value.okWide Try.prog W .any base t v := hval0
  have hW' := hW
  obtain ⟨p, q, hA0, hV, rfl, hfz, hnd⟩ := hW
  have hA : DataW.TrodAll enc Try.prog W 0 (fun _ => true) true Try.f4.params.toList args.toList ds p := hA0
  rw [Try.params4] at hA hval
  obtain ⟨v0, vs0, d0, ds0, p0, q0, hargs, rfl, rfl, h0, r0⟩ := trodAll_cons hA
  obtain ⟨v1, vs1, d1, ds1, p1, q1, rfl, rfl, rfl, h1, r1⟩ := trodAll_cons r0
  obtain ⟨rfl, rfl, rfl⟩ := trodAll_nil r1
  obtain rfl : args = #[v0, v1] := by cases args; simp_all
  obtain ⟨rfl, rfl⟩ := trodVars_none hV
  obtain ⟨a0, len0, cap0, rfl⟩ := okWide_slice Try.underlying44 (hval 0 44 v0 rfl rfl)
  obtain ⟨a1, len1, cap1, rfl⟩ := okWide_slice Try.underlying49 (hval 1 49 v1 rfl rfl)
  have k0 := h0
  have k1 := h1
  have lt0 : ∀ x ∈ p0, x.block < W.heap.size := by obtain ⟨m, hm⟩ := k0; exact DataW.trod_lt m _ _ _ hm
  have lt1 : ∀ x ∈ p1, x.block < W.heap.size := by obtain ⟨m, hm⟩ := k1; exact DataW.trod_lt m _ _ _ hm
  clear hA0 hval0
  refine (walk W a0 a1 len0 cap0 len1 cap1 h0 h1).mono fun e W' ⟨he, bel⟩ => ?_
  subst he
  exact ⟨_, rfl, _, _, _, [], _, [], hW', trodAll_mk1 (shut_bool Try.underlying4 _), (trodAll_cons_mk (Below.trod laidOut (by kernel_rfl) (of_decide_eq_true (by kernel_rfl)) k0 bel lt0) (trodAll_cons_mk (Below.trod laidOut (by kernel_rfl) (of_decide_eq_true (by kernel_rfl)) k1 bel lt1) trodAll_mk0)), rfl, bel.frame _, fun h => by cases h⟩

theorem over : Rows.readyOrdersRow.holds Try.pinned (OpenSpec.ofChange Rows.readyOrdersSpec) :=
  OpenClaim.holds_of_wide 4 Try.f4 rfl rfl rfl rfl rfl rfl rfl ⟨rfl, rfl, rfl, rfl, rfl⟩ rfl rfl rfl rfl rfl (by kernel_rfl) Try.func4 (by kernel_rfl)
    (of_decide_eq_true (by kernel_rfl)) (by unfold Func.isWrapper; first | (rw [if_pos (by decide +kernel)]; kernel_rfl) | (rw [if_neg (by decide +kernel)]; exact ⟨rfl, rfl⟩))
    (fun os started H enc _ => lifted os started H enc)
end Ord

theorem ReadyOrders_holds : Rows.ReadyOrdersSaid := Ord.over
#print axioms ReadyOrders_holds
end Go.Proofs.Ytocbahciffickaa

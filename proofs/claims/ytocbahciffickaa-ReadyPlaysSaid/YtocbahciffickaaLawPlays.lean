/-
  For every script, whatever is put into the set, taken out of it and copied, what is told and what is there is as the document's reference says: the call of ReadyPlays returns true and leaves its argument as it was.
  No condition.
-/
import Derived.Test.YtocbahciffickaaPlays
import Derived.WalkKit
import Derived.ProofKit
import Derived.OpenShut
import Derived.ShutString
import Derived.ChangeOld
import Derived.Below
import Derived.Deep.Slices
namespace Go.Proofs.Ytocbahciffickaa
open Go.ChangeShapes Go.WideShapes Go.ChangeAt Go.RowKit Go.Deep

theorem Try.own : ownKnob Try.prog.godebug = none := by kernel_rfl
theorem Try.laidOut : laidOutB Try.prog = true := by kernel_rfl
theorem Try.cells32 : Try.prog.cellsOf 32 = 6 := by kernel_rfl
theorem Try.cells30 : Try.prog.cellsOf 30 = 3 := by kernel_rfl
theorem Try.cells3 : Try.prog.cellsOf 3 = 1 := by kernel_rfl

section
variable {H : Type} {enc : TypeId × Value → H} {w : World} {base : Nat} {spare : Nat → Bool} {held : Bool}
/-- A job's three cells read. -/
theorem open_job {fuel : Nat} {cs : List Value} {x : DataW H × List MemPlace} (h : DataW.trod enc Try.prog w base spare held fuel 30 cs = some x) : ∃ j : J, cs = jc j := by
  obtain ⟨xs, n, _, _, hlen, _, hf⟩ := DataW.trod_struct Try.underlying30 h
  rw [Try.cells30] at hlen
  match cs, hlen with
  | [c0, c1, c2], _ =>
    have h0 : DataW.trod enc Try.prog w base spare held n 3 (([c0, c1, c2].drop 0).take (Try.prog.cellsOf 3)) = xs[0]? := hf 0 _ rfl
    have h1 : DataW.trod enc Try.prog w base spare held n 3 (([c0, c1, c2].drop 1).take (Try.prog.cellsOf 3)) = xs[1]? := hf 1 _ rfl
    have h2 : DataW.trod enc Try.prog w base spare held n 3 (([c0, c1, c2].drop 2).take (Try.prog.cellsOf 3)) = xs[2]? := hf 2 _ rfl
    rw [Try.cells3] at h0 h1 h2
    have hx : xs.length = 3 := by assumption
    match xs, hx with
    | [x0, x1, x2], _ =>
      obtain ⟨n0, e0, _⟩ := DataW.trod_int Try.underlying3 (h0.trans rfl)
      obtain ⟨n1, e1, _⟩ := DataW.trod_int Try.underlying3 (h1.trans rfl)
      obtain ⟨n2, e2, _⟩ := DataW.trod_int Try.underlying3 (h2.trans rfl)
      simp at e0 e1 e2
      exact ⟨⟨n0, n1, n2⟩, by simp [jc, e0, e1, e2]⟩
/-- A call's six cells read. -/
theorem open_op {fuel : Nat} {cs : List Value} {x : DataW H × List MemPlace} (h : DataW.trod enc Try.prog w base spare held fuel 32 cs = some x) : ∃ o : O, cs = [.int .i64 o.kind, .int .i64 o.j.t, .int .i64 o.j.p, .int .i64 o.j.n, .int .i64 o.a, .int .i64 o.b] := by
  obtain ⟨xs, n, _, _, hlen, _, hf⟩ := DataW.trod_struct Try.underlying32 h
  rw [Try.cells32] at hlen
  match cs, hlen with
  | [c0, c1, c2, c3, c4, c5], _ =>
    have h0 : DataW.trod enc Try.prog w base spare held n 3 (([c0, c1, c2, c3, c4, c5].drop 0).take (Try.prog.cellsOf 3)) = xs[0]? := hf 0 _ rfl
    have h1 : DataW.trod enc Try.prog w base spare held n 30 (([c0, c1, c2, c3, c4, c5].drop 1).take (Try.prog.cellsOf 30)) = xs[1]? := hf 1 _ rfl
    have h2 : DataW.trod enc Try.prog w base spare held n 3 (([c0, c1, c2, c3, c4, c5].drop 4).take (Try.prog.cellsOf 3)) = xs[2]? := hf 2 _ rfl
    have h3 : DataW.trod enc Try.prog w base spare held n 3 (([c0, c1, c2, c3, c4, c5].drop 5).take (Try.prog.cellsOf 3)) = xs[3]? := hf 3 _ rfl
    rw [Try.cells3] at h0 h2 h3
    rw [Try.cells30] at h1
    have hx : xs.length = 4 := by assumption
    match xs, hx with
    | [x0, x1, x2, x3], _ =>
      obtain ⟨n0, e0, _⟩ := DataW.trod_int Try.underlying3 (h0.trans rfl)
      obtain ⟨j, e1⟩ := open_job (h1.trans rfl)
      obtain ⟨n2, e2, _⟩ := DataW.trod_int Try.underlying3 (h2.trans rfl)
      obtain ⟨n3, e3, _⟩ := DataW.trod_int Try.underlying3 (h3.trans rfl)
      simp [jc] at e0 e1 e2 e3
      obtain ⟨e1, e4, e5⟩ := e1
      exact ⟨⟨n0, j, n2, n3⟩, by simp [e0, e1, e2, e3, e4, e5]⟩
end

theorem plays_walk {H : Type} {enc : TypeId × Value → H} (W : World) (a0 : Option Addr) (len cap : Nat) {d : DataW H} {p : List MemPlace} (h : DataW.Trod enc Try.prog W 0 (fun _ => true) true 22 (.slice a0 len cap) d p) :
    Calls Try.prog 3 #[.slice a0 len cap] W fun e w' => e = .returned (.bool true) ∧ Below W.heap.size W w' := by
  have fin : ∀ n, n = len → Calls Try.prog 3 #[.slice a0 n cap] W (OnlyBool true W) → Calls Try.prog 3 #[.slice a0 len cap] W fun e w' => e = .returned (.bool true) ∧ Below W.heap.size W w' := by
    rintro n rfl hc
    exact hc.mono fun e w' ⟨he, hw⟩ => ⟨he, hw.none_below⟩
  by_cases h0 : len = 0
  · subst h0
    exact fin 0 rfl (plays_nil W a0 cap)
  · obtain ⟨fuel, hf⟩ := h
    rcases open_slice Try.underlying22 hf with ⟨hcs, _⟩ | ⟨a, l, c, m, n, D, Pl, hcs, _, hl, hm, hmm, _, hx⟩
    · simp [Value.cells] at hcs
      omega
    · simp [Value.cells] at hcs
      obtain ⟨rfl, rfl, rfl⟩ := hcs
      simp only [if_true] at hmm
      subst hmm
      rw [Try.cells32] at hx
      have hspot : a.spot = none := by
        obtain ⟨cs', h1, h2⟩ := hx 0 (by omega)
        obtain ⟨_, hlen, hat⟩ := World.cells?_some h1
        have h3 := hat 0 (by omega)
        obtain ⟨o, ho⟩ := open_op h2
        subst ho
        simp only [Nat.zero_mul, List.getElem?_cons_zero] at h3
        simpa [Addr.add] using World.cell?_spot h3
      obtain ⟨b, off, spot⟩ := a
      simp only at hspot
      subst hspot
      refine fin _ rfl (plays_some W b off _ _ (by simp only [maxLen] at hm; omega) fun k hk => ?_)
      obtain ⟨cs', h1, h2⟩ := hx k (by omega)
      obtain ⟨_, hlen, hat⟩ := World.cells?_some h1
      obtain ⟨o, ho⟩ := open_op h2
      subst ho
      have hadd : ∀ i, ((⟨b, off, none⟩ : Addr).add (k * 6)).add i = ⟨b, off + k * 6 + i, none⟩ := by
        intro i
        rw [add_add, Addr.add_lit, Nat.add_assoc]
      have hg := fun i (hi : i < 6) => hat i hi
      simp only [hadd] at hg
      exact ⟨o, hg 0 (by omega), hg 1 (by omega), hg 2 (by omega), hg 3 (by omega), hg 4 (by omega), hg 5 (by omega)⟩

set_option maxRecDepth 100000 in
theorem plays_lifted (os : Os) (started : os.Started) (H : Type) (enc : TypeId × Value → H) :
    ReturnsInHanded {} Try.checked os 3 .any (Rows.readyPlaysSpec.pre6 enc Try.prog Try.f3 Rows.readyPlaysRow.domain false) (Rows.readyPlaysSpec.post enc Try.prog Try.f3 false true false false) := by
  refine returnsInHanded_of_change (C := Try.checked) Try.own started (by kernel_rfl) Try.func3
    (ChangeSpec.witness6 (enc := enc) (C := Try.checked) false ⟨#[], #[.slice none 0 0], []⟩ 8 (by kernel_rfl) (by kernel_rfl) (by kernel_rfl) (by kernel_rfl)) ?_
  intro W base args ds gs before hval0 hW hcnd _
  have hval : ∀ (j : Nat) t v, Try.f3.params[j]? = some t → args[j]? = some v → Value.okWide Try.prog W .any base t v := hval0
  have hW' := hW
  obtain ⟨p, q, hA0, hV, rfl, hfz, hnd⟩ := hW
  have hA : DataW.TrodAll enc Try.prog W 0 (fun _ => true) true Try.f3.params.toList args.toList ds p := hA0
  rw [Try.params3] at hA hval
  obtain ⟨v0, vs0, d0, ds0, p0, q0, hargs, rfl, rfl, h0, r0⟩ := trodAll_cons hA
  obtain ⟨rfl, rfl, rfl⟩ := trodAll_nil r0
  obtain rfl : args = #[v0] := by cases args; simp_all
  obtain ⟨rfl, rfl⟩ := trodVars_none hV
  obtain ⟨a0, len0, cap0, rfl⟩ := okWide_slice Try.underlying22 (hval 0 22 v0 rfl rfl)
  have k0 := h0
  have lt0 : ∀ x ∈ p0, x.block < W.heap.size := by obtain ⟨m, hm⟩ := k0; exact DataW.trod_lt m _ _ _ hm
  clear hA0 hval0
  refine (plays_walk W a0 len0 cap0 h0).mono fun e W' ⟨he, bel⟩ => ?_
  subst he
  exact ⟨_, rfl, _, _, _, [], _, [], hW', trodAll_mk1 (shut_bool Try.underlying4 _), (trodAll_cons_mk (Below.trod Try.laidOut (by kernel_rfl) (of_decide_eq_true (by kernel_rfl)) k0 bel lt0) trodAll_mk0), rfl, bel.frame _, fun h => by cases h⟩

theorem plays_over : Rows.readyPlaysRow.holds Try.pinned (OpenSpec.ofChange Rows.readyPlaysSpec) :=
  OpenClaim.holds_of_wide 3 Try.f3 rfl rfl rfl rfl rfl rfl rfl ⟨rfl, rfl, rfl, rfl, rfl⟩ rfl rfl rfl rfl rfl (by kernel_rfl) Try.func3 (by kernel_rfl)
    (of_decide_eq_true (by kernel_rfl)) (by unfold Func.isWrapper; first | (rw [if_pos (by decide +kernel)]; kernel_rfl) | (rw [if_neg (by decide +kernel)]; exact ⟨rfl, rfl⟩))
    (fun os started H enc _ => plays_lifted os started H enc)

theorem ReadyPlays_holds : Rows.ReadyPlaysSaid := plays_over
#print axioms ReadyPlays_holds
end Go.Proofs.Ytocbahciffickaa

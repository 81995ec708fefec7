import Derived.Test.YtnhnmjdmenehoaaTknw
import Derived.WalkKit
import Derived.ProofKit
import Derived.OpenShut
import Derived.ShutString
import Derived.ChangeOld
import Derived.Below
import Derived.Deep.Slices
namespace Go.Proofs.Ytnhnmjdmenehoaa
open Go.ChangeShapes Go.WideShapes Go.ChangeAt Go.RowKit Go.Deep

theorem Try.own : ownKnob Try.prog.godebug = none := by kernel_rfl
theorem Try.laidOut : laidOutB Try.prog = true := by kernel_rfl
theorem Try.cells22 : Try.prog.cellsOf 22 = 1 := by kernel_rfl

/-- A list of ints that came in, out of its cells. -/
theorem ints_of_cells {H : Type} {enc : TypeId × Value → H} {W : World} {fuel : Nat} {a0 : Option Addr} {len cap : Nat} {x : DataW H × List MemPlace} (h : DataW.trod enc Try.prog W 0 (fun _ => true) true fuel 22 [.slice a0 len cap] = some x) :
    ∃ ps : List Int, ps.length = len ∧ PickAt W (.slice a0 len cap) ps := by
  rcases open_ints Try.underlying22 Try.underlying3 (by kernel_rfl) h with ⟨hcs, _⟩ | ⟨a, l, c, zs, hcs, _, hl, hm, hz, _, hcell, _⟩
  · simp at hcs
    obtain ⟨rfl, rfl, rfl⟩ := hcs
    exact ⟨[], rfl, pick_nil W⟩
  · simp at hcs
    obtain ⟨rfl, rfl, rfl⟩ := hcs
    simp only [if_true] at hz
    have hlen : (zs.take len).length = len := by rw [List.length_take]; omega
    refine ⟨zs.take len, hlen, some a, cap, by rw [hlen], by omega, hm, by omega, ?_⟩
    rcases Nat.eq_zero_or_pos len with h0 | h0
    · exact .inl (by rw [h0]; rfl)
    have hspot : a.spot = none := by
      have hc := hcell 0 (by omega)
      simpa [Addr.add] using World.cell?_spot hc
    obtain ⟨b, off, spot⟩ := a
    simp only at hspot
    subst hspot
    refine .inr ⟨b, off, rfl, fun k x hx => ?_⟩
    have hk : k < len := by have := (List.getElem?_eq_some_iff.1 hx).1; omega
    have hc := hcell k (by omega)
    rw [Addr.add_lit] at hc
    rw [hc]
    rw [List.getElem?_take_of_lt hk] at hx
    rw [List.getD_eq_getElem?_getD, hx]
    rfl
theorem open_introw {H : Type} {enc : TypeId × Value → H} {W : World} {a0 : Option Addr} {len cap : Nat} {d : DataW H} {p : List MemPlace} (h : DataW.Trod enc Try.prog W 0 (fun _ => true) true 22 (.slice a0 len cap) d p) :
    ∃ ps : List Int, ps.length = len ∧ PickAt W (.slice a0 len cap) ps := by
  obtain ⟨fuel, hf⟩ := h
  exact ints_of_cells (by simpa [Value.cells] using hf)
theorem PickAt.reads {W : World} {A : Option Addr} {n c : Nat} {ps : List Int} (h : PickAt W (.slice A n c) ps) : Reads W A ps := by
  obtain ⟨A', c', he, _, _, hr⟩ := h
  injection he with h1 _ _
  rw [h1]
  exact hr
/-- A byte that came in. -/
theorem open_byte {H : Type} {enc : TypeId × Value → H} {W : World} {n : Int} {d : DataW H} {p : List MemPlace} (h : DataW.Trod enc Try.prog W 0 (fun _ => true) true 5 (.int .u8 n) d p) : 0 ≤ n ∧ n ≤ 255 := by
  obtain ⟨fuel, hf⟩ := h
  obtain ⟨m, hm, _, hw⟩ := DataW.trod_int Try.underlying5 hf
  simp [Value.cells] at hm
  subst hm
  exact bounds_u8 hw
end Go.Proofs.Ytnhnmjdmenehoaa

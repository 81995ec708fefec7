import Derived.Test.YtocbahciffickaaPut
namespace Go.Proofs.Ytocbahciffickaa
open Go.RowKit

theorem Own.news {w : World} {e : TypeId} {size n c : Nat} {A : Option Addr} {xs : List Value} (h : Own w e size (.slice A n c) n xs) :
    0 < n → ∃ ad, A = some ad ∧ ∀ j u, xs[j]? = some u → w.cell? (ad.add j) = some u := by
  intro hn
  obtain ⟨g, cap, hv, _⟩ := h.form hn
  injection hv with h1 _ h3
  subst h1; subst h3
  refine ⟨_, rfl, fun j u hu => ?_⟩
  have hj : j < n * size := by have := (List.getElem?_eq_some_iff.1 hu).1; rw [h.1] at this; exact this
  have hadd : (⟨g, 0, none⟩ : Addr).add j = ⟨g, j, none⟩ := by unfold Addr.add; split <;> simp_all
  rw [hadd, h.cell j hj, hu]

theorem new_calls (w : World) :
    Calls Try.prog 5 #[] w (fun e w' => e = .returned (.pointer (some ⟨w.heap.size, 0, none⟩)) ∧ w.alloc (.cells #[.slice none 0 0] 53) = w') := by
  go_enter Try.func5, Try.ntmps5
  go_wp2
  go_ret
  exact ⟨rfl, rfl⟩
theorem set_new (T E : TypeId) (w : World) : SetAt T E (w.alloc (.cells #[.slice none 0 0] T)) w.heap.size (.slice none 0 0) [] :=
  ⟨heap_alloc_new w _, Own.nil _ _ _⟩

/-- What a call answers that makes memory alone. -/
def Makes (v : Value) (w : World) (e : Ending) (w' : World) : Prop := e = .returned v ∧ Chg (fun _ => False) w w'

theorem one_calls (w : World) (j : J) : Calls Try.prog 8 #[jv j] w (Makes (jv j) w) := by
  unfold jv
  go_enter Try.func8, Try.ntmps8
  go_wp2
  refine bodyPost_ret (v := .agg #[.int .i64 j.t, .int .i64 j.p, .int .i64 j.n]) (by simp [results, Try.results8, go_sem]) rfl ⟨rfl, ?_⟩
  exact ((Chg.refl _ w).alloc _).alloc _

/-- A new slice of the jobs xs. -/
def NewJobs (E : TypeId) (w : World) (xs : List J) (e : Ending) (w' : World) : Prop :=
  ∃ A c, e = .returned (.slice A xs.length c) ∧ Own w' E 3 (.slice A xs.length c) xs.length (jcs xs) ∧ Chg (fun _ => False) w w' ∧ ∀ k, (Value.slice A xs.length c).ownBlock = some k → w.heap.size ≤ k

set_option maxHeartbeats 400000 in
theorem all_calls (w : World) (p : Nat) (v : Value) (xs : List J) (h : SetAt 53 30 w p v xs) (hl : xs.length ≤ 10000) :
    Calls Try.prog 14 #[.pointer (some ⟨p, 0, none⟩)] w (NewJobs 30 w xs) := by
  obtain ⟨A, c, hv⟩ := h.slice
  subst hv
  have hc := h.cell
  have hlt := h.lt
  have H := Lib.hid h
  clear h
  go_enter Try.func14, Try.ntmps14
  go_wp2_with (at_builtin; refine wpList_append_Own rfl (.const (.slice none 0 0)) (.tmp 8) 44 rfl 30 _ 3 24 Try.underlying44 Try.info30 rfl (by decide) (.slice none 0 0) 0 [] rfl (Own.nil _ _ _) A xs.length c (jcs xs) rfl (jcs_length xs) H.out.2.news (jcs_one' xs) (by omega) (by omega) ?_)
  intro v' w' ho hchg hbl hf
  obtain ⟨A', c', rfl⟩ := ho.slice
  have Ho := Lib.hid ho
  have Hc := Lib.hid hchg
  have Hbl := Lib.hid hbl
  clear ho hchg hbl hf
  go_wp2
  go_ret
  refine ⟨A', c', rfl, Ho.out, Hc.out.mono (by simp [Value.ownBlock]), ?_⟩
  intro k hk
  rcases Hbl.out with hb | hb
  · rw [hb] at hk; simp [Value.ownBlock] at hk
  · rw [hb] at hk; injection hk with hk; omega

def NewSet (w : World) (xs : List J) (e : Ending) (w' : World) : Prop :=
  ∃ p v, e = .returned (.pointer (some ⟨p, 0, none⟩)) ∧ SetAt 53 30 w' p v xs ∧ Chg (fun _ => False) w w' ∧ w.heap.size ≤ p ∧ ∀ k, v.ownBlock = some k → w.heap.size ≤ k

set_option maxHeartbeats 400000 in
theorem copy_calls (w : World) (p : Nat) (v : Value) (xs : List J) (h : SetAt 53 30 w p v xs) (hl : xs.length ≤ 10000) :
    Calls Try.prog 11 #[.pointer (some ⟨p, 0, none⟩)] w (NewSet w xs) := by
  have hc := all_calls w p v xs h hl
  have H := Lib.hid hc
  clear hc h
  go_enter Try.func11, Try.ntmps11
  go_wp2_with (go_at_call 14; refine H.out.mono ?_)
  intro e w1 hp
  obtain ⟨A, c, rfl, ho, hch, hb⟩ := hp
  have Ho := Lib.hid ho
  have Hc := Lib.hid hch
  have Hb := Lib.hid hb
  clear ho hch hb
  go_wp2
  go_ret
  exact ⟨w1.heap.size, _, rfl, ⟨heap_alloc_new w1 _, Ho.out.alloc _⟩, Hc.out.alloc _, Hc.out.size, Hb.out⟩
end Go.Proofs.Ytocbahciffickaa

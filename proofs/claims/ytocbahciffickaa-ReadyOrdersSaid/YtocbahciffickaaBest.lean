import Derived.Test.YtocbahciffickaaSmall
namespace Go.Proofs.Ytocbahciffickaa
open Go.RowKit

/-- The places of those of the greatest priority, and that, as the loop gathers them. -/
def bestGo : List J → Nat → List Nat → Int → List Nat × Int
  | [], _, at_, pr => (at_, pr)
  | j :: l, i, at_, pr => if pr < j.p then bestGo l (i + 1) [i] j.p else if j.p = pr then bestGo l (i + 1) (at_ ++ [i]) pr else bestGo l (i + 1) at_ pr
def bestOf (xs : List J) : List Nat × Int := bestGo xs 0 [] 0
def nvs (l : List Nat) : List Value := l.map fun (i : Nat) => .int .i64 (i : Int)

def BestPost (w : World) (xs : List J) (e : Ending) (w' : World) : Prop :=
  ∃ A c, e = .returned (.tuple #[.slice A (bestOf xs).1.length c, .int .i64 (bestOf xs).2]) ∧ Own w' 3 1 (.slice A (bestOf xs).1.length c) (bestOf xs).1.length (nvs (bestOf xs).1) ∧ Chg (fun _ => False) w w' ∧
    ∀ k, (Value.slice A (bestOf xs).1.length c).ownBlock = some k → w.heap.size ≤ k

/-- The three cells of a job. -/
theorem Own.job {w : World} {E : TypeId} {g n cap : Nat} {xs : List J} {j : J} {k : Nat} (h : Own w E 3 (.slice (some ⟨g, 0, none⟩) n cap) n (jcs xs)) (hn : n = xs.length) (hj : xs[k]? = some j) :
    w.cell? ⟨g, k * 3, none⟩ = some (.int .i64 j.t) ∧ w.cell? ⟨g, k * 3 + 1, none⟩ = some (.int .i64 j.p) ∧ w.cell? ⟨g, k * 3 + 2, none⟩ = some (.int .i64 j.n) := by
  subst hn
  obtain ⟨hk, he⟩ := List.getElem?_eq_some_iff.1 hj
  have h0 := jcs_get xs k 0 hk (by omega)
  have h1 := jcs_get xs k 1 hk (by omega)
  have h2 := jcs_get xs k 2 hk (by omega)
  rw [he] at h0 h1 h2
  refine ⟨?_, ?_, ?_⟩
  · rw [h.cell _ (by omega)]; exact h0
  · rw [h.cell _ (by omega)]; exact h1
  · rw [h.cell _ (by omega)]; exact h2

theorem Own.zero {w : World} {e : TypeId} {size n c : Nat} {A : Option Addr} {xs : List Value} (h : Own w e size (.slice A n c) n xs) : Own w e size (.slice A 0 0) 0 [] := by
  rcases h.2 with ⟨h', _⟩ | ⟨g', cap', cur, h', hg, _⟩
  · simp only [Value.slice.injEq] at h'
    obtain ⟨rfl, _⟩ := h'
    exact Own.nil _ _ _
  · simp only [Value.slice.injEq] at h'
    obtain ⟨rfl, _⟩ := h'
    exact ⟨by simp, .inr ⟨g', 0, cur, rfl, hg, by omega, by omega, by omega, by simp⟩⟩

theorem news_int {W : World} {g : Nat} {x : Value} {e : TypeId} (hg : W.heap[g]? = some (.cells #[x] e (0, 0))) :
    0 < 1 → ∃ ad, some (⟨g, 0, none⟩ : Addr) = some ad ∧ ∀ k u, [x][k]? = some u → W.cell? (ad.add k) = some u := by
  refine fun _ => ⟨_, rfl, fun k u hu => ?_⟩
  have hadd : (⟨g, 0, none⟩ : Addr).add k = ⟨g, k, none⟩ := by unfold Addr.add; split <;> simp_all
  rw [hadd, cell_of_row W g k _ _ _ hg]
  simpa using hu

/-- An append onto a slice that is new since w leaves all that was there at w. -/
theorem grown_all {w W W' : World} {v v' : Value} (hW : Chg (fun _ => False) w W) (hfr : ∀ b, v.ownBlock = some b → w.heap.size ≤ b) (hc : Chg (fun k => v.ownBlock = some k) W W') (hb : v'.ownBlock = v.ownBlock ∨ v'.ownBlock = some W.heap.size) :
    Chg (fun _ => False) w W' ∧ ∀ b, v'.ownBlock = some b → w.heap.size ≤ b := by
  refine ⟨hW.comp hc (fun i hi hk => by have := hfr i hk; omega), fun b hk => ?_⟩
  rcases hb with hb | hb
  · exact hfr b (hb ▸ hk)
  · rw [hb] at hk
    injection hk with hk
    have := hW.size
    omega

theorem heap_new_at {W : World} {o : Obj} {g : Nat} (hg : g = W.heap.size) : (W.alloc o).heap[g]? = some o := by
  subst hg
  exact heap_alloc_new W o
theorem drop_step {α : Type} {xs : List α} {k : Nat} {j : α} (hj : xs[k]? = some j) : xs.drop k = j :: xs.drop (k + 1) := by
  obtain ⟨hk, he⟩ := List.getElem?_eq_some_iff.1 hj
  rw [List.drop_eq_getElem_cons hk, he]
theorem bestGo_gt {xs : List J} {k : Nat} {j : J} {l : List Nat} {q : Int} (hj : xs[k]? = some j) (h : bestGo (xs.drop k) k l q = bestOf xs) (h1 : q < j.p) : bestGo (xs.drop (k + 1)) (k + 1) [k] j.p = bestOf xs := by
  rw [drop_step hj] at h
  simpa only [bestGo, if_pos h1] using h
theorem bestGo_eq {xs : List J} {k : Nat} {j : J} {l : List Nat} {q : Int} (hj : xs[k]? = some j) (h : bestGo (xs.drop k) k l q = bestOf xs) (h2 : j.p = q) : bestGo (xs.drop (k + 1)) (k + 1) (l ++ [k]) q = bestOf xs := by
  rw [drop_step hj] at h
  have h1 : ¬ q < j.p := by omega
  simpa only [bestGo, if_neg h1, if_pos h2] using h
theorem bestGo_lt {xs : List J} {k : Nat} {j : J} {l : List Nat} {q : Int} (hj : xs[k]? = some j) (h : bestGo (xs.drop k) k l q = bestOf xs) (h1 : ¬ q < j.p) (h2 : ¬ j.p = q) : bestGo (xs.drop (k + 1)) (k + 1) l q = bestOf xs := by
  rw [drop_step hj] at h
  simpa only [bestGo, if_neg h1, if_neg h2] using h

/-- What holds at the head of each round. -/
def BestRel (w : World) (xs : List J) (va pr i : Value) (wr : World) : Prop :=
  ∃ (k : Nat) (l : List Nat) (q : Int) (A : Option Addr) (c : Nat), k ≤ xs.length ∧ i = .int .i64 k ∧ pr = .int .i64 q ∧ va = .slice A l.length c ∧ Own wr 3 1 (.slice A l.length c) l.length (nvs l) ∧ l.length ≤ k ∧
    Chg (fun _ => False) w wr ∧ (∀ b, (Value.slice A l.length c).ownBlock = some b → w.heap.size ≤ b) ∧ bestGo (xs.drop k) k l q = bestOf xs

set_option maxRecDepth 100000 in
set_option maxHeartbeats 400000 in
theorem best_some (w : World) (p g c : Nat) (xs : List J) (h : SetAt 53 30 w p (.slice (some ⟨g, 0, none⟩) xs.length c) xs) (hl : xs.length ≤ 10000) :
    Calls Try.prog 18 #[.pointer (some ⟨p, 0, none⟩)] w (BestPost w xs) := by
  have hc := h.cell
  have hlt := h.lt
  have H := Lib.hid h
  clear h
  go_enter Try.func18, Try.ntmps18
  go_wp2_with fail
  go_loopw [4, 5, 13] (BestRel w xs) (fun _ _ i _ => xs.length - (intOf i).toNat)
  case atStart => exact ⟨0, [], 0, none, 0, by omega, rfl, rfl, rfl, Own.nil _ _ _, by simp, Chg.refl _ _, by simp [Value.ownBlock], rfl⟩
  case round =>
    obtain ⟨k, l, q, A, ca, hk, rfl, rfl, rfl, ho, hlk, hch, hfr, hgo⟩ := hrel
    have Ho := Lib.hid ho
    have Hch := Lib.hid hch
    have Hfr := Lib.hid hfr
    have Hgo := Lib.hid hgo
    clear ho hch hfr hgo
    by_cases hlt2 : k < xs.length
    · obtain ⟨j, hj⟩ : ∃ j, xs[k]? = some j := ⟨xs[k], List.getElem?_eq_getElem hlt2⟩
      have hset := H.out.keep Hch.out (fun f => f) (fun _ _ f => f)
      obtain ⟨c0, c1, c2⟩ := hset.2.job rfl hj
      have Hj := Lib.hid hj
      clear hj hset
      by_cases h1 : q < j.p
      · go_wp2_with fail
        go_quiet (fail)
        go_wp2_with (at_builtin; refine wpList_append_Own rfl (.tmp 30) (.tmp 32) 54 rfl 3 _ 1 8 Try.underlying54 Try.info3 rfl (by decide) (.slice A 0 0) 0 [] rfl (by exact ((Ho.out.zero.alloc _).drewN nq).alloc _) (some ⟨wr.heap.size + 1, 0, none⟩) 1 1 [.int .i64 (k : Int)] rfl (by rfl) (news_int (heap_new_at (by simp))) (by simp; rfl) (by omega) (by omega) ?_; intro v' w' ho hchg hbl hf; obtain ⟨g', cap', hv'⟩ := hf (by omega); subst hv'; have Hx := Lib.hid ho; have Hc := Lib.hid hchg; have Hb := Lib.hid hbl; clear ho hchg hbl hf)
        go_roundw
        case rel =>
          obtain ⟨r1, r2⟩ := grown_all ((((Hch.out.alloc _).drewN nq).alloc _)) (fun b hb => Hfr.out b (by cases A <;> exact hb)) Hc.out Hb.out
          exact ⟨k + 1, [k], j.p, some ⟨g', 0, none⟩, cap', by omega, by go_num, rfl, rfl, Hx.out, by simp, r1, r2, bestGo_gt Hj.out Hgo.out h1⟩
        case measure => simp [intOf]; omega
      · by_cases h2 : j.p = q
        · have h3 : (j.p == q) = true := by simp [h2]
          have H2 := Lib.hid h2
          clear h2
          go_wp2_with (at_builtin; refine wpList_append_Own rfl (.tmp 30) (.tmp 32) 54 rfl 3 _ 1 8 Try.underlying54 Try.info3 rfl (by decide) (.slice A l.length ca) l.length (nvs l) rfl (by exact (Ho.out.alloc _).alloc _) (some ⟨wr.heap.size + 1, 0, none⟩) 1 1 [.int .i64 (k : Int)] rfl (by rfl) (news_int (by exact heap_alloc2_new wr _ _)) (by simp; rfl) (by omega) (by omega) ?_; intro v' w' ho hchg hbl hf; obtain ⟨g', cap', hv'⟩ := hf (by omega); subst hv'; have Hx := Lib.hid ho; have Hc := Lib.hid hchg; have Hb := Lib.hid hbl; clear ho hchg hbl hf)
          go_roundw
          case rel =>
            obtain ⟨r1, r2⟩ := grown_all ((Hch.out.alloc _).alloc _) Hfr.out Hc.out Hb.out
            exact ⟨k + 1, l ++ [k], q, some ⟨g', 0, none⟩, cap', by omega, by go_num, rfl, by simp, by simpa [nvs] using Hx.out, by simp; omega, r1, r2, bestGo_eq Hj.out Hgo.out H2.out⟩
          case measure => simp [intOf]; omega
        · have h3 : (j.p == q) = false := by simp [h2]
          have H2 := Lib.hid h2
          clear h2
          go_wp2_with fail
          go_roundw
          case rel => exact ⟨k + 1, l, q, A, ca, by omega, by go_num, rfl, rfl, Ho.out.alloc _, by omega, Hch.out.alloc _, Hfr.out, bestGo_lt Hj.out Hgo.out (by omega) H2.out⟩
          case measure => simp [intOf]; omega
    · have hk2 : xs.length ≤ k := by omega
      go_wp2_with fail
      go_ret2
      have he : bestGo (xs.drop k) k l q = (l, q) := by rw [List.drop_eq_nil_of_le hk2]; rfl
      rw [Hgo.out] at he
      refine ⟨A, ca, ?_, ?_⟩
      · rw [he]; rfl
      · rw [he]; exact ⟨Ho.out, Hch.out, Hfr.out⟩
end Go.Proofs.Ytocbahciffickaa

import Derived.Test.YtnhnmjdmenehoaaTknw
namespace Go.Proofs.Ytnhnmjdmenehoaa
open Go.RowKit

/-! ### Without jitter -/
def dues (s : Int) : List Int → Nat → List D
  | [], _ => []
  | p :: r, i => if s % p = 0 then ⟨(i : Int), s⟩ :: dues s r (i + 1) else dues s r (i + 1)
theorem ins_last (x : D × Int) : ∀ L : List (D × Int), (∀ y ∈ L, ltD y.1 x.1 = true) → ins x L = L ++ [x]
  | [], _ => rfl
  | y :: L, h => by
    rw [ins_cons, if_pos (h y List.mem_cons_self), ins_last x L (fun z hz => h z (List.mem_cons_of_mem _ hz))]
    rfl
theorem insAll_steady (s : Int) : ∀ (ps : List Int) (k : Nat) (L : List (D × Int)), (∀ y ∈ L, y.1.t < k) → insAll L (rels s ps k []) = L ++ (dues s ps k).map (fun d => (d, s))
  | [], k, L, _ => by simp [rels, insAll, dues]
  | p :: ps, k, L, h => by
    simp only [rels, dues]
    by_cases hm : s % p = 0
    · simp only [hm, if_true, insAll_cons, List.tail_nil, jit, Int.add_zero]
      rw [ins_last]
      · rw [insAll_steady s ps (k + 1)]
        · simp
        · intro y hy
          rcases List.mem_append.1 hy with hy | hy
          · have := h y hy; omega
          · simp at hy; subst hy; show (k : Int) < _; omega
      · intro y hy
        have := h y hy
        simp [ltD, this]
    · simp only [hm, if_false]
      exact insAll_steady s ps (k + 1) L (fun y hy => by have := h y hy; omega)
theorem steady_told (ps : List Int) (s : Int) : told ps s [] [] = dues s ps 0 ∧ left ps s [] [] = [] := by
  have h : lay ps s [] [] = (dues s ps 0).map (fun d => (d, s)) := by
    unfold lay
    rw [insAll_steady s ps 0 [] (by simp)]
    rfl
  unfold told left
  rw [h]
  constructor
  · rw [List.filter_eq_self.2 (by simp), List.map_map]
    exact List.map_id _
  · rw [List.filter_eq_nil_iff]
    simp
theorem dues_length (s : Int) : ∀ (ps : List Int) (k : Nat), (dues s ps k).length ≤ ps.length
  | [], _ => by simp [dues]
  | p :: ps, k => by
    simp only [dues]
    split
    · have := dues_length s ps (k + 1); simp; omega
    · have := dues_length s ps (k + 1); simp; omega

def SteadyPost (W : World) (p b : Nat) (va : Value) (ps : List Int) (s : Int) (e : Ending) (w' : World) : Prop :=
  ∃ A c, e = .returned (.slice A (dues s ps 0).length c) ∧ Own w' 48 2 (.slice A (dues s ps 0).length c) (dues s ps 0).length (dcs (dues s ps 0)) ∧ (∀ i, (Value.slice A (dues s ps 0).length c).ownBlock = some i → W.heap.size ≤ i) ∧ Tim w' p b va ps (s + 1) [] ∧ Chg (fun i => i = p ∨ i = b) W w'
theorem Tim.steady {w : World} {p b : Nat} {va : Value} {ps : List Int} {s : Int} (h : Tim w p b va ps s []) (hn : s ≤ 1000) : Calls Try.prog 14 #[.pointer (some ⟨p, 0, none⟩), .slice none 0 0] w (SteadyPost w p b va ps s) := by
  have h3 := h.tick [] _ (pick_nil w) (by omega) (by simp)
  unfold TimPost at h3
  rw [(steady_told ps s).1, (steady_told ps s).2] at h3
  exact h3

/-- What holds at the head of each round. -/
def SteadyRel (w : World) (p b : Nat) (va : Value) (ps : List Int) (n : Nat) (sv : Value) (wr : World) : Prop :=
  ∃ s : Nat, s ≤ n ∧ sv = .int .i64 s ∧ Tim wr p b va ps s [] ∧ Chg (fun _ => False) w wr
def SteadyIn (ps : List Int) (s : Int) (l : List D) (kv iv : Value) : Prop :=
  ∃ (i : Nat) (P : List D), i ≤ ps.length ∧ iv = .int .i64 i ∧ kv = .int .i64 P.length ∧ l = P ++ dues s (ps.drop i) i

theorem reads_at {w : World} {b off : Nat} {l : List Int} {k : Nat} {x : Int} (h : Reads w (some ⟨b, off, none⟩) l) (hx : l[k]? = some x) : w.cell? ⟨b, off + k, none⟩ = some (.int .i64 x) := by
  rcases h.2 with h | ⟨b', off', he, hh⟩
  · rw [h] at hx; simp at hx
  · simp only [Option.some.injEq, Addr.mk.injEq, and_true] at he
    obtain ⟨rfl, rfl⟩ := he
    exact hh k x hx

set_option maxRecDepth 100000 in
set_option maxHeartbeats 4000000 in
theorem steady_good (w : World) (bk off c : Nat) (ps : List Int) (n : Int) (hr : Reads w (some ⟨bk, off, none⟩) ps) (hg : Good ps) (h0 : 0 ≤ n) (h1 : n ≤ 255) :
    Calls Try.prog 7 #[.slice (some ⟨bk, off, none⟩) ps.length c, .int .u8 n] w (OnlyBool true w) := by
  obtain ⟨n, rfl⟩ : ∃ k : Nat, n = (k : Int) := ⟨n.toNat, by omega⟩
  have HR := Lib.hid hr
  have HG := Lib.hid hg
  clear hr
  obtain ⟨g1, g8, _⟩ := hg
  go_enter Try.func7, Try.ntmps7
  go_wp2_with (go_at_call 11; refine (new_calls w _ c ps HR.out HG.out).mono ?_)
  rintro e w1 ⟨p, va, b, rfl, ht1, hc1, hp1, hb1, hv1⟩
  have H1 := Lib.hid (Tim.new ht1 HG.out)
  have C1 := Lib.hid hc1
  clear ht1 hc1 hv1
  go_wp2_with fail
  go_loopw [7] (SteadyRel w p b va ps n) (fun sv _ => n - (intOf sv).toNat)
  case atStart => exact ⟨0, by omega, rfl, H1.out, C1.out⟩
  case round =>
    obtain ⟨s, hs, rfl, ht, hch⟩ := hrel
    have HT := Lib.hid ht
    have HC := Lib.hid hch
    clear ht hch H1 C1
    by_cases hlt : s < n
    · have hlt' : (s : Int) < (n : Int) := by omega
      go_wp2_with (go_at_call 14; refine (HT.out.steady (by omega)).mono ?_)
      rintro e w2 ⟨A, ca, rfl, ho, hf, ht2, hc2⟩
      have HO := Lib.hid ho
      have HT2 := Lib.hid ht2
      have HC2 := Lib.hid (HC.out.comp hc2 (fun i hi e => by rcases e with rfl | rfl <;> omega))
      have hdl := dues_length s ps 0
      have HS2 := Lib.hid (HR.out.keep HC2.out)
      clear ho hf ht2 hc2
      obtain ⟨l, hl⟩ : ∃ l, dues s ps 0 = l := ⟨_, rfl⟩
      have HL := Lib.hid hl
      rw [hl] at HO hdl
      rw [hl]
      clear hl
      go_wp2_with fail
      go_loop [9, 10] (SteadyIn ps s l) (fun _ i => ps.length - (intOf i).toNat)
      case atStart => exact ⟨0, [], by omega, rfl, rfl, HL.out.symm⟩
      case round =>
        obtain ⟨i, P, hi, rfl, rfl, hP⟩ := hrel
        have HP := Lib.hid hP
        clear hP
        by_cases hli : i < ps.length
        · obtain ⟨x, hx⟩ : ∃ x, ps[i]? = some x := ⟨ps[i], List.getElem?_eq_getElem hli⟩
          have hcx := reads_at HS2.out hx
          obtain ⟨hx1, hx2⟩ := HG.out.2.2 x (List.mem_of_getElem? hx)
          have hd := Lib.hid (drop_one hx)
          clear hx
          have hx0 : (x == 0) = false := beq_eq_false_iff_ne.2 (by omega)
          by_cases hmod : (s : Int) % x = 0
          · have hm1 : ((s : Int).tmod x == 0) = true := by rw [Int.tmod_eq_emod_of_nonneg (by omega)]; simp [hmod]
            have hlP : l = P ++ ⟨(i : Int), (s : Int)⟩ :: dues s (ps.drop (i + 1)) (i + 1) := by rw [HP.out, hd.out]; simp only [dues, hmod, if_true]
            have hlen : P.length < l.length := by rw [hlP]; simp
            have hlen' : (P.length : Int) < (l.length : Int) := by omega
            have hat : l[P.length]? = some ⟨(i : Int), (s : Int)⟩ := by rw [hlP]; simp
            have HlP := Lib.hid hlP
            clear hlP
            obtain ⟨g, cap, hv, _, _, hg⟩ := HO.out.form (by omega)
            injection hv with hv1 _ hv2
            subst hv1; subst hv2
            obtain ⟨d0, d1⟩ := Own.due HO.out rfl hat
            clear hat
            go_wp2_with fail
            go_round
            case rel => exact ⟨i + 1, P ++ [⟨(i : Int), (s : Int)⟩], by omega, by go_num, by simp, by rw [HlP.out]; simp⟩
            case measure => simp [intOf]; omega
          · have hm1 : ((s : Int).tmod x == 0) = false := by rw [Int.tmod_eq_emod_of_nonneg (by omega)]; simp [hmod]
            go_wp2_with fail
            go_round
            case rel => exact ⟨i + 1, P, by omega, by go_num, rfl, by rw [HP.out, hd.out]; simp only [dues, hmod, if_false]⟩
            case measure => simp [intOf]; omega
        · have hlP : l = P := by rw [HP.out, List.drop_of_length_le (by omega)]; simp [dues]
          subst hlP
          go_wp2_with (go_at_call 18; refine (HT2.out.waiting (by simp)).mono ?_)
          rintro e w3 ⟨A3, c3, rfl, ho3, hc3, hf3⟩
          have HT3 := Lib.hid (HT2.out.quiet hc3)
          have HC3 := Lib.hid (HC2.out.comp hc3 (fun _ _ f => f))
          clear ho3 hc3 hf3
          go_wp2_with fail
          go_roundw
          case rel => exact ⟨s + 1, by omega, by go_num, HT3.out, HC3.out⟩
          case measure => simp [intOf]; omega
    · have hlt' : ¬ (s : Int) < (n : Int) := by omega
      go_wp2_with (go_at_call 10; refine (known_calls _).mono ?_)
      rintro e w3 ⟨rfl, hc3⟩
      go_wp2_with fail
      go_ret
      exact ⟨rfl, HC.out.comp hc3 (fun _ _ f => f)⟩

set_option maxRecDepth 100000 in
set_option maxHeartbeats 4000000 in
theorem steady_bad (w : World) (A : Option Addr) (c : Nat) (ps : List Int) (v : Value) (hr : Reads w A ps) (hg : ¬ Good ps) :
    Calls Try.prog 7 #[.slice A ps.length c, v] w (OnlyBool true w) := by
  have HE := Lib.hid (new_err w A c ps hr hg)
  clear hr hg
  go_enter Try.func7, Try.ntmps7
  go_wp2_with (go_at_call 11; refine HE.out.mono ?_)
  rintro e w1 ⟨rfl, hc1⟩
  go_wp2_with (go_at_call 10; refine (known_calls _).mono ?_)
  rintro e w3 ⟨rfl, hc3⟩
  go_wp2_with fail
  go_ret
  exact ⟨rfl, hc1.comp hc3 (fun _ _ f => f)⟩

theorem steady_calls (w : World) (A : Option Addr) (c : Nat) (ps : List Int) (n : Int) (hr : Reads w A ps) (h0 : 0 ≤ n) (h1 : n ≤ 255) : Calls Try.prog 7 #[.slice A ps.length c, .int .u8 n] w (OnlyBool true w) := by
  by_cases hg : Good ps
  · rcases hr.2 with h | ⟨b, off, rfl, hh⟩
    · exfalso
      have := hg.1
      rw [h] at this
      simp at this
    · exact steady_good w b off c ps n hr hg h0 h1
  · exact steady_bad w A c ps _ hr hg
end Go.Proofs.Ytnhnmjdmenehoaa

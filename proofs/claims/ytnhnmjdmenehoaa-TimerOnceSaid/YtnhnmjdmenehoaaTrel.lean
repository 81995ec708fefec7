import Derived.Test.YtnhnmjdmenehoaaTwait
namespace Go.Proofs.Ytnhnmjdmenehoaa
open Go.RowKit

/-- A slice of picks that can be read. -/
def PickAt (w : World) (v : Value) (pk : List Int) : Prop := ∃ A c, v = .slice A pk.length c ∧ pk.length ≤ c ∧ c ≤ maxLen ∧ Reads w A pk

theorem Holds.ne_read {w : World} {b : Nat} {L : List (D × Int)} {a : Addr} {u : Value} (h : Holds w b L) (hu : w.cell? a = some u) : ¬ a.block = b := by
  intro e
  obtain ⟨l, c, h, _⟩ := h
  have := h.heap
  rw [← e] at this
  unfold World.cell? at hu
  rw [this] at hu
  simp at hu
theorem PickAt.keep {w w' : World} {v : Value} {pk : List Int} {S : Nat → Prop} (h : PickAt w v pk) (hc : Chg S w w') (hs : ∀ a u, w.cell? a = some u → ¬ S a.block) : PickAt w' v pk := by
  obtain ⟨A, c, rfl, h1, h2, h3, h4⟩ := h
  refine ⟨A, c, rfl, h1, h2, h3, h4.imp id ?_⟩
  rintro ⟨b, off, rfl, hh⟩
  refine ⟨b, off, rfl, fun k x hx => ?_⟩
  have hu := hh k x hx
  have hb := hc.block b (World.block_lt_of_cell? w _ hu) (hs _ _ hu)
  rw [← hu]
  unfold World.cell?
  simp only [hb]
theorem PickAt.quiet {w w' : World} {v : Value} {pk : List Int} (h : PickAt w v pk) (hc : Chg (fun _ => False) w w') : PickAt w' v pk := h.keep hc (fun _ _ _ f => f)
theorem ins_perm (x : D × Int) (L : List (D × Int)) : (ins x L).Perm (x :: L) := by
  unfold ins
  refine List.perm_middle.trans ?_
  rw [List.takeWhile_append_dropWhile]
theorem drop_one {α : Type} {l : List α} {k : Nat} {x : α} (hx : l[k]? = some x) : l.drop k = x :: l.drop (k + 1) := by
  obtain ⟨hk, he⟩ := List.getElem?_eq_some_iff.1 hx
  rw [List.drop_eq_getElem_cons hk, he]

/-- What holds at the head of each round of release. -/
def RelRel (W : World) (p b : Nat) (va : Value) (ps : List Int) (now : Int) (T : List (D × Int)) (sv iv : Value) (wr : World) : Prop :=
  ∃ (k : Nat) (pk : List Int) (Lk : List (D × Int)), k ≤ ps.length ∧ iv = .int .i64 k ∧ PickAt wr sv pk ∧ TimerAt wr p va b ps now Lk ∧ insAll Lk (rels now (ps.drop k) k pk) = T ∧ (∀ x ∈ Lk, x.1.n < now ∨ x.1.t < k) ∧ Chg (fun i => i = b) W wr

/-- What release leaves. -/
def RelPost (W : World) (p b : Nat) (va : Value) (ps : List Int) (now : Int) (T : List (D × Int)) (e : Ending) (w' : World) : Prop :=
  e = .returned (.tuple #[]) ∧ TimerAt w' p va b ps now T ∧ Chg (fun i => i = b) W w'

theorem insAll_cons (L : List (D × Int)) (x : D × Int) (R : List (D × Int)) : insAll L (x :: R) = insAll (ins x L) R := rfl
theorem read_head {w : World} {A : Option Addr} {y : Int} {pk : List Int} (h : Reads w A (y :: pk)) : ∃ b off, A = some ⟨b, off, none⟩ ∧ w.cell? ⟨b, off, none⟩ = some (.int .i64 y) := by
  rcases h.2 with h | ⟨b, off, rfl, hh⟩
  · simp at h
  · exact ⟨b, off, rfl, hh 0 y rfl⟩
theorem read_tail {w : World} {b off : Nat} {y : Int} {pk : List Int} (h : Reads w (some ⟨b, off, none⟩) (y :: pk)) : Reads w (some ⟨b, off + 1, none⟩) pk := by
  refine ⟨by have := h.1; simp only [List.length_cons] at this; omega, .inr ⟨b, off + 1, rfl, fun k x hx => ?_⟩⟩
  rcases h.2 with h | ⟨b', off', he, hh⟩
  · simp at h
  · simp only [Option.some.injEq, Addr.mk.injEq, and_true] at he
    obtain ⟨rfl, rfl⟩ := he
    have := hh (k + 1) x (by simpa using hx)
    rwa [show off + (k + 1) = off + 1 + k by omega] at this
theorem rel_step {W wr w2 : World} {p b : Nat} {va : Value} {ps : List Int} {now x : Int} {T Lk : List (D × Int)} {k : Nat} {pk pk' : List Int} {A2 : Option Addr} {m2 : Nat} {j : Int} {iv : Value}
    (ht : TimerAt wr p va b ps now Lk) (hr : Reads wr A2 pk') (hg : insAll Lk (rels now (ps.drop k) k pk) = T) (hlk : ∀ x ∈ Lk, x.1.n < now ∨ x.1.t < k) (hc : Chg (fun i => i = b) W wr)
    (hlt : k < ps.length) (hd : ps.drop k = x :: ps.drop (k + 1)) (hmod : now % x = 0) (hm1 : pk'.length ≤ m2) (hm2 : m2 ≤ maxLen) (hpk : pk' = pk.tail) (hj : j = now + jit pk) (hiv : iv = .int .i64 ((k + 1 : Nat) : Int))
    (hh : Holds w2 b ((⟨(k : Int), now⟩, j) :: Lk)) (hc2 : Chg (fun i => i = b) wr w2) : RelRel W p b va ps now T (.slice A2 pk'.length m2) iv w2 := by
  refine ⟨k + 1, pk', ins (⟨(k : Int), now⟩, j) Lk, by omega, hiv, PickAt.keep (w := wr) ⟨A2, m2, rfl, hm1, hm2, hr⟩ hc2 (fun a u hu => ht.map.ne_read hu), ⟨heap_keep ht.heap hc2 (fun e => ht.map.ne_cells ht.heap e.symm), ht.per.keep hc2 (fun i hi e => ht.map.ne_own ht.per (e ▸ hi)), hh.perm (ins_perm _ _).symm⟩, ?_, fun y hy => ?_, hc.trans hc2⟩
  · rw [← hg, hd, hpk, hj]
    simp only [rels, hmod, if_true, insAll_cons]
  · have hy2 := (ins_perm _ _).mem_iff.1 hy
    rcases List.mem_cons.1 hy2 with rfl | hy2
    · right; show (k : Int) < _; omega
    · rcases hlk y hy2 with h | h
      · exact .inl h
      · right; omega

set_option maxRecDepth 100000 in
set_option maxHeartbeats 4000000 in
theorem release_calls (w : World) (p b : Nat) (va sv : Value) (ps : List Int) (now : Int) (L : List (D × Int)) (picks : List Int) (h : TimerAt w p va b ps now L) (hk : PickAt w sv picks) (hg : Good ps) (hn : 0 ≤ now) (hn2 : now ≤ 1000000) (hL : ∀ x ∈ L, x.1.n < now) :
    Calls Try.prog 22 #[.pointer (some ⟨p, 0, none⟩), sv] w (RelPost w p b va ps now (lay ps now L picks)) := by
  obtain ⟨g1, g8, gp⟩ := hg
  obtain ⟨g, cap, rfl, hcap, hcap2, hgl⟩ := h.per.form (by omega)
  obtain ⟨A, c, rfl, hc1, hc2, hrd⟩ := hk
  obtain ⟨c0, c1, c2, f0, f1, f2, hlt⟩ := cells3 h.heap
  have H := Lib.hid h
  have HK := Lib.hid (show PickAt w (.slice A picks.length c) picks from ⟨A, c, rfl, hc1, hc2, hrd⟩)
  have HL := Lib.hid hL
  have GP := Lib.hid gp
  clear h hrd hL gp
  go_enter Try.func22, Try.ntmps22
  go_wp2_with fail
  go_loopw [1, 12] (RelRel w p b (.slice (some ⟨g, 0, none⟩) ps.length cap) ps now (lay ps now L picks)) (fun _ i _ => ps.length - (intOf i).toNat)
  case atStart => exact ⟨0, picks, L, by omega, rfl, HK.out, H.out, rfl, fun x hx => .inl (HL.out x hx), Chg.refl _ _⟩
  case round =>
    obtain ⟨k, pk, Lk, hkn, rfl, hpk, htm, htg, hlk, hch⟩ := hrel
    obtain ⟨A1, m, rfl, hm1, hm2, hrd⟩ := hpk
    obtain ⟨k0, k1, k2, q0, q1, q2, hplt⟩ := cells3 htm.heap
    have HT := Lib.hid htm
    have HR := Lib.hid hrd
    have HG := Lib.hid htg
    have HLk := Lib.hid hlk
    have HC := Lib.hid hch
    clear htm hrd htg hlk hch c0 c1 c2 f0 f1 f2 H HK HL
    by_cases hlt : k < ps.length
    · obtain ⟨x, hx⟩ : ∃ x, ps[k]? = some x := ⟨ps[k], List.getElem?_eq_getElem hlt⟩
      have hcx := HT.out.per.int rfl hx
      have hgl2 : g < wr.heap.size := HT.out.per.lt g rfl
      have hd := Lib.hid (drop_one hx)
      obtain ⟨hx1, hx2⟩ := GP.out x (List.mem_of_getElem? hx)
      clear hx
      have hx0 : (x == 0) = false := beq_eq_false_iff_ne.2 (by omega)
      by_cases hmod : now % x = 0
      · have htm : (now.tmod x == 0) = true := by rw [Int.tmod_eq_emod_of_nonneg hn]; simp [hmod]
        have hfr : (⟨(k : Int), now⟩ : D) ∉ Lk.map Prod.fst := by
          intro hm
          obtain ⟨y, hy, he⟩ := List.mem_map.1 hm
          have := HLk.out y hy
          rw [he] at this
          simp at this
        have HF := Lib.hid hfr
        clear hfr
        cases pk with
        | nil =>
          obtain ⟨w2, hup, hh2, hc2⟩ := HT.out.drew.map.update (v := now) HF.out
          have HH2 := Lib.hid hh2
          have HC2 := Lib.hid hc2
          clear hh2 hc2
          simp only [dv] at hup
          have i1 : IntKind.i64.wrap now = now := by rw [IntKind.wrap_i64]; omega
          simp only [List.length_nil] at *
          go_wp2_with fail
          go_region
          go_wp2_with fail
          go_roundw
          case rel => exact rel_step (pk := []) (pk' := []) HT.out HR.out HG.out HLk.out HC.out hlt hd.out hmod hm1 hm2 rfl (Int.add_zero now).symm (by go_num) HH2.out ((Chg.refl _ wr).drew.comp HC2.out (fun _ _ e => e))
          case measure => simp [intOf]; omega
        | cons y pk' =>
          have hy := read_head HR.out
          obtain ⟨ab, ao, rfl, hy⟩ := hy
          have hay := block_lt_of_cell hy
          have hupd := fun v => HT.out.drew.drew.map.update (v := v) HF.out
          obtain ⟨W2, hW⟩ := Classical.axiomOfChoice hupd
          have hup := fun v => (hW v).1
          have HW := Lib.hid fun v => (hW v).2
          clear hW hupd
          simp only [dv] at hup
          have i1 : IntKind.i64.wrap now = now := by rw [IntKind.wrap_i64]; omega
          have i3 : IntKind.i64.wrap (now + 1048576) = now + 1048576 := by rw [IntKind.wrap_i64]; omega
          obtain ⟨m', rfl⟩ : ∃ m', m = m' + 1 := ⟨m - 1, by simp only [List.length_cons] at hm1; omega⟩
          rcases Nat.eq_zero_or_pos m' with h0 | h0
          · subst h0
            have hn0 : pk' = [] := List.eq_nil_of_length_eq_zero (by simp only [List.length_cons] at hm1; omega)
            subst hn0
            simp only [List.length_cons, List.length_nil, Nat.zero_add] at *
            rcases (by omega : y < 0 ∨ y = 0 ∨ (0 < y ∧ y < 1048576) ∨ y = 1048576 ∨ 1048576 < y) with hc | rfl | ⟨hc, hc'⟩ | rfl | hc
            all_goals (try have i2 : IntKind.i64.wrap (now + y) = now + y := by rw [IntKind.wrap_i64]; omega)
            all_goals go_wp2_with fail
            all_goals go_region
            all_goals go_wp2_with fail
            all_goals go_region
            all_goals go_wp2_with fail
            all_goals go_roundw
            all_goals first
              | exact rel_step (pk := [_]) (pk' := []) HT.out ⟨by simp, .inl rfl⟩ HG.out HLk.out HC.out hlt hd.out hmod (by simp) (by simp) rfl (by simp only [jit, clamp]; omega) (by go_num) (HW.out _).1 ((Chg.refl _ wr).drew.drew.comp (HW.out _).2 (fun _ _ e => e))
              | (simp [intOf]; omega)
          · have hne : ¬ m' = 0 := by omega
            simp only [List.length_cons] at *
            rcases (by omega : y < 0 ∨ y = 0 ∨ (0 < y ∧ y < 1048576) ∨ y = 1048576 ∨ 1048576 < y) with hc | rfl | ⟨hc, hc'⟩ | rfl | hc
            all_goals (try have i2 : IntKind.i64.wrap (now + y) = now + y := by rw [IntKind.wrap_i64]; omega)
            all_goals go_wp2_with fail
            all_goals go_region
            all_goals go_wp2_with fail
            all_goals go_region
            all_goals go_wp2_with fail
            all_goals go_roundw
            all_goals first
              | exact rel_step (pk := _ :: pk') (pk' := pk') HT.out (read_tail HR.out) HG.out HLk.out HC.out hlt hd.out hmod (by omega) (by omega) rfl (by simp only [jit, clamp]; omega) (by go_num) (HW.out _).1 ((Chg.refl _ wr).drew.drew.comp (HW.out _).2 (fun _ _ e => e))
              | (simp [intOf]; omega)
      · have htm : (now.tmod x == 0) = false := by rw [Int.tmod_eq_emod_of_nonneg hn]; simp [hmod]
        go_wp2_with fail
        go_roundw
        case rel =>
          refine ⟨k + 1, pk, Lk, by omega, by go_num, ⟨A1, m, rfl, hm1, hm2, HR.out⟩, HT.out, ?_, fun y hy => ?_, HC.out⟩
          · rw [← HG.out, hd.out]
            simp only [rels, hmod, if_false]
          · have := HLk.out y hy; omega
        case measure => simp [intOf]; omega
    · go_wp2_with fail
      go_wp2_with fail
      refine bodyPost_ret (results_none rfl _ _ _) rfl ?_
      have hkk : k = ps.length := by omega
      have hT : Lk = lay ps now L picks := by rw [← HG.out, hkk]; simp [rels, insAll]
      exact ⟨rfl, hT ▸ HT.out, HC.out⟩
end Go.Proofs.Ytnhnmjdmenehoaa

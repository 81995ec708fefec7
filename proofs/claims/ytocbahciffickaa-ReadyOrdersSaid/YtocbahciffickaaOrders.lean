import Derived.Test.YtocbahciffickaaOrdplain
import Derived.Deep.OwnRows
namespace Go.Proofs.Ytocbahciffickaa
open Go.RowKit

/-- Place c of the jobs that came in. -/
def JobIn (W : World) (b off c : Nat) (j : J) : Prop :=
  W.cell? ⟨b, off + c * 3, none⟩ = some (.int .i64 j.t) ∧ W.cell? ⟨b, off + c * 3 + 1, none⟩ = some (.int .i64 j.p) ∧ W.cell? ⟨b, off + c * 3 + 2, none⟩ = some (.int .i64 j.n)
theorem keep_cell {W W' : World} (hc : Chg (fun _ => False) W W') {a : Addr} {u : Value} (hu : W.cell? a = some u) : W'.cell? a = some u :=
  (hc.none_below.cell (World.block_lt_of_cell? W a hu)).trans hu
theorem JobIn.keep {W W' : World} {b off c : Nat} {j : J} (h : JobIn W b off c j) (hc : Chg (fun _ => False) W W') : JobIn W' b off c j := ⟨keep_cell hc h.1, keep_cell hc h.2.1, keep_cell hc h.2.2⟩

theorem Mine.setBox {T E : TypeId} {w W : World} {p g : Nat} {v : Value} {xs : List J} {o : Obj} (h : Mine T E w W p v xs) (hb : Beside W p v g o) (hg : w.heap.size ≤ g) (i : Nat) (u : Value) : Mine T E w (W.setCell ⟨g, i, none⟩ u) p v xs := by
  have hc : Chg (fun k => k = g) W (W.setCell ⟨g, i, none⟩ u) := Chg.setCell (S := fun k => k = g) (Chg.refl _ _) (fun _ => rfl) u
  exact ⟨h.set.keep hc (fun e => hb.2.1 e.symm) (fun k hk e => hb.2.2 (e ▸ hk)), h.chg.comp hc (fun k hk e => by omega), h.new, h.own⟩
theorem Beside.setOther {W : World} {p g b : Nat} {v : Value} {o : Obj} (h : Beside W p v b o) (hne : b ≠ g) (i : Nat) (u : Value) : Beside (W.setCell ⟨g, i, none⟩ u) p v b o :=
  ⟨(heap_setCell_other W ⟨g, i, none⟩ b u hne).trans h.1, h.2⟩
theorem Beside.setSame {W : World} {p g : Nat} {v : Value} {cs : Array Value} {T : TypeId} (h : Beside W p v g (.cells cs T (0, 0))) (i : Nat) (u : Value) : Beside (W.setCell ⟨g, i, none⟩ u) p v g (.cells (cs.setIfInBounds i u) T (0, 0)) :=
  ⟨heap_setCell_same W g i cs T u h.1, h.2⟩
theorem Beside.quiet {W W' : World} {p b : Nat} {v : Value} {o : Obj} (h : Beside W p v b o) (hc : Chg (fun _ => False) W W') : Beside W' p v b o :=
  ⟨(hc.block b (Array.getElem?_eq_some_iff.1 h.1).1 (fun f => f)).trans h.1, h.2⟩

def bl (l : List Bool) : Array Value := (l.map Value.bool).toArray
theorem bl_made (n : Nat) : madeCells #[Value.bool false] n = bl (List.replicate n false) := by
  apply Array.ext'
  apply List.ext_getElem
  · simp [madeCells, bl]
  · intro i h1 h2
    simp [madeCells, bl, Nat.mod_one]
theorem bl_set (l : List Bool) (i : Nat) (x : Bool) : (bl l).setIfInBounds i (.bool x) = bl (l.set i x) := by
  simp [bl, List.map_set]
theorem bl_cell {W : World} {g : Nat} {l : List Bool} {T : TypeId} {i : Nat} {x : Bool} (h : W.heap[g]? = some (.cells (bl l) T (0, 0))) (hi : l[i]? = some x) : W.cell? ⟨g, i, none⟩ = some (.bool x) ∧ W.frozen? ⟨g, i, none⟩ = false := by
  refine ⟨?_, frozen_of_row W g i _ _ h⟩
  rw [cell_of_row W g i _ _ _ h]
  simp [bl, hi]

/-- What holds while they are put. -/
def PutRel (W : World) (len p : Nat) (sn si : Value) (wr : World) : Prop :=
  ∃ (i : Nat) (v : Value) (xs : List J), i ≤ len ∧ si = .int .i64 i ∧ sn = .int .i64 (xs.length : Int) ∧ Mine 53 30 W wr p v xs ∧ Acc i xs
/-- What holds while they are taken. -/
def TakeRel (W : World) (len p gl gs n : Nat) (all : Bool) (sk : Value) (wr : World) : Prop :=
  ∃ (k : Nat) (v : Value) (ys : List J) (lt lp ln : Int) (seen : List Bool), k ≤ n ∧ sk = .int .i64 k ∧ Mine 53 30 W wr p v ys ∧ Beside wr p v gl (.cells #[.int .i64 lt, .int .i64 lp, .int .i64 ln] 30 (0, 0)) ∧ Beside wr p v gs (.cells (bl seen) 4 (0, 0)) ∧
    ys.length = n - k ∧ seen.length = len ∧ Inv len all ys lp ln seen

theorem take_rel {W w2 : World} {len p gl n k : Nat} {all : Bool} {v : Value} {ys : List J} {o : Obj} {lt lp ln x y z : Int} {q : Nat} {seen : List Bool} {sk : Value} (h : Mine 53 30 W w2 p v ys) (hl : Beside w2 p v gl (.cells #[.int .i64 lt, .int .i64 lp, .int .i64 ln] 30 (0, 0)))
    (hs : Beside w2 p v (gl + 1) (.cells (bl seen) 4 (0, 0))) (hgl : W.heap.size ≤ gl) (hk : k < n) (hsk : sk = .int .i64 ((k + 1 : Nat) : Int)) (hy : ys.length = n - (k + 1)) (hsl : seen.length = len) (hi : Inv len all ys y z (seen.set q true)) :
    TakeRel W len p gl (gl + 1) n all sk (((((w2.setCell ⟨gl + 1, q, none⟩ (.bool true)).setCell ⟨gl, 0, none⟩ (.int .i64 x)).setCell ⟨gl, 1, none⟩ (.int .i64 y)).setCell ⟨gl, 2, none⟩ (.int .i64 z)).alloc o) := by
  have m1 := h.setBox hs (by omega) q (.bool true)
  have s1 := hs.setSame q (.bool true)
  have l1 := hl.setOther (g := gl + 1) (by omega) q (.bool true)
  have m2 := m1.setBox l1 hgl 0 (.int .i64 x)
  have s2 := s1.setOther (g := gl) (by omega) 0 (.int .i64 x)
  have l2 := l1.setSame 0 (.int .i64 x)
  have m3 := m2.setBox l2 hgl 1 (.int .i64 y)
  have s3 := s2.setOther (g := gl) (by omega) 1 (.int .i64 y)
  have l3 := l2.setSame 1 (.int .i64 y)
  have m4 := m3.setBox l3 hgl 2 (.int .i64 z)
  have s4 := s3.setOther (g := gl) (by omega) 2 (.int .i64 z)
  have l4 := l3.setSame 2 (.int .i64 z)
  rw [bl_set] at s4
  exact ⟨k + 1, v, ys, x, y, z, seen.set q true, by omega, hsk, m4.alloc o, l4.alloc o, s4.alloc o, hy, by simpa using hsl, hi⟩

theorem Try.info4 : (Try.prog.info? 4).map (fun i => (i.zero, i.size, i.bytes)) = some (some (.bool false), 1, 1) := by kernel_rfl

set_option maxRecDepth 100000 in
set_option maxHeartbeats 20000000 in
theorem orders_walk (W : World) (A A2 : Option Addr) (b off n cap b2 off2 m cap2 : Nat) (hn : n ≤ 60) (hm : m ≤ 9223372036854775807) (hA : n = 0 ∨ A = some ⟨b, off, none⟩) (hA2 : m = 0 ∨ A2 = some ⟨b2, off2, none⟩)
    (hjobs : ∀ c, c < n → ∃ j, JobIn W b off c j) (hpicks : ∀ c, c < m → ∃ x : Int, 0 ≤ x ∧ x ≤ 255 ∧ W.cell? ⟨b2, off2 + c, none⟩ = some (.int .u8 x)) :
    Calls Try.prog 4 #[.slice A n cap, .slice A2 m cap2] W (OnlyBool true W) := by
  have HJ := Lib.hid hjobs
  have HP := Lib.hid hpicks
  have HA := Lib.hid hA
  have HA2 := Lib.hid hA2
  clear hjobs hpicks hA hA2
  have hmk := fun W' => run_make_row' (P := Try.prog) 50 4 (.bool false) 1 Try.underlying50 Try.info4 rfl .i64 .i64 n (by omega) (by omega) W'
  go_enter Try.func4, Try.ntmps4
  go_wp2_with (go_at_call 5; refine (new_calls _).mono ?_; rintro e w' ⟨rfl, rfl⟩)
  have M0 := Lib.hid (show Mine 53 30 W (W.alloc (.cells #[.slice none 0 0] 53)) W.heap.size (.slice none 0 0) [] from ⟨set_new 53 30 W, (Chg.refl _ W).alloc _, Nat.le_refl _, by simp [Value.ownBlock]⟩)
  generalize hp : W.heap.size = p at *
  have Hp := Lib.hid hp
  clear hp
  go_loopw [6, 7] (PutRel W n p) (fun _ si _ => n - (intOf si).toNat)
  case atStart => exact ⟨0, _, [], by omega, rfl, rfl, M0.out, Acc.nil⟩
  case round =>
    obtain ⟨i, v, xs, hi, rfl, rfl, m1, hac⟩ := hrel
    clear M0
    have hpl : p < wr.heap.size := m1.set.lt
    have M1 := Lib.hid m1
    have HAc := Lib.hid hac
    have hxl := hac.len
    clear m1 hac
    by_cases hlt : i < n
    · obtain ⟨j, hj⟩ := HJ.out i hlt
      have hA' : A = some ⟨b, off, none⟩ := HA.out.resolve_left (by omega)
      subst hA'
      obtain ⟨c0, c1, c2⟩ := hj.keep M1.out.chg
      clear hj
      have N1 := Lib.hid (M1.out.alloc (.cells #[.int .i64 j.t, .int .i64 j.p, .int .i64 i] 30))
      by_cases hin : 1 ≤ j.p ∧ j.p ≤ 100
      · obtain ⟨h1, h2⟩ := hin
        have h3 : ¬ (j.p < 1 ∨ j.p > 100) := by omega
        have h4 : ¬ 10000 ≤ xs.length := by omega
        have HE := Lib.hid (show putE xs ⟨j.t, j.p, i⟩ = 0 by simp only [putE, if_neg h3, if_neg h4])
        have HL := Lib.hid (show putL xs ⟨j.t, j.p, i⟩ = xs ++ [⟨j.t, j.p, i⟩] by simp only [putL, if_neg h3, if_neg h4])
        clear h3 h4
        go_wp2_with fail
        refine (put_lit N1.out.set ⟨j.t, j.p, i⟩ 0 _ HE.out HL.out).mono ?_
        rintro e w1 ⟨rfl, v1, hs1, hc1, hf1⟩
        have P1 := Lib.hid (N1.out.step hs1 hc1 hf1)
        clear hs1 hc1 hf1
        go_wp2_with fail
        go_roundw
        case rel => exact ⟨i + 1, v1, xs ++ [⟨j.t, j.p, i⟩], by omega, by go_num, by simp, P1.out, HAc.out.put j.t j.p h1 h2⟩
        case measure => simp [intOf]; omega
      · have h3 : j.p < 1 ∨ j.p > 100 := by omega
        have HE := Lib.hid (show putE xs ⟨j.t, j.p, i⟩ = 1 by simp only [putE, if_pos h3])
        have HL := Lib.hid (show putL xs ⟨j.t, j.p, i⟩ = xs by simp only [putL, if_pos h3])
        clear h3 hin
        go_wp2_with fail
        refine (put_lit N1.out.set ⟨j.t, j.p, i⟩ 1 _ HE.out HL.out).mono ?_
        rintro e w1 ⟨rfl, v1, hs1, hc1, hf1⟩
        have P1 := Lib.hid (N1.out.step hs1 hc1 hf1)
        clear hs1 hc1 hf1
        go_wp2_with fail
        go_roundw
        case rel => exact ⟨i + 1, v1, xs, by omega, by go_num, rfl, P1.out, HAc.out.skip⟩
        case measure => simp [intOf]; omega
    · have hin : i = n := by omega
      subst hin
      go_wp2_with fail
      generalize hall : ((m : Int) == 0) = all at *
      have Hall := Lib.hid hall
      clear hall
      have hxl2 : xs.length ≤ 60 := by omega
      obtain ⟨wo, rfl⟩ : ∃ wo : World, wo = wr := ⟨_, rfl⟩
      have M2 := Lib.hid ((M1.out.alloc (.cells #[.int .i64 0, .int .i64 101, .int .i64 (-1)] 30)).alloc (.cells (madeCells #[.bool false] i) 4))
      have BL0 := Lib.hid ((Beside.new M1.out.set (.cells #[.int .i64 0, .int .i64 101, .int .i64 (-1)] 30)).alloc (.cells (madeCells #[.bool false] i) 4))
      have bs0 := Beside.new (M1.out.alloc (.cells #[.int .i64 0, .int .i64 101, .int .i64 (-1)] 30)).set (.cells (bl (List.replicate i false)) 4)
      have hglW : W.heap.size ≤ wo.heap.size := M1.out.chg.size
      have HI0 := Lib.hid (HAc.out.inv all)
      have HMC := Lib.hid (bl_made i)
      rw [show (wo.alloc (Obj.cells #[.int .i64 0, .int .i64 101, .int .i64 (-1)] 30)).heap.size = wo.heap.size + 1 by simp] at bs0
      have BS0 := Lib.hid bs0
      clear bs0
      obtain ⟨nn, hnn⟩ : ∃ nn, xs.length = nn := ⟨_, rfl⟩
      rw [hnn] at hxl2
      rw [hnn]
      have Hnn := Lib.hid hnn
      clear hnn hxl
      generalize hgl : wo.heap.size = gl at *
      have Hgl := Lib.hid hgl
      clear hgl
      go_loopw [12] (TakeRel W i p gl (gl + 1) nn all) (fun sk _ => nn - (intOf sk).toNat)
      case atStart => exact ⟨0, v, xs, 0, 101, -1, List.replicate i false, by omega, rfl, M2.out, BL0.out, by rw [HMC.out]; exact BS0.out, by rw [Hnn.out]; omega, by simp, HI0.out⟩
      case round =>
        obtain ⟨k, v, ys, lt, lp, ln, seen, hk, rfl, m1, bl1, bs1, hyl, hsl, hinv⟩ := hrel
        clear M1 M2 BL0 BS0
        have M1 := Lib.hid m1
        have BL := Lib.hid bl1
        have BS := Lib.hid bs1
        have HI := Lib.hid hinv
        have hpl : p < wr.heap.size := m1.set.lt
        clear m1 bl1 bs1 hinv
        by_cases hlt2 : k < nn
        · by_cases hkm : k < m
          · have hA2' : A2 = some ⟨b2, off2, none⟩ := HA2.out.resolve_left (by omega)
            subst hA2'
            obtain ⟨px, hpx0, hpx1, hpx⟩ := HP.out k hkm
            have hpx' := keep_cell M1.out.chg hpx
            clear hpx
            have hallf : all = false := by rw [← Hall.out]; simp; omega
            subst hallf
            obtain ⟨ti, tj, q, htJ, htB, htL, hti, hq1, hq2, hq3, hlp, hln, hinv', hp1⟩ := HI.out.step (by intro e; rw [e] at hyl; simp at hyl; omega) px (fun h => by cases h) hsl
            obtain ⟨x, y, z⟩ := tj
            simp only at hq1 hlp hln hinv' hp1
            subst hq1
            have TJ := Lib.hid htJ
            have TB := Lib.hid htB
            have TL := Lib.hid htL
            have HI' := Lib.hid hinv'
            have HLN := Lib.hid hln
            have HYL := Lib.hid hyl
            have HSL := Lib.hid hsl
            have HQ3 := Lib.hid hq3
            have hcmp : ((ys.length : Int) != ((nn : Int) - (k : Int))) = false := by simp; omega
            have hti2 : ti < ys.length := hti
            have hyl2 : ys.length ≤ 60 := by omega
            clear htJ htB htL hinv' hln hyl hsl hq3 hti
            obtain ⟨l0, l1, l2, lf0, lf1, lf2⟩ := box3 BL.out.1
            go_wp2_with fail
            refine (all_calls _ p v ys M1.out.set (by omega)).mono ?_
            rintro e w1 ⟨A1, c1, rfl, _, hc1, _⟩
            have N1 := Lib.hid (M1.out.quiet hc1)
            have NL := Lib.hid (BL.out.quiet hc1)
            have NS := Lib.hid (BS.out.quiet hc1)
            clear hc1 l0 l1 l2 lf0 lf1 lf2
            go_wp2_with fail
            refine (take_lit N1.out.set 0 px x y q true _ (by omega) (fun j hj => (HI.out.pos j hj).1) TJ.out TB.out TL.out).mono ?_
            rintro e w2 ⟨rfl, v2, hs2, hc2, hf2⟩
            have P1 := Lib.hid (N1.out.step hs2 hc2 hf2)
            have PL := Lib.hid (NL.out.step hc2 hf2)
            have PS := Lib.hid (NS.out.step hc2 hf2)
            clear hs2 hc2 hf2
            obtain ⟨l0, l1, l2, lf0, lf1, lf2⟩ := box3 PL.out.1
            obtain ⟨s0, sf0⟩ := bl_cell PS.out.1 HQ3.out
            have hgl2 : gl < w2.heap.size := block_lt_of_cell l0
            have hgs2 : gl + 1 < w2.heap.size := block_lt_of_cell s0
            have hne1 : ¬ gl + 1 = w2.heap.size := by omega
            have hne2 : ¬ gl = w2.heap.size := by omega
            have hne3 : ¬ w2.heap.size = gl + 1 := by omega
            have hne4 : ¬ w2.heap.size = gl := by omega
            have hne5 : ¬ gl + 1 = gl := by omega
            have hne6 : ¬ gl = gl + 1 := by omega
            skip
            go_wp2_with fail
            go_roundw
            case rel => exact take_rel P1.out PL.out PS.out hglW hlt2 (by go_num) (by have := HYL.out; rw [List.length_eraseIdx, if_pos hti2]; omega) HSL.out HI'.out
            case measure => simp [intOf]; omega

          · cases all with
            | false =>
              obtain ⟨ti, tj, q, htJ, htB, htL, hti, hq1, hq2, hq3, hlp, hln, hinv', hp1⟩ := HI.out.step (by intro e; rw [e] at hyl; simp at hyl; omega) 0 (fun _ => rfl) hsl
              obtain ⟨x, y, z⟩ := tj
              simp only at hq1 hlp hln hinv' hp1
              subst hq1
              have TJ := Lib.hid htJ
              have TB := Lib.hid htB
              have TL := Lib.hid htL
              have HI' := Lib.hid hinv'
              have HLN := Lib.hid hln
              have HYL := Lib.hid hyl
              have HSL := Lib.hid hsl
              have HQ3 := Lib.hid hq3
              have hcmp : ((ys.length : Int) != ((nn : Int) - (k : Int))) = false := by simp; omega
              have hti2 : ti < ys.length := hti
              have hyl2 : ys.length ≤ 60 := by omega
              clear htJ htB htL hinv' hln hyl hsl hq3 hti
              obtain ⟨l0, l1, l2, lf0, lf1, lf2⟩ := box3 BL.out.1
              go_wp2_with fail
              refine (all_calls _ p v ys M1.out.set (by omega)).mono ?_
              rintro e w1 ⟨A1, c1, rfl, _, hc1, _⟩
              have N1 := Lib.hid (M1.out.quiet hc1)
              have NL := Lib.hid (BL.out.quiet hc1)
              have NS := Lib.hid (BS.out.quiet hc1)
              clear hc1 l0 l1 l2 lf0 lf1 lf2
              go_wp2_with fail
              refine (take_lit N1.out.set 0 0 x y q true _ (by omega) (fun j hj => (HI.out.pos j hj).1) TJ.out TB.out TL.out).mono ?_
              rintro e w2 ⟨rfl, v2, hs2, hc2, hf2⟩
              have P1 := Lib.hid (N1.out.step hs2 hc2 hf2)
              have PL := Lib.hid (NL.out.step hc2 hf2)
              have PS := Lib.hid (NS.out.step hc2 hf2)
              clear hs2 hc2 hf2
              obtain ⟨l0, l1, l2, lf0, lf1, lf2⟩ := box3 PL.out.1
              obtain ⟨s0, sf0⟩ := bl_cell PS.out.1 HQ3.out
              have hgl2 : gl < w2.heap.size := block_lt_of_cell l0
              have hgs2 : gl + 1 < w2.heap.size := block_lt_of_cell s0
              have hne1 : ¬ gl + 1 = w2.heap.size := by omega
              have hne2 : ¬ gl = w2.heap.size := by omega
              have hne3 : ¬ w2.heap.size = gl + 1 := by omega
              have hne4 : ¬ w2.heap.size = gl := by omega
              have hne5 : ¬ gl + 1 = gl := by omega
              have hne6 : ¬ gl = gl + 1 := by omega
              skip
              go_wp2_with fail
              go_roundw
              case rel => exact take_rel P1.out PL.out PS.out hglW hlt2 (by go_num) (by have := HYL.out; rw [List.length_eraseIdx, if_pos hti2]; omega) HSL.out HI'.out
              case measure => simp [intOf]; omega

            | true =>
              obtain ⟨ti, tj, q, htJ, htB, htL, hti, hq1, hq2, hq3, hlp, hln, hinv', hp1⟩ := HI.out.step (by intro e; rw [e] at hyl; simp at hyl; omega) 0 (fun _ => rfl) hsl
              obtain ⟨x, y, z⟩ := tj
              simp only at hq1 hlp hln hinv' hp1
              subst hq1
              have TJ := Lib.hid htJ
              have TB := Lib.hid htB
              have TL := Lib.hid htL
              have HI' := Lib.hid hinv'
              have HLN := Lib.hid hln
              have HYL := Lib.hid hyl
              have HSL := Lib.hid hsl
              have HQ3 := Lib.hid hq3
              have hcmp : ((ys.length : Int) != ((nn : Int) - (k : Int))) = false := by simp; omega
              have hti2 : ti < ys.length := hti
              have hyl2 : ys.length ≤ 60 := by omega
              clear htJ htB htL hinv' hln hyl hsl hq3 hti
              obtain ⟨l0, l1, l2, lf0, lf1, lf2⟩ := box3 BL.out.1
              go_wp2_with fail
              refine (all_calls _ p v ys M1.out.set (by omega)).mono ?_
              rintro e w1 ⟨A1, c1, rfl, _, hc1, _⟩
              have N1 := Lib.hid (M1.out.quiet hc1)
              have NL := Lib.hid (BL.out.quiet hc1)
              have NS := Lib.hid (BS.out.quiet hc1)
              clear hc1 l0 l1 l2 lf0 lf1 lf2
              go_wp2_with fail
              refine (take_lit N1.out.set 0 0 x y q true _ (by omega) (fun j hj => (HI.out.pos j hj).1) TJ.out TB.out TL.out).mono ?_
              rintro e w2 ⟨rfl, v2, hs2, hc2, hf2⟩
              have P1 := Lib.hid (N1.out.step hs2 hc2 hf2)
              have PL := Lib.hid (NL.out.step hc2 hf2)
              have PS := Lib.hid (NS.out.step hc2 hf2)
              clear hs2 hc2 hf2
              obtain ⟨l0, l1, l2, lf0, lf1, lf2⟩ := box3 PL.out.1
              obtain ⟨s0, sf0⟩ := bl_cell PS.out.1 HQ3.out
              have hgl2 : gl < w2.heap.size := block_lt_of_cell l0
              have hgs2 : gl + 1 < w2.heap.size := block_lt_of_cell s0
              have hne1 : ¬ gl + 1 = w2.heap.size := by omega
              have hne2 : ¬ gl = w2.heap.size := by omega
              have hne3 : ¬ w2.heap.size = gl + 1 := by omega
              have hne4 : ¬ w2.heap.size = gl := by omega
              have hne5 : ¬ gl + 1 = gl := by omega
              have hne6 : ¬ gl = gl + 1 := by omega
              by_cases hyl : y = lp
              · have hye : (y == lp) = true := by simp [hyl]
                have hzl : ¬ (q : Int) < ln := by have := HLN.out trivial hyl; omega
                clear hyl
                go_wp2_with fail
                go_roundw
                case rel => exact take_rel P1.out PL.out PS.out hglW hlt2 (by go_num) (by have := HYL.out; rw [List.length_eraseIdx, if_pos hti2]; omega) HSL.out HI'.out
                case measure => simp [intOf]; omega
              · have hye : (y == lp) = false := by simp [hyl]
                clear hyl
                go_wp2_with fail
                go_roundw
                case rel => exact take_rel P1.out PL.out PS.out hglW hlt2 (by go_num) (by have := HYL.out; rw [List.length_eraseIdx, if_pos hti2]; omega) HSL.out HI'.out
                case measure => simp [intOf]; omega

        · have hk3 : k = nn := by omega
          subst hk3
          have hys : ys = [] := List.eq_nil_of_length_eq_zero (by omega)
          subst hys
          clear hyl hsl
          go_wp2_with fail
          refine (take_lit M1.out.set 0 0 0 0 0 false [] (by decide) (by decide) (by decide) (by decide) (by decide)).mono ?_
          rintro e w2 ⟨rfl, v2, hs2, hc2, hf2⟩
          have P1 := Lib.hid ((M1.out.step hs2 hc2 hf2).alloc (.cells #[.int .i64 0, .int .i64 0, .int .i64 0] 30))
          clear hs2 hc2 hf2
          go_wp2_with fail
          refine (Best_calls _ p _ _ P1.out.set (by decide)).mono ?_
          rintro e w3 ⟨rfl, hc1⟩
          have P2 := Lib.hid (P1.out.quiet hc1)
          clear hc1
          rw [show (bestOf []).2 = 0 from rfl]
          go_wp2_with fail
          refine (all_calls _ p _ _ P2.out.set (by decide)).mono ?_
          rintro e w4 ⟨A1, c1, rfl, _, hc1, _⟩
          have P3 := Lib.hid (P2.out.quiet hc1)
          clear hc1
          simp only [List.length_nil]
          go_wp2_with fail
          refine (known_calls _).mono ?_
          rintro e w5 ⟨rfl, hc1⟩
          have P4 := Lib.hid (P3.out.quiet hc1)
          clear hc1
          go_wp2_with fail
          go_ret
          exact ⟨rfl, P4.out.chg⟩

set_option maxRecDepth 100000 in
set_option maxHeartbeats 2000000 in
theorem orders_long (W : World) (A A2 : Option Addr) (n cap m cap2 : Nat) (hn : 60 < n) (hn2 : n ≤ 9223372036854775807) :
    Calls Try.prog 4 #[.slice A n cap, .slice A2 m cap2] W (OnlyBool true W) := by
  go_enter Try.func4, Try.ntmps4
  go_wp2_with (first | (go_at_call 5; refine (new_calls _).mono ?_; rintro e w' ⟨rfl, rfl⟩) | (go_at_call 17; refine (known_calls _).mono ?_; rintro e w1 ⟨rfl, hc1⟩))
  go_ret
  exact ⟨rfl, ((Chg.refl _ W).alloc _).trans hc1⟩
end Go.Proofs.Ytocbahciffickaa

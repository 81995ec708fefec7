import Derived.Test.YtnhnmjdmenehoaaRtick
import Derived.Test.YtnhnmjdmenehoaaCopw
import Derived.Deep.RegionHeld3
namespace Go.Proofs.Ytnhnmjdmenehoaa
open Go.RowKit

/-! The walk of TimerPlays. -/
section
variable {w w' : World} {p b q : Nat} {va vq vl : Value} {ps ps' : List Int} {now now' : Int} {L L' : List (D × Int)}
theorem ref_ne_tim (hr : RefAt w q vq vl ps now L) (ht : Tim w p b va ps' now' L') : ¬ q = p ∧ ¬ q = b := by
  refine ⟨fun e => ?_, fun e => ht.at_.map.ne_cells hr.heap e.symm⟩
  subst e
  have h1 := hr.heap
  rw [ht.at_.heap] at h1
  simp at h1
theorem RefAt.beside (hr : RefAt w q vq vl ps now L) (ht : Tim w p b va ps' now' L') (hc : Chg (fun i => i = p ∨ i = b) w w') : RefAt w' q vq vl ps now L := by
  have hne := ref_ne_tim hr ht
  refine hr.keep hc (fun e => e.elim hne.1 hne.2) (fun k hk e => ?_) (fun k hk e => ?_)
  · rcases e with rfl | rfl
    · exact hr.per.ne_blk ht.at_.heap (by decide) k hk rfl
    · exact ht.at_.map.ne_own hr.per hk
  · rcases e with rfl | rfl
    · exact hr.row.ne_blk ht.at_.heap (by decide) k hk rfl
    · exact ht.at_.map.ne_own hr.row hk
theorem Tim.besideRef (ht : Tim w p b va ps' now' L') (hr : RefAt w q vq vl ps now L) (hc : Chg (fun i => i = q) w w') : Tim w' p b va ps' now' L' :=
  ⟨ht.at_.keep hc (fun e => (ref_ne_tim hr ht).1 e.symm) (fun e => (ref_ne_tim hr ht).2 e.symm) (fun k hk e => ht.at_.per.ne_blk hr.heap (by decide) k hk e), ht.good, ht.neat, ht.low⟩
theorem rtick_as {sv : Value} {picks : List Int} {tl : List D} (h : RefAt w q vq vl ps now L) (hk : ∀ w', Chg (fun i => i = q) w w' → PickAt w' sv picks) (hg : Good ps) (hn : 0 ≤ now) (hN : Neat ps now L) (hn2 : now ≤ 1000000) (hl : L.length ≤ 4000) (h1 : told ps now L picks = tl) (h2 : left ps now L picks = L') :
    Calls Try.prog 15 #[.pointer (some ⟨q, 0, none⟩), sv] w (RTickPost w q vq ps now tl L') := by
  subst h1 h2
  exact rtick_calls w q vq vl sv ps now L picks h hk hg hn hn2 hN hl
theorem rwait_as {xs : List D} (h : RefAt w q vq vl ps now L) (hl : L.length ≤ 5000) (h1 : L.map Prod.fst = xs) : Calls Try.prog 19 #[.pointer (some ⟨q, 0, none⟩)] w (NewDues 58 w xs) := by
  subst h1
  exact rwaiting_calls w q vq vl ps now L h hl
end

/-- What holds at the head of each round. -/
def PlayRel (w : World) (pk : List (List Int)) (ps : List Int) (va : Value) (q : Nat) (vq : Value) (tv iv : Value) (wr : World) : Prop :=
  ∃ (i p b : Nat) (vl : Value) (L : List (D × Int)), i ≤ pk.length ∧ tv = .pointer (some ⟨p, 0, none⟩) ∧ iv = .int .i64 i ∧ Tim wr p b va ps i L ∧ RefAt wr q vq vl ps i L ∧ L.length ≤ 8 * i ∧ Chg (fun _ => False) w wr ∧ w.heap.size ≤ p ∧ w.heap.size ≤ b

set_option maxRecDepth 100000 in
set_option maxHeartbeats 4000000 in
theorem plays_good (w : World) (A : Option Addr) (c : Nat) (ps : List Int) (Ap : Option Addr) (c2 : Nat) (pk : List (List Int)) (hr : Reads w A ps) (hp : PickRows w Ap pk) (hg : Good ps) (h1 : pk.length ≤ 300) :
    Calls Try.prog 3 #[.slice A ps.length c, .slice Ap pk.length c2] w (OnlyBool true w) := by
  have HR := Lib.hid hr
  have HP := Lib.hid hp
  have HG := Lib.hid hg
  obtain ⟨g1, g8, _⟩ := hg
  clear hr hp
  have hgt : decide ((20 : Int) < (ps.length : Int)) = false := by simp; omega
  have hgt2 : decide ((300 : Int) < (pk.length : Int)) = false := by simp; omega
  go_enter Try.func3, Try.ntmps3
  go_wp2_with (go_at_call 11; refine (new_calls w A c ps HR.out HG.out).mono ?_)
  rintro e w1 ⟨p, va, b, rfl, ht1, hc1, hp1, hb1, hv1⟩
  have H1 := Lib.hid (Tim.new ht1 HG.out)
  have C1 := Lib.hid hc1
  have R1 := Lib.hid (HR.out.keep hc1)
  clear ht1 hc1 hv1
  go_wp2_with (go_at_call 12; refine (rnew_good w1 A c ps R1.out HG.out).mono ?_)
  rintro e w2 ⟨q, vq, rfl, hr2, hc2, hq2, _⟩
  have H2 := Lib.hid (H1.out.quiet hc2)
  have HRf := Lib.hid hr2
  have hqq : w.heap.size ≤ q := Nat.le_trans C1.out.size hq2
  have C2 := Lib.hid (C1.out.comp hc2 (fun _ _ f => f))
  clear hr2 hc2 hq2 H1 C1 R1
  go_wp2_with fail
  go_loopw [5, 9] (PlayRel w pk ps va q vq) (fun _ iv _ => pk.length - (intOf iv).toNat)
  case atStart => exact ⟨0, p, b, _, [], by omega, rfl, rfl, H2.out, HRf.out, by simp, C2.out, hp1, hb1⟩
  case round =>
    obtain ⟨i, p, b, vl, L, hi, rfl, rfl, ht, hrf, hLl, hch, hpp, hbb⟩ := hrel
    have HT := Lib.hid ht
    have HRF := Lib.hid hrf
    have HC := Lib.hid hch
    have PP := Lib.hid (show w.heap.size ≤ p ∧ w.heap.size ≤ b from ⟨hpp, hbb⟩)
    clear ht hrf hch hpp hbb H2 HRf C2
    by_cases hlt : i < pk.length
    · have hlt' : (i : Int) < (pk.length : Int) := by omega
      obtain ⟨l, hl⟩ : ∃ l, pk[i]? = some l := ⟨pk[i], List.getElem?_eq_getElem hlt⟩
      obtain ⟨b2, off2, v, rfl, hv0, hpl⟩ := HP.out.at_ hl
      obtain ⟨Al, cl, rfl, hpl'⟩ := hpl
      have HV0 := Lib.hid hv0
      have HPl := Lib.hid (show PickAt w (.slice Al l.length cl) l from ⟨Al, cl, rfl, hpl'⟩)
      clear hpl' hl hv0
      obtain ⟨tl, htl⟩ : ∃ tl, told ps i L l = tl := ⟨_, rfl⟩
      obtain ⟨Ln, hLn⟩ : ∃ Ln, left ps i L l = Ln := ⟨_, rfl⟩
      obtain ⟨xs, hxs⟩ : ∃ xs, Ln.map Prod.fst = xs := ⟨_, rfl⟩
      have HN := Lib.hid HT.out.neat
      have hbd := told_left_length HT.out.neat l
      have hxl : xs.length = Ln.length := by rw [← hxs]; simp
      have HTL := Lib.hid htl
      have HLN := Lib.hid hLn
      have HXS := Lib.hid hxs
      rw [htl, hLn] at hbd
      have HBD := Lib.hid hbd
      clear htl hLn hxs
      by_cases h3 : i % 7 = 3
      · have h3' : ((i : Int).tmod 7 == 3) = true := by rw [Int.tmod_eq_emod_of_nonneg (by omega)]; simp; omega
        have h3'' : ((i : Int) % 7 == 3) = true := by simp; omega
        clear h3
        go_wp2_with (go_at_call 13; refine (copy_calls _ p b va ps i L HT.out.at_).mono ?_)
        rintro e w2 ⟨p2, d, rfl, htc, hc2, hq, hd⟩
        have HNE := Lib.hid (ne_new HT.out (Chg.refl _ _) hq hd)
        have PQ := Lib.hid (show w.heap.size ≤ p2 ∧ w.heap.size ≤ d from ⟨Nat.le_trans HC.out.size hq, Nat.le_trans HC.out.size hd⟩)
        have HTq := Lib.hid (show Tim w2 p2 d va ps i L from ⟨htc, HG.out, HT.out.neat, HT.out.low⟩)
        have HTp := Lib.hid (HT.out.quiet hc2)
        have HRp := Lib.hid (HRF.out.quiet hc2)
        have HC2 := Lib.hid (HC.out.comp hc2 (fun _ _ f => f))
        clear htc hc2 hq hd HT HC HRF
        go_wp2_with (go_at_call 14; refine (HTp.out.tick [] _ (pick_nil _) (by omega) (by omega)).mono ?_)
        rintro e w5 ⟨A5, c5, rfl, _, _, _, hc5⟩
        have HT := Lib.hid (HTq.out.apart HTp.out HNE.out.1.symm HNE.out.2.symm hc5)
        have HRF := Lib.hid (HRp.out.beside HTp.out hc5)
        have HC := Lib.hid (own_new HC2.out PP.out hc5)
        have hv := keep_cell HC.out HV0.out
        clear hc5 HTq HTp HRp HC2 PP
        have PP := Lib.hid PQ.out
        go_wp2_with (go_at_call 14; refine (HT.out.tickAs l _ (HPl.out.quiet HC.out) (by omega) (by omega) HTL.out HLN.out).mono ?_)
        rintro e w6 ⟨A6, c6, rfl, ho6, _, ht6, hc6⟩
        have HO6 := Lib.hid ho6
        have HT6 := Lib.hid ht6
        have HR6 := Lib.hid (HRF.out.beside HT.out hc6)
        have HC6 := Lib.hid (own_new HC.out PP.out hc6)
        have hv6 := keep_cell HC6.out HV0.out
        clear ho6 ht6 hc6 HRF HC
        go_wp2_with (go_at_call 15; refine (rtick_as HR6.out (fun w' hc => HPl.out.quiet (HC6.out.comp hc (fun j hj e => by omega))) HG.out (by omega) HN.out (by omega) (by omega) HTL.out HLN.out).mono ?_)
        rintro e w7 ⟨A7, c7, vl7, rfl, ho7, hr7, hc7⟩
        have HO7 := Lib.hid ho7
        have HR7 := Lib.hid hr7
        have HO67 := Lib.hid (HO6.out.keep hc7 (fun k hk e => HO6.out.ne_blk HR6.out.heap (by decide) k hk e))
        have HT7 := Lib.hid (HT6.out.besideRef HR6.out hc7)
        have HC7 := Lib.hid (HC6.out.comp hc7 (fun j hj e => by omega))
        obtain ⟨_, kn, _, _, _, _, kq⟩ := cells3 hr7.heap
        clear ho7 hr7 hc7 HO6 HT6 HR6 HC6 hv6 hv
        go_wp2_with fail
        have hd7 := (Chg.refl (fun _ => False) w7).drew
        have JO67 := Lib.hid (HO67.out.quiet hd7)
        have JO7 := Lib.hid (HO7.out.quiet hd7)
        have JT7 := Lib.hid (HT7.out.quiet hd7)
        have JR7 := Lib.hid (HR7.out.quiet hd7)
        have JC7 := Lib.hid (HC7.out.comp hd7 (fun _ _ f => f))
        have BT := Lib.hid (show tl.length ≤ 10000 by omega)
        have BX := Lib.hid (show xs.length ≤ 10000 by omega)
        have BL := Lib.hid (show Ln.length ≤ 4000 by omega)
        have BM := Lib.hid (show Ln.length ≤ 5000 by omega)
        clear hd7 HO67 HO7 HT7 HR7 HC7 hxl hbd
        have BK := Lib.hid (show Ln.length ≤ 8 * (i + 1) by have := HLN.out; have := HBD.out; omega)
        go_region_held3 (fun w' => w'.cell? ⟨q, 1, none⟩ = some (.int .i64 ((i : Int) + 1))) (assumption)
          (first
            | (go_at_call 17; refine (plain_calls _ A6 c6 tl JO67.out BT.out).mono ?_; rintro e wa ⟨Aa, ca, rfl, hoa, hca, _⟩; have HOa := Lib.hid hoa; have HO7a := Lib.hid (JO7.out.quiet hca); have HTa := Lib.hid (JT7.out.quiet hca); have HRa := Lib.hid (JR7.out.quiet hca); have HCa := Lib.hid (JC7.out.comp hca (fun _ _ f => f)); have kna := (cells3 HRa.out.heap).2.1; clear hoa hca JO67)
            | (go_at_call 16; refine (same_eq _ Aa A7 ca c7 tl HOa.out HO7a.out BT.out).mono ?_; rintro e wb ⟨rfl, hcb⟩; have HTb := Lib.hid (HTa.out.quiet hcb); have HRb := Lib.hid (HRa.out.quiet hcb); have HCb := Lib.hid (HCa.out.comp hcb (fun _ _ f => f)); have knb := (cells3 HRb.out.heap).2.1; clear hcb HOa HO7a)
            | (go_at_call 18; refine (HTb.out.waitAs BL.out HXS.out).mono ?_; rintro e wc ⟨Ac, cc, rfl, hoc, hcc, _⟩; have HOc := Lib.hid hoc; have HTc := Lib.hid (HTb.out.quiet hcc); have HRc := Lib.hid (HRb.out.quiet hcc); have HCc := Lib.hid (HCb.out.comp hcc (fun _ _ f => f)); have knc := (cells3 HRc.out.heap).2.1; clear hoc hcc)
            | (go_at_call 17; refine (plain_calls _ Ac cc xs HOc.out BX.out).mono ?_; rintro e wd ⟨Ad, cd, rfl, hod, hcd, _⟩; have HOd := Lib.hid hod; have HTd := Lib.hid (HTc.out.quiet hcd); have HRd := Lib.hid (HRc.out.quiet hcd); have HCd := Lib.hid (HCc.out.comp hcd (fun _ _ f => f)); have knd := (cells3 HRd.out.heap).2.1; clear hod hcd HOc)
            | (go_at_call 19; refine (rwait_as HRd.out BM.out HXS.out).mono ?_; rintro e we ⟨Ae, ce, rfl, hoe, hce, _⟩; have HOe := Lib.hid hoe; have HOde := Lib.hid (HOd.out.quiet hce); have HTe := Lib.hid (HTd.out.quiet hce); have HRe := Lib.hid (HRd.out.quiet hce); have HCe := Lib.hid (HCd.out.comp hce (fun _ _ f => f)); have kne := (cells3 HRe.out.heap).2.1; clear hoe hce HOd)
            | (go_at_call 16; refine (same_eq _ Ad Ae cd ce xs HOde.out HOe.out BX.out).mono ?_; rintro e wf ⟨rfl, hcf⟩; have HTf := Lib.hid (HTe.out.quiet hcf); have HRf := Lib.hid (HRe.out.quiet hcf); have HCf := Lib.hid (HCe.out.comp hcf (fun _ _ f => f)); have knf := (cells3 HRf.out.heap).2.1; clear hcf HOde HOe)
            | (go_at_call 20; refine (now_at _ _ _ va _ _ _ HTf.out.at_).mono ?_; rintro e wg ⟨rfl, rfl⟩))
        go_wp2_with fail
        go_roundw
        case rel => exact ⟨i + 1, _, _, vl7, Ln, hlt, rfl, by go_num, by have := HTf.out; rwa [show ((i : Int) + 1) = ((i + 1 : Nat) : Int) by omega] at this, by have := HRf.out; rwa [show ((i : Int) + 1) = ((i + 1 : Nat) : Int) by omega] at this, BK.out, HCf.out, PP.out.1, PP.out.2⟩
        case measure => simp [intOf]; omega
      · have h3' : ((i : Int).tmod 7 == 3) = false := by rw [Int.tmod_eq_emod_of_nonneg (by omega)]; simp; omega
        have h3'' : ((i : Int) % 7 == 3) = false := by simp; omega
        clear h3
        have hv := keep_cell HC.out HV0.out
        go_wp2_with (go_at_call 14; refine (HT.out.tickAs l _ (HPl.out.quiet HC.out) (by omega) (by omega) HTL.out HLN.out).mono ?_)
        rintro e w6 ⟨A6, c6, rfl, ho6, _, ht6, hc6⟩
        have HO6 := Lib.hid ho6
        have HT6 := Lib.hid ht6
        have HR6 := Lib.hid (HRF.out.beside HT.out hc6)
        have HC6 := Lib.hid (own_new HC.out PP.out hc6)
        have hv6 := keep_cell HC6.out HV0.out
        clear ho6 ht6 hc6 HRF HC
        go_wp2_with (go_at_call 15; refine (rtick_as HR6.out (fun w' hc => HPl.out.quiet (HC6.out.comp hc (fun j hj e => by omega))) HG.out (by omega) HN.out (by omega) (by omega) HTL.out HLN.out).mono ?_)
        rintro e w7 ⟨A7, c7, vl7, rfl, ho7, hr7, hc7⟩
        have HO7 := Lib.hid ho7
        have HR7 := Lib.hid hr7
        have HO67 := Lib.hid (HO6.out.keep hc7 (fun k hk e => HO6.out.ne_blk HR6.out.heap (by decide) k hk e))
        have HT7 := Lib.hid (HT6.out.besideRef HR6.out hc7)
        have HC7 := Lib.hid (HC6.out.comp hc7 (fun j hj e => by omega))
        obtain ⟨_, kn, _, _, _, _, kq⟩ := cells3 hr7.heap
        clear ho7 hr7 hc7 HO6 HT6 HR6 HC6 hv6 hv
        go_wp2_with fail
        have hd7 := (Chg.refl (fun _ => False) w7).drew
        have JO67 := Lib.hid (HO67.out.quiet hd7)
        have JO7 := Lib.hid (HO7.out.quiet hd7)
        have JT7 := Lib.hid (HT7.out.quiet hd7)
        have JR7 := Lib.hid (HR7.out.quiet hd7)
        have JC7 := Lib.hid (HC7.out.comp hd7 (fun _ _ f => f))
        have BT := Lib.hid (show tl.length ≤ 10000 by omega)
        have BX := Lib.hid (show xs.length ≤ 10000 by omega)
        have BL := Lib.hid (show Ln.length ≤ 4000 by omega)
        have BM := Lib.hid (show Ln.length ≤ 5000 by omega)
        clear hd7 HO67 HO7 HT7 HR7 HC7 hxl hbd
        have BK := Lib.hid (show Ln.length ≤ 8 * (i + 1) by have := HLN.out; have := HBD.out; omega)
        go_region_held3 (fun w' => w'.cell? ⟨q, 1, none⟩ = some (.int .i64 ((i : Int) + 1))) (assumption)
          (first
            | (go_at_call 17; refine (plain_calls _ A6 c6 tl JO67.out BT.out).mono ?_; rintro e wa ⟨Aa, ca, rfl, hoa, hca, _⟩; have HOa := Lib.hid hoa; have HO7a := Lib.hid (JO7.out.quiet hca); have HTa := Lib.hid (JT7.out.quiet hca); have HRa := Lib.hid (JR7.out.quiet hca); have HCa := Lib.hid (JC7.out.comp hca (fun _ _ f => f)); have kna := (cells3 HRa.out.heap).2.1; clear hoa hca JO67)
            | (go_at_call 16; refine (same_eq _ Aa A7 ca c7 tl HOa.out HO7a.out BT.out).mono ?_; rintro e wb ⟨rfl, hcb⟩; have HTb := Lib.hid (HTa.out.quiet hcb); have HRb := Lib.hid (HRa.out.quiet hcb); have HCb := Lib.hid (HCa.out.comp hcb (fun _ _ f => f)); have knb := (cells3 HRb.out.heap).2.1; clear hcb HOa HO7a)
            | (go_at_call 18; refine (HTb.out.waitAs BL.out HXS.out).mono ?_; rintro e wc ⟨Ac, cc, rfl, hoc, hcc, _⟩; have HOc := Lib.hid hoc; have HTc := Lib.hid (HTb.out.quiet hcc); have HRc := Lib.hid (HRb.out.quiet hcc); have HCc := Lib.hid (HCb.out.comp hcc (fun _ _ f => f)); have knc := (cells3 HRc.out.heap).2.1; clear hoc hcc)
            | (go_at_call 17; refine (plain_calls _ Ac cc xs HOc.out BX.out).mono ?_; rintro e wd ⟨Ad, cd, rfl, hod, hcd, _⟩; have HOd := Lib.hid hod; have HTd := Lib.hid (HTc.out.quiet hcd); have HRd := Lib.hid (HRc.out.quiet hcd); have HCd := Lib.hid (HCc.out.comp hcd (fun _ _ f => f)); have knd := (cells3 HRd.out.heap).2.1; clear hod hcd HOc)
            | (go_at_call 19; refine (rwait_as HRd.out BM.out HXS.out).mono ?_; rintro e we ⟨Ae, ce, rfl, hoe, hce, _⟩; have HOe := Lib.hid hoe; have HOde := Lib.hid (HOd.out.quiet hce); have HTe := Lib.hid (HTd.out.quiet hce); have HRe := Lib.hid (HRd.out.quiet hce); have HCe := Lib.hid (HCd.out.comp hce (fun _ _ f => f)); have kne := (cells3 HRe.out.heap).2.1; clear hoe hce HOd)
            | (go_at_call 16; refine (same_eq _ Ad Ae cd ce xs HOde.out HOe.out BX.out).mono ?_; rintro e wf ⟨rfl, hcf⟩; have HTf := Lib.hid (HTe.out.quiet hcf); have HRf := Lib.hid (HRe.out.quiet hcf); have HCf := Lib.hid (HCe.out.comp hcf (fun _ _ f => f)); have knf := (cells3 HRf.out.heap).2.1; clear hcf HOde HOe)
            | (go_at_call 20; refine (now_at _ _ _ va _ _ _ HTf.out.at_).mono ?_; rintro e wg ⟨rfl, rfl⟩))
        go_wp2_with fail
        go_roundw
        case rel => exact ⟨i + 1, _, _, vl7, Ln, hlt, rfl, by go_num, by have := HTf.out; rwa [show ((i : Int) + 1) = ((i + 1 : Nat) : Int) by omega] at this, by have := HRf.out; rwa [show ((i : Int) + 1) = ((i + 1 : Nat) : Int) by omega] at this, BK.out, HCf.out, PP.out.1, PP.out.2⟩
        case measure => simp [intOf]; omega
    · have hlt' : decide ((i : Int) < (pk.length : Int)) = false := by simp; omega
      go_wp2_with (go_at_call 10; refine (known_calls _).mono ?_)
      rintro e w13 ⟨rfl, hc13⟩
      go_wp2_with fail
      go_ret
      exact ⟨rfl, HC.out.comp hc13 (fun _ _ f => f)⟩

set_option maxRecDepth 100000 in
set_option maxHeartbeats 4000000 in
theorem plays_bad (w : World) (A : Option Addr) (c : Nat) (ps : List Int) (Ap : Option Addr) (n c2 : Nat) (hr : Reads w A ps) (hg : ¬ Good ps) (hl : ps.length ≤ 20) (hn : n ≤ 300) :
    Calls Try.prog 3 #[.slice A ps.length c, .slice Ap n c2] w (OnlyBool true w) := by
  have HR := Lib.hid hr
  have HG := Lib.hid hg
  clear hr hg
  have hgt : decide ((20 : Int) < (ps.length : Int)) = false := by simp; omega
  have hgt2 : decide ((300 : Int) < (n : Int)) = false := by simp; omega
  go_enter Try.func3, Try.ntmps3
  go_wp2_with (go_at_call 11; refine (new_err w A c ps HR.out HG.out).mono ?_)
  rintro e w1 ⟨rfl, hc1⟩
  have C1 := Lib.hid hc1
  have R1 := Lib.hid (HR.out.keep hc1)
  clear hc1
  go_wp2_with (go_at_call 12; refine (rnew_err w1 A c ps R1.out HG.out).mono ?_)
  rintro e w2 ⟨rfl, hc2⟩
  have C2 := Lib.hid (C1.out.comp hc2 (fun _ _ f => f))
  clear hc2 C1
  go_wp2_with fail
  go_loopw [5, 9] (fun tv iv wr => tv = .pointer none ∧ iv = .int .i64 0 ∧ Chg (fun _ => False) w wr) (fun _ iv _ => 0)
  case atStart => exact ⟨rfl, rfl, C2.out⟩
  case round =>
    obtain ⟨rfl, rfl, hch⟩ := hrel
    have HC := Lib.hid hch
    clear hch C2
    rcases Nat.eq_zero_or_pos n with h0 | h0
    · have h0' : decide ((0 : Int) < (n : Int)) = false := by simp; omega
      go_wp2_with (go_at_call 10; refine (known_calls _).mono ?_)
      rintro e w13 ⟨rfl, hc13⟩
      go_wp2_with fail
      go_ret
      exact ⟨rfl, HC.out.comp hc13 (fun _ _ f => f)⟩
    · have h0' : decide ((0 : Int) < (n : Int)) = true := by simp; omega
      go_wp2_with (go_at_call 10; refine (known_calls _).mono ?_)
      rintro e w13 ⟨rfl, hc13⟩
      go_wp2_with fail
      go_ret
      exact ⟨rfl, HC.out.comp hc13 (fun _ _ f => f)⟩

set_option maxRecDepth 100000 in
set_option maxHeartbeats 4000000 in
theorem plays_long (w : World) (A : Option Addr) (c n : Nat) (Ap : Option Addr) (m c2 : Nat) (hn : 20 < n ∨ 300 < m) :
    Calls Try.prog 3 #[.slice A n c, .slice Ap m c2] w (OnlyBool true w) := by
  by_cases h : 20 < n
  · have hgt : decide ((20 : Int) < (n : Int)) = true := by simp; omega
    go_enter Try.func3, Try.ntmps3
    go_wp2_with (go_at_call 10; refine (known_calls _).mono ?_)
    rintro e w13 ⟨rfl, hc13⟩
    go_wp2_with fail
    go_ret
    exact ⟨rfl, hc13⟩
  · have hgt : decide ((20 : Int) < (n : Int)) = false := by simp; omega
    have hgt2 : decide ((300 : Int) < (m : Int)) = true := by simp; omega
    go_enter Try.func3, Try.ntmps3
    go_wp2_with (go_at_call 10; refine (known_calls _).mono ?_)
    rintro e w13 ⟨rfl, hc13⟩
    go_wp2_with fail
    go_ret
    exact ⟨rfl, hc13⟩

theorem plays_calls (w : World) (A : Option Addr) (c : Nat) (ps : List Int) (Ap : Option Addr) (c2 : Nat) (pk : List (List Int)) (hr : Reads w A ps) (hp : PickRows w Ap pk) :
    Calls Try.prog 3 #[.slice A ps.length c, .slice Ap pk.length c2] w (OnlyBool true w) := by
  by_cases h : 20 < ps.length ∨ 300 < pk.length
  · exact plays_long w A c _ Ap _ c2 h
  · by_cases hg : Good ps
    · exact plays_good w A c ps Ap c2 pk hr hp hg (by omega)
    · exact plays_bad w A c ps Ap _ c2 hr hg (by omega) (by omega)
end Go.Proofs.Ytnhnmjdmenehoaa

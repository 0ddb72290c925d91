/- Contracts of Go functions that the statement reaches, proved by walking their text, and plain laws over them (texts put together). -/
import Derived.Test.YthpkoidlpfllaaaDoorKS3
import Derived.Test.YthpkoidlpfllaaaDoorKS1
import Derived.Test.YthpkoidlpfllaaaDoorKS2
set_option linter.unusedVariables false
set_option linter.unusedSimpArgs false
namespace Go.Proofs.YthpkoidlpfllaaaDoor
open Go.RowKit
theorem RN.head {w : World} {A : Option Addr} {l c n : Nat} (h : RN w (.slice A l c) n) (h0 : n ≠ 0) : (1 < l ∧ n ≠ 1) ∨ (l = 1 ∧ n < 4294967296 ∧ ∃ g o, A = some ⟨g, o, none⟩ ∧ g < w.heap.size ∧ w.cell? ⟨g, o, none⟩ = some (.int .u32 (n : Int))) := by
 obtain ⟨A', c', xs, e, _, hx, hr⟩ := h.opened
 injection e with e1 e2 e3
 subst e1 e2 e3
 have hp : 0 < xs.length := by rw [hx.out]; exact wlen_pos.2 h0
 by_cases h1 : xs.length = 1
 ·right
  obtain ⟨g, o, rfl, hg, hc⟩ := hr.out.cell (j := 0) hp
  have hn : nat xs 0 = n := by
   rw [← valN_dg n, ← hx.out]
   match xs, h1 with
   | [y], _ => simp [nat, valN]
  rw [hn, Nat.add_zero] at hc
  exact ⟨h1, by rw [← hn]; exact nat_lt hr.out.wd 0, g, o, rfl, hg, hc⟩
 ·left
  refine ⟨by omega, ?_⟩
  rintro rfl
  exact h1 (by rw [hx.out]; rfl)
set_option maxHeartbeats 8000000 in
set_option maxRecDepth 100000 in
theorem rone_calls (w : World) : Calls Tryd.prog 50 #[] w fun e w' => ∃ g, e = .returned (.slice (some ⟨g, 0, none⟩) 1 1) ∧ RN w' (.slice (some ⟨g, 0, none⟩) 1 1) 1 ∧ Below w.heap.size w w' := by
 go_enter Tryd.func50, Tryd.ntmps50
 go_wp2_with fail
 go_ret
 exact ⟨w.heap.size, rfl, rn_one w 44, below_new w _⟩
set_option maxHeartbeats 8000000 in
set_option maxRecDepth 100000 in
theorem rzero_calls (w : World) : Calls Tryd.prog 42 #[] w fun e w' => FPost w 0 e w' := by
 go_enter Tryd.func42, Tryd.ntmps42
 go_wp2_with fail
 have H0 := Hd (HS.one (w := w) #[.bool false, .slice none 0 0, .slice none 0 0] 27)
 generalize w.alloc (.cells #[.bool false, .slice none 0 0, .slice none 0 0] 27) = W0 at *
 refine (rone_calls W0).mono ?_
 rintro e w1 ⟨g, rfl, h1, hb⟩
 have H1 := Hd (H0.out.step hb)
 have HV := Hd h1
 clear hb h1
 obtain ⟨e0, e1, e2⟩ := (H1.out.blk 0 rfl).c3
 obtain ⟨f0, f1, f2⟩ := (H1.out.blk 0 rfl).f3
 go_wp2_with fail
 exact end40 Tryd.results42 rfl (H1.out.blk 0 rfl) ⟨_, _, rfl, Rd.nil _, HV.out⟩ (Nat.le_refl _) H1.out.2
theorem mk_size (neg : Bool) (m n : Nat) (hn : n ≠ 0) : sizeQ (mkRat (sg neg m) n) = wlen (m / Nat.gcd m n) + wlen (n / Nat.gcd m n) := by
 unfold sizeQ
 rw [mk_num neg m n hn, mk_den neg m n hn, sg_natAbs]
theorem fq_mk {w : World} {v1 v2 : Value} {neg : Bool} {m n g : Nat} (hn : n ≠ 0) (hm : m ≠ 0) (hg : g = Nat.gcd m n) (h1 : RN w v1 (m / g)) (h2 : RN w v2 (n / g)) : FQ w (.agg #[.bool neg, v1, v2]) (mkRat (sg neg m) n) := by
 subst hg
 exact ⟨v1, v2, by rw [mk_neg neg m n hn hm], by rw [mk_num neg m n hn, sg_natAbs]; exact h1, by rw [mk_den neg m n hn]; exact h2⟩
set_option maxHeartbeats 16000000 in
set_option maxRecDepth 100000 in
theorem rlowest_calls (w : World) (v v2 : Value) (neg : Bool) (m n : Nat) (h : RN w v m) (h2 : RN w v2 n) (hm : wlen m ≤ 1000000000) (hn : wlen n ≤ 1000000000) (hn0 : n ≠ 0) :
  Calls Tryd.prog 48 #[.bool neg, v, v2] w fun e w' => FPost w (capQ (mkRat (sg neg m) n)) e w' := by
 have HRN := Hd h
 have HRN2 := Hd h2
 obtain ⟨A, c, xs, rfl, hc, HX, _⟩ := h.opened
 obtain ⟨A2, c2, ys, rfl, hc2, HY, _⟩ := h2.opened
 clear h h2
 obtain ⟨l1, hl1⟩ : ∃ l, l = xs.length := ⟨_, rfl⟩
 obtain ⟨l2, hl2⟩ : ∃ l, l = ys.length := ⟨_, rfl⟩
 have hw1 : l1 = wlen m := by rw [hl1, HX.out]; rfl
 have hw2 : l2 = wlen n := by rw [hl2, HY.out]; rfl
 rw [← hl1] at HRN ⊢
 rw [← hl2] at HRN2 ⊢
 clear hl1 hl2 HX HY hc hc2
 go_enter Tryd.func48, Tryd.ntmps48
 by_cases hm0 : m = 0
 ·have q0 : ((l1 : Int) == 0) = true := eqb0 (by rw [hw1, hm0]; rfl)
  have HQ : Hid (capQ (mkRat (sg neg m) n) = 0) := by unfold Hid; rw [hm0, mk_zero, capQ_zero]
  clear hw1 hw2 hm0
  go_wp2_with fail
  have H0 := Hd (HS.one (w := w) #[.bool false, .slice none 0 0, .slice none 0 0] 27)
  generalize w.alloc (.cells #[.bool false, .slice none 0 0, .slice none 0 0] 27) = W0 at *
  refine (rzero_calls W0).mono ?_
  rintro e w1 ⟨v, rfl, hv, hb⟩
  obtain ⟨A5, n5, c5, A6, n6, c6, rfl, HV⟩ := hv.opened
  have H1 := Hd (H0.out.step hb)
  clear hv hb
  obtain ⟨e0, e1, e2⟩ := (H1.out.blk 0 rfl).c3
  obtain ⟨f0, f1, f2⟩ := (H1.out.blk 0 rfl).f3
  go_wp2_with fail
  rw [HQ.out]
  exact end40 Tryd.results48 rfl (H1.out.blk 0 rfl) HV.out (Nat.le_refl _) H1.out.2
 have hl10 : 0 < l1 := by rw [hw1]; exact wlen_pos.2 hm0
 have q0 : ((l1 : Int) == 0) = false := neb0 (by omega)
 have hg0 : Nat.gcd m n ≠ 0 := fun h => hm0 (Nat.gcd_eq_zero_iff.1 h).1
 obtain ⟨g, hg⟩ : ∃ g, g = Nat.gcd m n := ⟨_, rfl⟩
 have HG := Hd hg
 rw [← hg] at hg0
 have hgl : wlen g ≤ 1000000000 := by rw [hg]; exact Nat.le_trans (wlen_mono (Nat.gcd_le_left _ (Nat.pos_of_ne_zero hm0))) hm
 have HW1 := Hd hw1
 have HW2 := Hd hw2
 have HM0 := Hd hm0
 have HN0 := Hd hn0
 have HG0 := Hd hg0
 clear hw1 hw2 hm0 hg hg0
 by_cases hn1 : n = 1
 ·have hg1 : g = 1 := by rw [HG.out, hn1, Nat.gcd_one_right]
  rcases HRN2.out.head HN0.out with ⟨_, h1⟩ | ⟨e1, h32, gg, oo, rfl, hgg, hcell⟩
  ·exact absurd hn1 h1
  ·subst e1
   have HN1 := Hd hn1
   have HH1 := Hd hg1
   rw [hn1] at hcell
   have hc1 : w.cell? ⟨gg, oo, none⟩ = some (.int .u32 1) := hcell
   have t1' : decide (((1 : Nat) : Int) > 1) = false := by decide
   have t2 : ((1 : Int) != 1) = false := rfl
   have H0 := Hd (HS.one (w := w) #[.bool false, .slice none 0 0, .slice none 0 0] 27)
   have HB0 := Hd (below_new w (.cells #[.bool false, .slice none 0 0, .slice none 0 0] 27))
   clear hn1 hg1 hcell
   have HR1 := Hd (show RN _ (.slice A l1 c) (m / g) from (by rw [HH1.out, Nat.div_one]; exact HRN.out.of_below HB0.out))
   have HR2 := Hd (show RN _ (.slice (some ⟨gg, oo, none⟩) 1 c2) (n / g) from (by rw [HH1.out, Nat.div_one]; exact HRN2.out.of_below HB0.out))
   have H9 := Hd (H0.out)
   have HK1 : Hid (l1 = wlen (m / g)) := by unfold Hid; rw [HH1.out, Nat.div_one]; exact HW1.out
   have HK2 : Hid (1 = wlen (n / g)) := by unfold Hid; rw [HH1.out, Nat.div_one]; exact HW2.out
   have hk1 : l1 ≤ 1000000000 := by rw [HK1.out]; exact Nat.le_trans (wlen_mono (Nat.div_le_self _ _)) hm
   have hk2 : 1 ≤ 1000000000 := by rw [HK2.out]; exact Nat.le_trans (wlen_mono (Nat.div_le_self _ _)) hn
   have wl : IntKind.i64.wrap ((l1 : Int) + (1 : Int)) = (l1 : Int) + (1 : Int) := IntWalk.i64_in _ (by omega)
   have hsz : sizeQ (mkRat (sg neg m) n) = l1 + 1 := by rw [mk_size neg m n HN0.out, ← HG.out, HK1.out, HK2.out]
   by_cases hbig : 4096 < l1 + 1
   ·have t1 : decide ((l1 : Int) + (1 : Int) > 4096) = true := decide_eq_true (by omega)
    have HQ : Hid (capQ (mkRat (sg neg m) n) = 0) := by unfold Hid capQ; rw [if_neg (by omega)]
    clear hsz
    go_wp2_with fail
    refine (rzero_calls _).mono ?_
    rintro e w9 ⟨v, rfl, hv, hb⟩
    obtain ⟨A5, n5, c5, A6, n6, c6, rfl, HV⟩ := hv.opened
    have H2 := Hd (H9.out.step hb)
    clear hv hb
    obtain ⟨e0, e1, e2⟩ := (H2.out.blk 0 rfl).c3
    obtain ⟨f0, f1, f2⟩ := (H2.out.blk 0 rfl).f3
    go_wp2_with fail
    rw [HQ.out]
    exact end40 Tryd.results48 rfl (H2.out.blk 0 rfl) HV.out (Nat.le_refl _) H2.out.2
   ·have t1 : decide ((l1 : Int) + (1 : Int) > 4096) = false := decide_eq_false (by omega)
    have HQ : Hid (capQ (mkRat (sg neg m) n) = mkRat (sg neg m) n) := by unfold Hid capQ; rw [if_pos (by omega)]
    obtain ⟨e0, e1, e2⟩ := (H9.out.blk 0 rfl).c3
    obtain ⟨f0, f1, f2⟩ := (H9.out.blk 0 rfl).f3
    clear hsz
    go_wp2_with fail
    rw [HQ.out]
    exact ret40 Tryd.results48 rfl (Blk.new w 27 _) ⟨_, rfl, fq_mk HN0.out HM0.out HG.out (by rw [HH1.out, Nat.div_one]; exact HRN.out.of_below (below_new w _)) (by rw [HH1.out, Nat.div_one]; exact HRN2.out.of_below (below_new w _)), below_new w _⟩
 have t : (1 < l2 ∧ (l2 : Int) > 1) ∨ (l2 = 1 ∧ ∃ gg oo, A2 = some ⟨gg, oo, none⟩ ∧ gg < w.heap.size ∧ w.cell? ⟨gg, oo, none⟩ = some (.int .u32 (n : Int)) ∧ ((n : Int) != 1) = true) := by
  rcases HRN2.out.head HN0.out with ⟨h1, _⟩ | ⟨e1, h32, gg, oo, e2, hgg, hcell⟩
  ·exact .inl ⟨by omega, by omega⟩
  ·exact .inr ⟨e1, gg, oo, e2, hgg, hcell, bneI (by omega)⟩
 clear hn1
 rcases t with ⟨t0, t1⟩ | ⟨e1, gg, oo, e2, hgg, hcell, t2⟩
 case' inr =>
  subst e2
  have t1 : ¬ (l2 : Int) > 1 := by omega
  have t3 : (0 : Int) < (l2 : Int) := by omega
  have t4 : 0 < l2 := by omega
  clear e1
 all_goals
  go_wp2_with fail
  have H0 := Hd (HS.one (w := w) #[.bool false, .slice none 0 0, .slice none 0 0] 27)
  generalize w.alloc (.cells #[.bool false, .slice none 0 0, .slice none 0 0] 27) = W0 at *
  have HRN_0 := Hd (HRN.out.of_below H0.out.2)
  have HRN2_0 := Hd (HRN2.out.of_below H0.out.2)
  refine (rcommon_calls W0 _ _ m n HRN_0.out HRN2_0.out (by omega) (by omega)).mono ?_
  rintro e w1 ⟨v, rfl, hv, hb⟩
  rw [← HG.out] at hv
  have H1 := Hd (H0.out.step hb)
  have HRN_1 := Hd (HRN_0.out.of_below hb)
  have HRN2_1 := Hd (HRN2_0.out.of_below hb)
  have HV := Hd hv
  obtain ⟨A5, c5, zs, rfl, _, _, _⟩ := hv.opened
  obtain ⟨l5, hl5⟩ : ∃ l, l = zs.length := ⟨_, rfl⟩
  rw [← hl5] at HV ⊢
  clear hb hv hl5
  rcases HV.out.head HG0.out with ⟨h1, _⟩ | ⟨e1, h32, g5, o5, rfl, hg5, hcell5⟩
  ·have u1 : (l5 : Int) > 1 := by omega
   go_wp2_with fail
   refine (rparts_calls w1 _ _ m g HRN_1.out HV.out (by omega) (by omega) HG0.out).mono ?_
   rintro e w2 ⟨q1, r1, rfl, hq1, hr1, hb⟩
   have H2 := Hd (H1.out.step hb)
   have HRN2_2 := Hd (HRN2_1.out.of_below hb)
   have HV_2 := Hd (HV.out.of_below hb)
   have HQ1 := Hd hq1
   obtain ⟨B1, b1, y1, rfl, _, hy1, _⟩ := hq1.opened
   obtain ⟨B2, b2, y2, rfl, _, _, _⟩ := hr1.opened
   have HY1 : Hid (y1.length = wlen (m / g)) := by unfold Hid; rw [hy1.out]; rfl
   clear hq1 hr1 hb hy1
   go_wp2_with fail
   refine (rparts_calls w2 _ _ n g HRN2_2.out HV_2.out (by omega) (by omega) HG0.out).mono ?_
   rintro e w3 ⟨q2, r2, rfl, hq2, hr2, hb⟩
   have H3 := Hd (H2.out.step hb)
   have HQ1_3 := Hd (HQ1.out.of_below hb)
   have HQ2 := Hd hq2
   obtain ⟨B3, b3, y3, rfl, _, hy3, _⟩ := hq2.opened
   obtain ⟨B4, b4, y4, rfl, _, _, _⟩ := hr2.opened
   have HY3 : Hid (y3.length = wlen (n / g)) := by unfold Hid; rw [hy3.out]; rfl
   clear hq2 hr2 hb hy3
   go_wp2_with fail
   go_quiet (fail)
   have hbz := pw_drewN (below_next (below_new w3 (.cells #[.slice B1 y1.length b1, .slice B2 y2.length b2] 94)) (below_new _ (.cells #[.slice B3 y3.length b3, .slice B4 y4.length b4] 94))) nq
   have HR1 := Hd (show RN _ (.slice B1 y1.length b1) (m / g) from HQ1_3.out.of_below hbz)
   have HR2 := Hd (show RN _ (.slice B3 y3.length b3) (n / g) from HQ2.out.of_below hbz)
   have H9 := Hd (H3.out.step hbz)
   have HK1 : Hid (y1.length = wlen (m / g)) := HY1
   have HK2 : Hid (y3.length = wlen (n / g)) := HY3
   have hk1 : y1.length ≤ 1000000000 := by rw [HK1.out]; exact Nat.le_trans (wlen_mono (Nat.div_le_self _ _)) hm
   have hk2 : y3.length ≤ 1000000000 := by rw [HK2.out]; exact Nat.le_trans (wlen_mono (Nat.div_le_self _ _)) hn
   have wl : IntKind.i64.wrap ((y1.length : Int) + (y3.length : Int)) = (y1.length : Int) + (y3.length : Int) := IntWalk.i64_in _ (by omega)
   have hsz : sizeQ (mkRat (sg neg m) n) = y1.length + y3.length := by rw [mk_size neg m n HN0.out, ← HG.out, HK1.out, HK2.out]
   by_cases hbig : 4096 < y1.length + y3.length
   ·have t1 : decide ((y1.length : Int) + (y3.length : Int) > 4096) = true := decide_eq_true (by omega)
    have HQ : Hid (capQ (mkRat (sg neg m) n) = 0) := by unfold Hid capQ; rw [if_neg (by omega)]
    clear hsz
    go_wp2_with fail
    refine (rzero_calls _).mono ?_
    rintro e w9 ⟨v, rfl, hv, hb⟩
    obtain ⟨A5, n5, c5, A6, n6, c6, rfl, HV⟩ := hv.opened
    have H2 := Hd (H9.out.step hb)
    clear hv hb
    obtain ⟨e0, e1, e2⟩ := (H2.out.blk 0 rfl).c3
    obtain ⟨f0, f1, f2⟩ := (H2.out.blk 0 rfl).f3
    go_wp2_with fail
    rw [HQ.out]
    exact end40 Tryd.results48 rfl (H2.out.blk 0 rfl) HV.out (Nat.le_refl _) H2.out.2
   ·have t1 : decide ((y1.length : Int) + (y3.length : Int) > 4096) = false := decide_eq_false (by omega)
    have HQ : Hid (capQ (mkRat (sg neg m) n) = mkRat (sg neg m) n) := by unfold Hid capQ; rw [if_pos (by omega)]
    obtain ⟨e0, e1, e2⟩ := (H9.out.blk 0 rfl).c3
    obtain ⟨f0, f1, f2⟩ := (H9.out.blk 0 rfl).f3
    clear hsz
    go_wp2_with fail
    rw [HQ.out]
    exact end40 Tryd.results48 rfl (H9.out.blk 0 rfl) (fq_mk HN0.out HM0.out HG.out HR1.out HR2.out) (Nat.le_refl _) H9.out.2
  ·subst e1
   have u1 : decide (((1 : Nat) : Int) > 1) = false := by decide
   by_cases hg1 : g = 1
   ·have u2 : ((g : Int) != 1) = false := beqI (by omega)
    have HH1 := Hd hg1
    clear hg1
    have HR1 := Hd (show RN _ (.slice A l1 c) (m / g) from (by rw [HH1.out, Nat.div_one]; exact HRN_1.out))
    have HR2 := Hd (show RN _ (_) (n / g) from (by rw [HH1.out, Nat.div_one]; exact HRN2_1.out))
    have H9 := Hd (H1.out)
    have HK1 : Hid (l1 = wlen (m / g)) := by unfold Hid; rw [HH1.out, Nat.div_one]; exact HW1.out
    have HK2 : Hid (l2 = wlen (n / g)) := by unfold Hid; rw [HH1.out, Nat.div_one]; exact HW2.out
    have hk1 : l1 ≤ 1000000000 := by rw [HK1.out]; exact Nat.le_trans (wlen_mono (Nat.div_le_self _ _)) hm
    have hk2 : l2 ≤ 1000000000 := by rw [HK2.out]; exact Nat.le_trans (wlen_mono (Nat.div_le_self _ _)) hn
    have wl : IntKind.i64.wrap ((l1 : Int) + (l2 : Int)) = (l1 : Int) + (l2 : Int) := IntWalk.i64_in _ (by omega)
    have hsz : sizeQ (mkRat (sg neg m) n) = l1 + l2 := by rw [mk_size neg m n HN0.out, ← HG.out, HK1.out, HK2.out]
    by_cases hbig : 4096 < l1 + l2
    ·have t1 : decide ((l1 : Int) + (l2 : Int) > 4096) = true := decide_eq_true (by omega)
     have HQ : Hid (capQ (mkRat (sg neg m) n) = 0) := by unfold Hid capQ; rw [if_neg (by omega)]
     clear hsz
     go_wp2_with fail
     refine (rzero_calls _).mono ?_
     rintro e w9 ⟨v, rfl, hv, hb⟩
     obtain ⟨A5, n5, c5, A6, n6, c6, rfl, HV⟩ := hv.opened
     have H2 := Hd (H9.out.step hb)
     clear hv hb
     obtain ⟨e0, e1, e2⟩ := (H2.out.blk 0 rfl).c3
     obtain ⟨f0, f1, f2⟩ := (H2.out.blk 0 rfl).f3
     go_wp2_with fail
     rw [HQ.out]
     exact end40 Tryd.results48 rfl (H2.out.blk 0 rfl) HV.out (Nat.le_refl _) H2.out.2
    ·have t1 : decide ((l1 : Int) + (l2 : Int) > 4096) = false := decide_eq_false (by omega)
     have HQ : Hid (capQ (mkRat (sg neg m) n) = mkRat (sg neg m) n) := by unfold Hid capQ; rw [if_pos (by omega)]
     obtain ⟨e0, e1, e2⟩ := (H9.out.blk 0 rfl).c3
     obtain ⟨f0, f1, f2⟩ := (H9.out.blk 0 rfl).f3
     clear hsz
     go_wp2_with fail
     rw [HQ.out]
     exact end40 Tryd.results48 rfl (H9.out.blk 0 rfl) (fq_mk HN0.out HM0.out HG.out HR1.out HR2.out) (Nat.le_refl _) H9.out.2
   ·have u2 : ((g : Int) != 1) = true := bneI (by omega)
    clear hg1
    go_wp2_with fail
    refine (rparts_calls w1 _ _ m g HRN_1.out HV.out (by omega) (by omega) HG0.out).mono ?_
    rintro e w2 ⟨q1, r1, rfl, hq1, hr1, hb⟩
    have H2 := Hd (H1.out.step hb)
    have HRN2_2 := Hd (HRN2_1.out.of_below hb)
    have HV_2 := Hd (HV.out.of_below hb)
    have HQ1 := Hd hq1
    obtain ⟨B1, b1, y1, rfl, _, hy1, _⟩ := hq1.opened
    obtain ⟨B2, b2, y2, rfl, _, _, _⟩ := hr1.opened
    have HY1 : Hid (y1.length = wlen (m / g)) := by unfold Hid; rw [hy1.out]; rfl
    clear hq1 hr1 hb hy1
    go_wp2_with fail
    refine (rparts_calls w2 _ _ n g HRN2_2.out HV_2.out (by omega) (by omega) HG0.out).mono ?_
    rintro e w3 ⟨q2, r2, rfl, hq2, hr2, hb⟩
    have H3 := Hd (H2.out.step hb)
    have HQ1_3 := Hd (HQ1.out.of_below hb)
    have HQ2 := Hd hq2
    obtain ⟨B3, b3, y3, rfl, _, hy3, _⟩ := hq2.opened
    obtain ⟨B4, b4, y4, rfl, _, _, _⟩ := hr2.opened
    have HY3 : Hid (y3.length = wlen (n / g)) := by unfold Hid; rw [hy3.out]; rfl
    clear hq2 hr2 hb hy3
    go_wp2_with fail
    go_quiet (fail)
    have hbz := pw_drewN (below_next (below_new w3 (.cells #[.slice B1 y1.length b1, .slice B2 y2.length b2] 94)) (below_new _ (.cells #[.slice B3 y3.length b3, .slice B4 y4.length b4] 94))) nq
    have HR1 := Hd (show RN _ (.slice B1 y1.length b1) (m / g) from HQ1_3.out.of_below hbz)
    have HR2 := Hd (show RN _ (.slice B3 y3.length b3) (n / g) from HQ2.out.of_below hbz)
    have H9 := Hd (H3.out.step hbz)
    have HK1 : Hid (y1.length = wlen (m / g)) := HY1
    have HK2 : Hid (y3.length = wlen (n / g)) := HY3
    have hk1 : y1.length ≤ 1000000000 := by rw [HK1.out]; exact Nat.le_trans (wlen_mono (Nat.div_le_self _ _)) hm
    have hk2 : y3.length ≤ 1000000000 := by rw [HK2.out]; exact Nat.le_trans (wlen_mono (Nat.div_le_self _ _)) hn
    have wl : IntKind.i64.wrap ((y1.length : Int) + (y3.length : Int)) = (y1.length : Int) + (y3.length : Int) := IntWalk.i64_in _ (by omega)
    have hsz : sizeQ (mkRat (sg neg m) n) = y1.length + y3.length := by rw [mk_size neg m n HN0.out, ← HG.out, HK1.out, HK2.out]
    by_cases hbig : 4096 < y1.length + y3.length
    ·have t1 : decide ((y1.length : Int) + (y3.length : Int) > 4096) = true := decide_eq_true (by omega)
     have HQ : Hid (capQ (mkRat (sg neg m) n) = 0) := by unfold Hid capQ; rw [if_neg (by omega)]
     clear hsz
     go_wp2_with fail
     refine (rzero_calls _).mono ?_
     rintro e w9 ⟨v, rfl, hv, hb⟩
     obtain ⟨A5, n5, c5, A6, n6, c6, rfl, HV⟩ := hv.opened
     have H2 := Hd (H9.out.step hb)
     clear hv hb
     obtain ⟨e0, e1, e2⟩ := (H2.out.blk 0 rfl).c3
     obtain ⟨f0, f1, f2⟩ := (H2.out.blk 0 rfl).f3
     go_wp2_with fail
     rw [HQ.out]
     exact end40 Tryd.results48 rfl (H2.out.blk 0 rfl) HV.out (Nat.le_refl _) H2.out.2
    ·have t1 : decide ((y1.length : Int) + (y3.length : Int) > 4096) = false := decide_eq_false (by omega)
     have HQ : Hid (capQ (mkRat (sg neg m) n) = mkRat (sg neg m) n) := by unfold Hid capQ; rw [if_pos (by omega)]
     obtain ⟨e0, e1, e2⟩ := (H9.out.blk 0 rfl).c3
     obtain ⟨f0, f1, f2⟩ := (H9.out.blk 0 rfl).f3
     clear hsz
     go_wp2_with fail
     rw [HQ.out]
     exact end40 Tryd.results48 rfl (H9.out.blk 0 rfl) (fq_mk HN0.out HM0.out HG.out HR1.out HR2.out) (Nat.le_refl _) H9.out.2
set_option maxHeartbeats 16000000 in
set_option maxRecDepth 100000 in
theorem rright_calls (w : World) (v : Value) (f : RawF) (h : FR w v f) :
  Calls Tryd.prog 41 #[v] w fun e w' => BPost w (rightB f) e w' := by
 obtain ⟨⟨hl, hl2⟩, v1, v2, rfl, h1, h2⟩ := h
 obtain ⟨A1, c1, rfl, hc1⟩ := h1.slice
 obtain ⟨A2, c2, rfl, hc2⟩ := h2.slice
 obtain ⟨s, xs, ys⟩ := f
 simp only at *
 have R1 := Hd h1
 have R2 := Hd h2
 clear h1 h2
 go_enter Tryd.func41, Tryd.ntmps41
 go_wp2_with fail
 go_quiet (fail)
 by_cases d0 : ys.length = 0
 ·have q0 := eqb0 d0
  have HR := Hd (rightB_false (f := ⟨s, xs, ys⟩) fun h => (rightF_den h).1 (List.eq_nil_of_length_eq_zero d0))
  clear d0
  go_wp2_with fail
  go_ret
  exact ⟨by rw [HR.out]; rfl, pw_drewN (below_new w _) _⟩
 have q0 := neb0 d0
 by_cases d3 : 4096 < xs.length
 ·have q3 : decide ((xs.length : Int) > 4096) = true := decide_eq_true (by omega)
  have HR := Hd (rightB_false (f := ⟨s, xs, ys⟩) fun h => by have h1 := (rightF_den h).2.1; simp only at h1; omega)
  clear d0 d3
  go_wp2_with fail
  go_ret
  exact ⟨by rw [HR.out]; rfl, pw_drewN (below_new w _) _⟩
 have q3 : decide ((xs.length : Int) > 4096) = false := decide_eq_false (by omega)
 by_cases d4 : 4096 < ys.length
 ·have q4 : decide ((ys.length : Int) > 4096) = true := decide_eq_true (by omega)
  have HR := Hd (rightB_false (f := ⟨s, xs, ys⟩) fun h => by have h1 := (rightF_den h).2.1; simp only at h1; omega)
  clear d0 d3 d4
  go_wp2_with fail
  go_ret
  exact ⟨by rw [HR.out]; rfl, pw_drewN (below_new w _) _⟩
 have q4 : decide ((ys.length : Int) > 4096) = false := decide_eq_false (by omega)
 have wl : IntKind.i64.wrap ((xs.length : Int) + (ys.length : Int)) = (xs.length : Int) + (ys.length : Int) := IntWalk.i64_in _ (by omega)
 by_cases d1 : 4096 < xs.length + ys.length
 ·have q1 : decide ((xs.length : Int) + (ys.length : Int) > 4096) = true := decide_eq_true (by omega)
  have HR := Hd (rightB_false (f := ⟨s, xs, ys⟩) fun h => by have h1 := (rightF_den h).2.1; simp only at h1; omega)
  clear d0 d1 d3 d4
  go_wp2_with fail
  go_ret
  exact ⟨by rw [HR.out]; rfl, pw_drewN (below_new w _) _⟩
 have q1 : decide ((xs.length : Int) + (ys.length : Int) > 4096) = false := decide_eq_false (by omega)
 obtain ⟨g2, o2, rfl, hg2, hcell2⟩ := R2.out.at_ (by omega)
 have n2 : ((ys.length : Int) - 1).toNat = ys.length - 1 := by omega
 have n3 : 0 ≤ (ys.length : Int) - 1 := by omega
 have n4 : (ys.length : Int) - 1 < (ys.length : Int) := by omega
 have nw : IntKind.i64.wrap ((ys.length : Int) - 1) = (ys.length : Int) - 1 := IntWalk.i64_in _ (by omega)
 have hcw := (bcell (pw_drewN (below_new w (.cells #[.bool s, .slice A1 xs.length c1, .slice (some ⟨g2, o2, none⟩) ys.length c2] 27)) nq)).1
 by_cases d2 : nat ys (ys.length - 1) = 0
 ·rw [d2] at hcell2
  have hcell0 : w.cell? ⟨g2, o2 + (ys.length - 1), none⟩ = some (.int .u32 0) := hcell2
  have HR := Hd (rightB_false (f := ⟨s, xs, ys⟩) fun h => (rightF_den h).2.2 d2)
  have hz0 : ((0 : Int) == 0) = true := rfl
  clear d0 d1 d2 d3 d4 hcell2
  go_wp2_with fail
  go_ret
  exact ⟨by rw [HR.out]; rfl, pw_drewN (below_new w _) _⟩
 have z2 : ((nat ys (ys.length - 1) : Int) == 0) = false := neb0 d2
 have HCN2 := Hd (canon R2.out.wd (.inr d2))
 have HW1 := Hd (pw_drewN (below_new w (.cells #[.bool s, .slice A1 xs.length c1, .slice (some ⟨g2, o2, none⟩) ys.length c2] 27)) nq)
 have RN2 : Hid (RN w (.slice (some ⟨g2, o2, none⟩) ys.length c2) (valN ys)) := by have := R2.out; unfold Hid RN; rw [← HCN2.out]; exact this
 have hv0 : valN ys ≠ 0 := fun h => by
  have := HCN2.out
  rw [h] at this
  exact d0 (by rw [this]; rfl)
 obtain ⟨dn, hdn⟩ : ∃ dn, dn = valN ys := ⟨_, rfl⟩
 rw [← hdn] at RN2 hv0
 have HDN := Hd hdn
 have hhead := RN2.out.head hv0
 have hone : (¬ ys.length = 1 ∧ ((ys.length : Int) == 1) = false ∧ dn ≠ 1) ∨ (ys.length = 1 ∧ ((ys.length : Int) == 1) = true ∧ w.cell? ⟨g2, o2, none⟩ = some (.int .u32 (dn : Int))) := by
  rcases hhead with ⟨h1, h2⟩ | ⟨h1, _, g, o, e, _, hc⟩
  ·exact .inl ⟨by omega, by simpa using (show (ys.length : Int) ≠ 1 by omega), h2⟩
  ·injection e with e
   injection e with e1 e2
   subst e1 e2
   exact .inr ⟨h1, by rw [h1]; rfl, hc⟩
 have HO := Hd hone
 have HHV0 := Hd hv0
 clear hdn hhead hone hv0
 by_cases x0 : xs.length = 0
 ·have y0 := eqb0 x0
  have HX0 := Hd (List.eq_nil_of_length_eq_zero x0)
  have HD2 := Hd d2
  clear d0 d1 d2 d3 d4 x0
  cases s with
  | true =>
   have HR := Hd (rightB_false (f := ⟨true, xs, ys⟩) fun h => absurd (rightF_zero h HX0.out).2 (by simp))
   go_wp2_with fail
   go_ret
   exact ⟨by rw [HR.out]; rfl, HW1.out⟩
  | false =>
   rcases HO.out with ⟨h1, h2, h3⟩ | ⟨h1, h2, h3⟩
   ·have HR := Hd (rightB_false (f := ⟨false, xs, ys⟩) fun h => h3 (HDN.out.trans (rightF_zero h HX0.out).1))
    clear h1 h3
    go_wp2_with fail
    go_ret
    exact ⟨by rw [HR.out]; rfl, HW1.out⟩
   ·have l0 : (0 : Int) < (ys.length : Int) := by omega
    have l1 : 0 < ys.length := by omega
    by_cases e1 : dn = 1
    ·have u1 : ((dn : Int) == 1) = true := by rw [e1]; rfl
     have HR := Hd (rightB_true (f := ⟨false, xs, ys⟩) (rightF_mk0 HD2.out HX0.out R2.out.wd (HDN.out.symm.trans e1) rfl))
     clear e1 h1
     go_wp2_with fail
     go_ret
     exact ⟨by rw [HR.out]; rfl, HW1.out⟩
    ·have u1 : ((dn : Int) == 1) = false := by simpa using (show (dn : Int) ≠ 1 by omega)
     have HR := Hd (rightB_false (f := ⟨false, xs, ys⟩) fun h => e1 (HDN.out.trans (rightF_zero h HX0.out).1))
     clear e1 h1
     go_wp2_with fail
     go_ret
     exact ⟨by rw [HR.out]; rfl, HW1.out⟩
 have y0 := neb0 x0
 obtain ⟨g1, o1, rfl, hg1, hcell1⟩ := R1.out.at_ (by omega)
 have m2 : ((xs.length : Int) - 1).toNat = xs.length - 1 := by omega
 have m3 : 0 ≤ (xs.length : Int) - 1 := by omega
 have m4 : (xs.length : Int) - 1 < (xs.length : Int) := by omega
 have mw : IntKind.i64.wrap ((xs.length : Int) - 1) = (xs.length : Int) - 1 := IntWalk.i64_in _ (by omega)
 have HX0 : Hid (xs ≠ []) := fun h => x0 (by rw [h]; rfl)
 have HY0 : Hid (ys ≠ []) := fun h => d0 (by rw [h]; rfl)
 have HLL : Hid (xs.length + ys.length ≤ 4096) := by unfold Hid; omega
 have HD2 := Hd d2
 by_cases e2 : nat xs (xs.length - 1) = 0
 ·rw [e2] at hcell1
  have hcell0 : w.cell? ⟨g1, o1 + (xs.length - 1), none⟩ = some (.int .u32 0) := hcell1
  have HR := Hd (rightB_false (f := ⟨s, xs, ys⟩) fun h => (rightF_num h HX0.out).1 e2)
  have hz0 : ((0 : Int) == 0) = true := rfl
  clear d0 d1 d2 d3 d4 x0 e2 hcell1
  go_wp2_with fail
  go_ret
  exact ⟨by rw [HR.out]; rfl, pw_drewN (below_new w _) _⟩
 have z3 : ((nat xs (xs.length - 1) : Int) == 0) = false := neb0 e2
 have HCN1 := Hd (canon R1.out.wd (.inr e2))
 have RN1 : Hid (RN w (.slice (some ⟨g1, o1, none⟩) xs.length c1) (valN xs)) := by have := R1.out; unfold Hid RN; rw [← HCN1.out]; exact this
 have HE2 := Hd e2
 have hm0 : valN xs ≠ 0 := fun h => by
  have := HCN1.out
  rw [h] at this
  exact x0 (by rw [this]; rfl)
 have hlm : wlen (valN xs) ≤ 10000000000 := by unfold wlen; rw [← HCN1.out]; omega
 have hln : wlen dn ≤ 10000000000 := by unfold wlen; rw [HDN.out, ← HCN2.out]; omega
 have HM0 := Hd hm0
 have RNd : Hid (Nat.gcd (valN xs) dn ≠ 0) := fun h => HM0.out (Nat.gcd_eq_zero_iff.1 h).1
 clear d0 d1 d2 d3 d4 x0 e2 hm0
 have LONG : ((ys.length : Int) == 1) = false ∨ (((ys.length : Int) == 1) = true ∧ w.cell? ⟨g2, o2, none⟩ = some (.int .u32 (dn : Int)) ∧ (0 : Int) < (ys.length : Int) ∧ 0 < ys.length ∧ ((dn : Int) == 1) = false) ∨ (((ys.length : Int) == 1) = true ∧ w.cell? ⟨g2, o2, none⟩ = some (.int .u32 (1 : Int)) ∧ (0 : Int) < (ys.length : Int) ∧ 0 < ys.length ∧ Hid (dn = 1)) := by
  rcases HO.out with ⟨h1, h2, h3⟩ | ⟨h1, h2, h3⟩
  ·exact .inl h2
  ·by_cases e1 : dn = 1
   ·rw [e1] at h3
    exact .inr (.inr ⟨h2, h3, by omega, by omega, e1⟩)
   ·exact .inr (.inl ⟨h2, h3, by omega, by omega, by simpa using (show (dn : Int) ≠ 1 by omega)⟩)
 rcases LONG with u1 | ⟨u1, u2, u3, u4, u5⟩ | ⟨u1, u2, u3, u4, u5⟩
 case' inr.inr =>
  have HR := Hd (rightB_true (f := ⟨s, xs, ys⟩) (rightF_mk HLL.out HY0.out HD2.out HE2.out R1.out.wd R2.out.wd HX0.out (by simp only; rw [← HDN.out, u5.out, Nat.gcd_one_right])))
  have u6 : ((1 : Int) == 1) = true := rfl
  go_wp2_with fail
  go_ret
  exact ⟨by rw [HR.out]; rfl, HW1.out⟩
 all_goals
  go_wp2_with fail
  refine (rcommon_calls _ _ _ _ _ (RN1.out.of_below HW1.out) (RN2.out.of_below HW1.out) hlm hln).mono ?_
  rintro e w3 ⟨v3, rfl, hv3, hb3⟩
  have HB3 := Hd (below_next HW1.out hb3)
  obtain ⟨gd, hgd⟩ : ∃ gd, gd = Nat.gcd (valN xs) dn := ⟨_, rfl⟩
  rw [← hgd] at hv3 RNd
  have HV3 := Hd hv3
  have HGD := Hd hgd
  obtain ⟨A3, c3, zs, rfl, _, _, _⟩ := hv3.opened
  obtain ⟨l3, hl3⟩ : ∃ l, l = zs.length := ⟨_, rfl⟩
  rw [← hl3] at HV3 ⊢
  clear hb3 hv3 hgd hl3
  rcases HV3.out.head RNd.out with ⟨h1, h2⟩ | ⟨h1, _, g, o, rfl, hgz, hc⟩
  ·have t1 : ((l3 : Int) == 1) = false := by simpa using (show (l3 : Int) ≠ 1 by omega)
   have HR := Hd (rightB_false (f := ⟨s, xs, ys⟩) fun h => h2 (HGD.out.trans (by rw [HDN.out]; exact (rightF_num h HX0.out).2)))
   clear h1 h2
   go_wp2_with fail
   go_ret
   exact ⟨by rw [HR.out]; rfl, HB3.out⟩
  ·subst h1
   have t1 : (((1 : Nat) : Int) == 1) = true := rfl
   by_cases hg1 : gd = 1
   ·rw [hg1] at hc
    have hc1 : w3.cell? ⟨g, o, none⟩ = some (.int .u32 1) := hc
    have t2 : ((1 : Int) == 1) = true := rfl
    have HR := Hd (rightB_true (f := ⟨s, xs, ys⟩) (rightF_mk HLL.out HY0.out HD2.out HE2.out R1.out.wd R2.out.wd HX0.out (by simp only; rw [← HDN.out, ← HGD.out, hg1])))
    clear hg1 hc
    go_wp2_with fail
    go_ret
    exact ⟨by rw [HR.out]; rfl, HB3.out⟩
   ·have t2 : ((gd : Int) == 1) = false := by simpa using (show (gd : Int) ≠ 1 by omega)
    have HR := Hd (rightB_false (f := ⟨s, xs, ys⟩) fun h => hg1 (HGD.out.trans (by rw [HDN.out]; exact (rightF_num h HX0.out).2)))
    clear hg1
    go_wp2_with fail
    go_ret
    exact ⟨by rw [HR.out]; rfl, HB3.out⟩
set_option maxHeartbeats 16000000 in
set_option maxRecDepth 100000 in
theorem rfix_calls (w : World) (v : Value) (f : RawF) (h : FR w v f) : Calls Tryd.prog 32 #[v] w fun e w' => FPost w (fixQ f) e w' := by
 obtain ⟨A1, n1, c1, A2, n2, c2, rfl, H⟩ := h.opened
 clear h
 obtain ⟨s, hs⟩ : ∃ s, s = f.neg := ⟨_, rfl⟩
 rw [← hs] at H ⊢
 have HS' := Hd hs
 clear hs
 go_enter Tryd.func32, Tryd.ntmps32
 go_wp2_with fail
 have H0 := Hd (HS.two (w := w) #[.bool s, .slice A1 n1 c1, .slice A2 n2 c2] #[.bool false, .slice none 0 0, .slice none 0 0] 27 27)
 generalize (w.alloc (.cells #[.bool s, .slice A1 n1 c1, .slice A2 n2 c2] 27)).alloc (.cells #[.bool false, .slice none 0 0, .slice none 0 0] 27) = W0 at *
 refine (rright_calls _ _ f (H.out.of_below H0.out.2)).mono ?_
 rintro e w1 ⟨rfl, hb⟩
 have H1 := Hd (H0.out.step hb)
 clear hb
 by_cases hr : RightF f
 ·have t := rightB_true hr
  have HR := Hd hr
  obtain ⟨d0, d1, d2⟩ := (H1.out.blk 1 rfl).c3
  obtain ⟨e0, e1, e2⟩ := (H1.out.blk 0 rfl).c3
  obtain ⟨f0, f1, f2⟩ := (H1.out.blk 0 rfl).f3
  clear hr
  go_wp2_with fail
  refine end40 Tryd.results32 rfl (H1.out.blk 0 rfl) ?_ (by omega) H1.out.2
  obtain ⟨_, v1, v2, e, h1, h2⟩ := H.out.of_below H1.out.2
  have e' := right_raw HR.out
  injection e with e
  have e1 : Value.bool s = .bool f.neg ∧ Value.slice A1 n1 c1 = v1 ∧ Value.slice A2 n2 c2 = v2 := by simpa using e
  obtain ⟨_, rfl, rfl⟩ := e1
  refine ⟨.slice A1 n1 c1, .slice A2 n2 c2, ?_, ?_, ?_⟩
  ·rw [HS'.out, show f.neg = negQ (fixQ f) by rw [show f.neg = (rawQ (fixQ f)).neg from congrArg RawF.neg e']; rfl]
  ·have : f.num = dg (fixQ f).num.natAbs := congrArg RawF.num e'
   rw [this] at h1; exact h1
  ·have : f.den = dg (fixQ f).den := congrArg RawF.den e'
   rw [this] at h2; exact h2
 ·have t := rightB_false hr
  have HQ := Hd (fixQ_wrong hr)
  clear hr
  go_wp2_with fail
  refine (rzero_calls w1).mono ?_
  rintro e w2 ⟨v, rfl, hv, hb⟩
  obtain ⟨A5, n5, c5, A6, n6, c6, rfl, HV⟩ := hv.opened
  have H2 := Hd (H1.out.step hb)
  clear hb hv
  obtain ⟨e0, e1, e2⟩ := (H2.out.blk 0 rfl).c3
  obtain ⟨f0, f1, f2⟩ := (H2.out.blk 0 rfl).f3
  go_wp2_with fail
  rw [HQ.out]
  exact end40 Tryd.results32 rfl (H2.out.blk 0 rfl) HV.out (by omega) H2.out.2
def rotr (x : Int) (n : Nat) : Int := bits .or .u32 ((x * 2 ^ (32 - n)) % 4294967296) (x / 2 ^ n)
def beW (bs : List Int) (k : Nat) : Int := bits .or .u32 (bits .or .u32 (bits .or .u32 (nth bs (4 * k) * 16777216) (nth bs (4 * k + 1) * 65536)) (nth bs (4 * k + 2) * 256)) (nth bs (4 * k + 3))
def fill1 (bs : List Int) : Nat → List Int
 | 0 => List.replicate 64 0
 | k + 1 => (fill1 bs k).set k (beW bs k)
def sig0 (x : Int) : Int := bits .xor .u32 (bits .xor .u32 (rotr x 7) (rotr x 18)) (x / 8)
def sig1 (x : Int) : Int := bits .xor .u32 (bits .xor .u32 (rotr x 17) (rotr x 19)) (x / 1024)
def sched (ws : List Int) (i : Nat) : Int := (nth ws (i - 16) + sig0 (nth ws (i - 15)) + nth ws (i - 7) + sig1 (nth ws (i - 2))) % 4294967296
def fill2 (ws : List Int) : Nat → List Int
 | 0 => ws
 | k + 1 => (fill2 ws k).set (16 + k) (sched (fill2 ws k) (16 + k))
structure St where
 (a b c d e f g h : Int)
def St.t1 (s : St) (k w : Int) : Int :=
 (s.h + bits .xor .u32 (bits .xor .u32 (rotr s.e 6) (rotr s.e 11)) (rotr s.e 25) + bits .xor .u32 (bits .and .u32 s.e s.f) (bits .and .u32 (bits .xor .u32 4294967295 s.e) s.g) + k + w) % 4294967296
def St.t2 (s : St) : Int :=
 (bits .xor .u32 (bits .xor .u32 (rotr s.a 2) (rotr s.a 13)) (rotr s.a 22) + bits .xor .u32 (bits .xor .u32 (bits .and .u32 s.a s.b) (bits .and .u32 s.a s.c)) (bits .and .u32 s.b s.c)) % 4294967296
def St.step (s : St) (k w : Int) : St := ⟨(s.t1 k w + s.t2) % 4294967296, s.a, s.b, s.c, (s.d + s.t1 k w) % 4294967296, s.e, s.f, s.g⟩
def St.steps (ks ws : List Int) (s : St) : Nat → St
 | 0 => s
 | n + 1 => (St.steps ks ws s n).step (nth ks n) (nth ws n)
def St.of (l : List Int) : St := ⟨nth l 0, nth l 1, nth l 2, nth l 3, nth l 4, nth l 5, nth l 6, nth l 7⟩
def St.list (s : St) : List Int := [s.a, s.b, s.c, s.d, s.e, s.f, s.g, s.h]
def addTo (st xs : List Int) : Nat → List Int
 | 0 => st
 | k + 1 => (addTo st xs k).set k ((nth (addTo st xs k) k + nth xs k) % 4294967296)
def consts : List Int := [1116352408, 1899447441, 3049323471, 3921009573, 961987163, 1508970993, 2453635748, 2870763221, 3624381080, 310598401, 607225278, 1426881987, 1925078388, 2162078206, 2614888103, 3248222580, 3835390401, 4022224774, 264347078, 604807628, 770255983, 1249150122, 1555081692, 1996064986, 2554220882, 2821834349, 2952996808, 3210313671, 3336571891, 3584528711, 113926993, 338241895, 666307205, 773529912, 1294757372, 1396182291, 1695183700, 1986661051, 2177026350, 2456956037, 2730485921, 2820302411, 3259730800, 3345764771, 3516065817, 3600352804, 4094571909, 275423344, 430227734, 506948616, 659060556, 883997877, 958139571, 1322822218, 1537002063, 1747873779, 1955562222, 2024104815, 2227730452, 2361852424, 2428436474, 2756734187, 3204031479, 3329325298]
def blockF (st bs : List Int) : List Int := addTo st ((St.of st).steps consts (fill2 (fill1 bs 16) 48) 64).list 8
def Small (x : Int) : Prop := 0 ≤ x ∧ x < 4294967296
def Smalls (l : List Int) : Prop := ∀ i, Small (nth l i)
theorem small_mod (x : Int) : Small (x % 4294967296) := ⟨by omega, by omega⟩
theorem small_bits (b : BinOp) (x y : Int) : Small (bits b .u32 x y) := by
 have h : ∀ n : Int, Small (IntKind.u32.wrap n) := fun n => by rw [IntKind.wrap_u32]; exact small_mod n
 unfold bits
 split <;> exact h _
theorem small_set {l : List Int} (h : Smalls l) (k : Nat) {v : Int} (hv : Small v) : Smalls (l.set k v) := by
 intro i
 unfold nth
 rw [List.getD_eq_getElem?_getD, List.getElem?_set]
 split
 ·split
  ·exact hv
  ·exact ⟨by simp, by simp⟩
 ·exact h i
theorem fill1_len (bs : List Int) (k : Nat) : (fill1 bs k).length = 64 := by
 induction k with
 | zero => simp [fill1]
 | succ k ih => simp [fill1, ih]
theorem fill1_small (bs : List Int) (k : Nat) : Smalls (fill1 bs k) := by
 induction k with
 | zero =>
  intro i
  unfold nth fill1
  rw [List.getD_eq_getElem?_getD, List.getElem?_replicate]
  split <;> exact ⟨by simp, by simp⟩
 | succ k ih => exact small_set ih _ (small_bits _ _ _)
theorem fill2_len (ws : List Int) (k : Nat) : (fill2 ws k).length = ws.length := by
 induction k with
 | zero => simp [fill2]
 | succ k ih => simp [fill2, ih]
theorem fill2_small {ws : List Int} (h : Smalls ws) (k : Nat) : Smalls (fill2 ws k) := by
 induction k with
 | zero => exact h
 | succ k ih => exact small_set ih _ (small_mod _)
structure St.Ok (s : St) : Prop where
 (a : Small s.a) (b : Small s.b) (c : Small s.c) (d : Small s.d) (e : Small s.e) (f : Small s.f) (g : Small s.g) (h : Small s.h)
theorem St.step_ok {s : St} (h : s.Ok) (k w : Int) : (s.step k w).Ok := ⟨small_mod _, h.a, h.b, h.c, small_mod _, h.e, h.f, h.g⟩
theorem St.steps_ok {s : St} (h : s.Ok) (ks ws : List Int) (n : Nat) : (St.steps ks ws s n).Ok := by
 induction n with
 | zero => exact h
 | succ n ih => exact St.step_ok ih _ _
theorem St.of_ok {l : List Int} (h : Smalls l) : (St.of l).Ok := ⟨h 0, h 1, h 2, h 3, h 4, h 5, h 6, h 7⟩
theorem addTo_len (st xs : List Int) (k : Nat) : (addTo st xs k).length = st.length := by
 induction k with
 | zero => simp [addTo]
 | succ k ih => simp [addTo, ih]
theorem addTo_small {st : List Int} (h : Smalls st) (xs : List Int) (k : Nat) : Smalls (addTo st xs k) := by
 induction k with
 | zero => exact h
 | succ k ih => exact small_set ih _ (small_mod _)
theorem blockF_len (st bs : List Int) : (blockF st bs).length = st.length := addTo_len _ _ _
theorem blockF_small {st : List Int} (h : Smalls st) (bs : List Int) : Smalls (blockF st bs) := addTo_small h _ _
set_option maxHeartbeats 400000 in
theorem rot_calls (x k : Int) (n : Nat) (w : World) (h0 : 0 < n) (h1 : n < 32) (hx0 : 0 ≤ x) (hx : x < 4294967296) (hk : bits .and .u64 (IntKind.u64.wrap k) 31 = ((32 - n : Nat) : Int)) :
  Calls Tryd.prog 34 #[.int .u32 x, .int .i64 k] w fun e w' => e = .returned (.int .u32 (rotr x n)) ∧ w = w' := by
 have hw : IntKind.u64.wrap (32 - ((32 - n : Nat) : Int)) = (n : Int) := by
  rw [show (32 - ((32 - n : Nat) : Int)) = (n : Int) by omega]
  exact IntWalk.u64_in _ (by omega)
 have b1 : (0 : Int) ≤ ((32 - n : Nat) : Int) := by omega
 have b2 : ((32 - n : Nat) : Int) < 32 := by omega
 have b3 : (n : Int) < 32 := by omega
 have hfin : rotr x n = bits .or .u32 ((x * 2 ^ (32 - n)) % 4294967296) (x / 2 ^ n) := rfl
 obtain ⟨m, hm⟩ : ∃ m : Nat, 32 - n = m := ⟨_, rfl⟩
 rw [hm] at hk hw b1 b2 hfin
 have HF := Hd hfin
 clear hfin
 go_enter Tryd.func34, Tryd.ntmps34
 go_wp2
 go_ret
 exact ⟨by rw [HF.out]; rfl, rfl⟩
theorem m2 : bits .and .u64 (IntKind.u64.wrap (-2)) 31 = ((32 - 2 : Nat) : Int) := by decide +kernel
theorem m6 : bits .and .u64 (IntKind.u64.wrap (-6)) 31 = ((32 - 6 : Nat) : Int) := by decide +kernel
theorem m7 : bits .and .u64 (IntKind.u64.wrap (-7)) 31 = ((32 - 7 : Nat) : Int) := by decide +kernel
theorem m11 : bits .and .u64 (IntKind.u64.wrap (-11)) 31 = ((32 - 11 : Nat) : Int) := by decide +kernel
theorem m13 : bits .and .u64 (IntKind.u64.wrap (-13)) 31 = ((32 - 13 : Nat) : Int) := by decide +kernel
theorem m17 : bits .and .u64 (IntKind.u64.wrap (-17)) 31 = ((32 - 17 : Nat) : Int) := by decide +kernel
theorem m18 : bits .and .u64 (IntKind.u64.wrap (-18)) 31 = ((32 - 18 : Nat) : Int) := by decide +kernel
theorem m19 : bits .and .u64 (IntKind.u64.wrap (-19)) 31 = ((32 - 19 : Nat) : Int) := by decide +kernel
theorem m22 : bits .and .u64 (IntKind.u64.wrap (-22)) 31 = ((32 - 22 : Nat) : Int) := by decide +kernel
theorem m25 : bits .and .u64 (IntKind.u64.wrap (-25)) 31 = ((32 - 25 : Nat) : Int) := by decide +kernel
def BlockPost (w : World) (S : Nat) (st bs : List Int) (e : Ending) (w' : World) : Prop := e = .returned (.tuple #[]) ∧ Arr .u32 w' S 45 (blockF st bs) ∧ w.grownBy w' (some S)
set_option maxHeartbeats 8000000 in
set_option maxRecDepth 100000 in
theorem block_calls (S : Nat) (w : World) (g o c : Nat) (st bs : List Int) (hS : Arr .u32 w S 45 st) (hs8 : st.length = 8) (hlen : bs.length = 64)
  (hb : ∀ j, j < 64 → w.cell? ⟨g, o + j, none⟩ = some (.int .u8 (nth bs j))) (hg : g < w.heap.size) (hbr : ∀ j, 0 ≤ nth bs j ∧ nth bs j ≤ 255)
  (hR : ∀ j, j < 64 → w.cell? ⟨0, j, none⟩ = some (.int .u32 (nth consts j))) (hss : Smalls st) :
  Calls Tryd.prog 23 #[.pointer (some ⟨S, 0, none⟩), .slice (some ⟨g, o, none⟩) 64 c] w fun e w' => BlockPost w S st bs e w' := by
 go_enter Tryd.func23, Tryd.ntmps23
 go_wp2
 obtain ⟨W, hW⟩ : ∃ W, W = w := ⟨_, rfl⟩
 go_loopw [26] (fun v wr => ∃ k : Nat, k ≤ 16 ∧ v = .int .i64 k ∧ Arr .u32 wr w.heap.size 51 (fill1 bs k) ∧ w.grownBy wr none) (fun v _ => 16 - (intOf v).toNat)
 case atStart => exact ⟨0, by omega, rfl, by
  show (World.alloc _ _).heap[w.heap.size]? = _
  rw [heap_alloc_new]; rfl, gb_alloc (gb_refl _ _) _⟩
 case round =>
  obtain ⟨k, hk, rfl, ha, hgr⟩ := hrel
  by_cases hlt : k < 16
  ·have trivial_ := hlt
   have e0 := (hgr.cell (hb (4 * k) (by omega)) (by simp))
   have e1 := (hgr.cell (hb (4 * k + 1) (by omega)) (by simp))
   have e2 := (hgr.cell (hb (4 * k + 2) (by omega)) (by simp))
   have e3 := (hgr.cell (hb (4 * k + 3) (by omega)) (by simp))
   have r0 := hbr (4 * k)
   have r1 := hbr (4 * k + 1)
   have r2 := hbr (4 * k + 2)
   have r3 := hbr (4 * k + 3)
   have HN : Hid (fill1 bs (k + 1) = (fill1 bs k).set k (beW bs k)) := rfl
   have hln := fill1_len bs k
   obtain ⟨ws, hws⟩ : ∃ ws, ws = fill1 bs k := ⟨_, rfl⟩
   rw [← hws] at ha HN hln
   clear hws
   have HA := Hd ha
   have hfr := ha.frozen k
   have hce : wr.cell? ⟨w.heap.size, k, none⟩ = some (.int .u32 (nth ws k)) := ha.cell k (by omega)
   have bk : (k : Int) < 64 := by omega
   have ak : 0 ≤ (k : Int) := by omega
   have tk : (k : Int).toNat = k := by omega
   clear ha
   have t0 : (4 * (k : Int)).toNat = 4 * k := by omega
   have t1 : (4 * (k : Int) + 1).toNat = 4 * k + 1 := by omega
   have t2 : (4 * (k : Int) + 2).toNat = 4 * k + 2 := by omega
   have t3 : (4 * (k : Int) + 3).toNat = 4 * k + 3 := by omega
   have b0 : 4 * (k : Int) < 64 := by omega
   have b1 : 4 * (k : Int) + 1 < 64 := by omega
   have b2 : 4 * (k : Int) + 2 < 64 := by omega
   have b3 : 4 * (k : Int) + 3 < 64 := by omega
   have a0 : 0 ≤ 4 * (k : Int) := by omega
   have a1 : 0 ≤ 4 * (k : Int) + 1 := by omega
   have a2 : 0 ≤ 4 * (k : Int) + 2 := by omega
   have a3 : 0 ≤ 4 * (k : Int) + 3 := by omega
   have w0 : IntKind.i64.wrap (4 * (k : Int)) = 4 * (k : Int) := IntWalk.i64_in _ (by omega)
   have w1 : IntKind.i64.wrap (4 * (k : Int) + 1) = 4 * (k : Int) + 1 := IntWalk.i64_in _ (by omega)
   have w2 : IntKind.i64.wrap (4 * (k : Int) + 2) = 4 * (k : Int) + 2 := IntWalk.i64_in _ (by omega)
   have w3 : IntKind.i64.wrap (4 * (k : Int) + 3) = 4 * (k : Int) + 3 := IntWalk.i64_in _ (by omega)
   go_wp2
   go_still_tail 35, (by kernel_rfl)
   go_wp2
   go_roundw
   case rel =>
    refine ⟨k + 1, by omega, by go_num, ?_, gb_drew (gb_set hgr (.inl (Nat.le_refl _)) _)⟩
    rw [HN.out]
    exact Arr.drew (HA.out.set _ _)
   case measure => simp [intOf]; omega
  ·obtain rfl : k = 16 := by omega
   rw [show ((16 : Nat) : Int) = (16 : Int) from rfl]
   go_wp2
   go_loopw [6] (fun v wr => ∃ k : Nat, k ≤ 48 ∧ v = .int .i64 (16 + k : Nat) ∧ Arr .u32 wr w.heap.size 51 (fill2 (fill1 bs 16) k) ∧ w.grownBy wr none) (fun v _ => 64 - (intOf v).toNat)
   case atStart => exact ⟨0, by omega, rfl, ha, hgr⟩
   case round =>
    clear ha hgr hk hlt
    obtain ⟨k, hk, rfl, ha, hgr⟩ := hrel
    by_cases hlt : k < 48
    ·have HA := Hd ha
     have hsm := fill2_small (fill1_small bs 16) k
     have hln : (fill2 (fill1 bs 16) k).length = 64 := by rw [fill2_len, fill1_len]
     have HN : Hid (fill2 (fill1 bs 16) (k + 1) = (fill2 (fill1 bs 16) k).set (16 + k) (sched (fill2 (fill1 bs 16) k) (16 + k))) := rfl
     obtain ⟨ws, hws⟩ : ∃ ws, ws = fill2 (fill1 bs 16) k := ⟨_, rfl⟩
     rw [← hws] at HA ha hsm HN hln
     have HWS := Hd hws
     clear hws
     have fr := ha.frozen (16 + k)
     have e0 : wr.cell? ⟨w.heap.size, 16 + k, none⟩ = some (.int .u32 (nth ws (16 + k))) := ha.cell (16 + k) (by omega)
     have e1 : wr.cell? ⟨w.heap.size, k, none⟩ = some (.int .u32 (nth ws k)) := ha.cell k (by omega)
     have e2 : wr.cell? ⟨w.heap.size, k + 1, none⟩ = some (.int .u32 (nth ws (k + 1))) := ha.cell (k + 1) (by omega)
     have e3 : wr.cell? ⟨w.heap.size, k + 14, none⟩ = some (.int .u32 (nth ws (k + 14))) := ha.cell (k + 14) (by omega)
     have e4 : wr.cell? ⟨w.heap.size, k + 9, none⟩ = some (.int .u32 (nth ws (k + 9))) := ha.cell (k + 9) (by omega)
     clear ha
     have z1 : ((16 + k : Nat) : Int) < 64 := by omega
     have z0 : (0 : Int) ≤ ((16 + k : Nat) : Int) := by omega
     obtain ⟨i, hi⟩ : ∃ i : Int, i = ((16 + k : Nat) : Int) := ⟨_, rfl⟩
     have t1 : (i - 15).toNat = k + 1 := by omega
     have t2 : (i - 2).toNat = k + 14 := by omega
     have t3 : (i - 16).toNat = k := by omega
     have t4 : (i - 7).toNat = k + 9 := by omega
     have t5 : i.toNat = 16 + k := by omega
     have a1 : 0 ≤ i - 15 := by omega
     have a2 : 0 ≤ i - 2 := by omega
     have a3 : 0 ≤ i - 16 := by omega
     have a4 : 0 ≤ i - 7 := by omega
     have d1 : 16 ≤ i := by omega
     have d2 : 7 ≤ i := by omega
     have c1 : i - 15 < 64 := by omega
     have c2 : i - 2 < 64 := by omega
     have c3 : i - 16 < 64 := by omega
     have c4 : i - 7 < 64 := by omega
     have w1 : IntKind.i64.wrap (i - 15) = i - 15 := IntWalk.i64_in _ (by omega)
     have w2 : IntKind.i64.wrap (i - 2) = i - 2 := IntWalk.i64_in _ (by omega)
     have w3 : IntKind.i64.wrap (i - 16) = i - 16 := IntWalk.i64_in _ (by omega)
     have w4 : IntKind.i64.wrap (i - 7) = i - 7 := IntWalk.i64_in _ (by omega)
     rw [← hi] at z0 z1 ⊢
     have HI := Hd hi
     clear hi
     go_wp2
     go_quiet (fail)
     have s1 := hsm (k + 1)
     have s14 := hsm (k + 14)
     go_wp2_with fail
     refine (rot_calls _ _ 7 _ (by omega) (by omega) s1.1 s1.2 m7).mono ?_
     rintro e w' ⟨rfl, rfl⟩
     go_wp2_with fail
     refine (rot_calls _ _ 18 _ (by omega) (by omega) s1.1 s1.2 m18).mono ?_
     rintro e w' ⟨rfl, rfl⟩
     go_wp2_with fail
     refine (rot_calls _ _ 17 _ (by omega) (by omega) s14.1 s14.2 m17).mono ?_
     rintro e w' ⟨rfl, rfl⟩
     go_wp2_with fail
     refine (rot_calls _ _ 19 _ (by omega) (by omega) s14.1 s14.2 m19).mono ?_
     rintro e w' ⟨rfl, rfl⟩
     go_wp2_with fail
     replace HA : Hid (Arr .u32 (wr.drewN nq) w.heap.size 51 ws) := Hd (HA.out.drewN nq)
     replace hgr : w.grownBy (wr.drewN nq) none := gb_drewN hgr nq
     replace fr : (wr.drewN nq).frozen? ⟨w.heap.size, 16 + k, none⟩ = false := fr
     replace e0 : (wr.drewN nq).cell? ⟨w.heap.size, 16 + k, none⟩ = some (.int .u32 (nth ws (16 + k))) := e0
     replace e1 : (wr.drewN nq).cell? ⟨w.heap.size, k, none⟩ = some (.int .u32 (nth ws k)) := e1
     replace e4 : (wr.drewN nq).cell? ⟨w.heap.size, k + 9, none⟩ = some (.int .u32 (nth ws (k + 9))) := e4
     clear e2 e3
     generalize wr.drewN nq = W2 at *
     go_still_tail 15, (by kernel_rfl)
     go_wp2
     go_roundw
     case rel =>
      refine ⟨k + 1, by omega, ?_, ?_, gb_drew (gb_set hgr (.inl (Nat.le_refl _)) _)⟩
      ·have := HI.out
       congr 1
       omega
      ·rw [HN.out]
       have h1 : sched ws (16 + k) = _ := rfl
       have e16 : 16 + k - 16 = k := by omega
       have e15 : 16 + k - 15 = k + 1 := by omega
       have e7 : 16 + k - 7 = k + 9 := by omega
       have e2 : 16 + k - 2 = k + 14 := by omega
       unfold sched
       rw [e16, e15, e7, e2]
       exact Arr.drew (HA.out.set _ _)
     case measure => simp [intOf]; omega
    ·obtain rfl : k = 48 := by omega
     have hl48 : (fill2 (fill1 bs 16) 48).length = 64 := by rw [fill2_len, fill1_len]
     have hs48 := fill2_small (fill1_small bs 16) 48
     clear hk hlt
     rw [show ((16 + 48 : Nat) : Int) = (64 : Int) from rfl]
     have hgS : Arr .u32 wr S 45 st := hS.grown hgr (by simp)
     have f0 : wr.cell? ⟨S, 0, none⟩ = some (.int .u32 (nth st 0)) := hgS.cell 0 (by omega)
     have f1 : wr.cell? ⟨S, 1, none⟩ = some (.int .u32 (nth st 1)) := hgS.cell 1 (by omega)
     have f2 : wr.cell? ⟨S, 2, none⟩ = some (.int .u32 (nth st 2)) := hgS.cell 2 (by omega)
     have f3 : wr.cell? ⟨S, 3, none⟩ = some (.int .u32 (nth st 3)) := hgS.cell 3 (by omega)
     have f4 : wr.cell? ⟨S, 4, none⟩ = some (.int .u32 (nth st 4)) := hgS.cell 4 (by omega)
     have f5 : wr.cell? ⟨S, 5, none⟩ = some (.int .u32 (nth st 5)) := hgS.cell 5 (by omega)
     have f6 : wr.cell? ⟨S, 6, none⟩ = some (.int .u32 (nth st 6)) := hgS.cell 6 (by omega)
     have f7 : wr.cell? ⟨S, 7, none⟩ = some (.int .u32 (nth st 7)) := hgS.cell 7 (by omega)
     obtain ⟨ws, hws⟩ : ∃ ws, ws = fill2 (fill1 bs 16) 48 := ⟨_, rfl⟩
     rw [← hws] at ha hl48 hs48
     have HWS := Hd hws
     clear hws
     go_wp2
     go_quiet (fail)
     obtain ⟨nqa, hnqa⟩ : ∃ a, a = nq := ⟨_, rfl⟩
     rw [← hnqa]
     clear hnqa nq
     go_wp2
     go_quiet (fail)
     go_wp2
     replace hgr : w.grownBy ((wr.drewN nqa).drewN nq) none := gb_drewN (gb_drewN hgr nqa) nq
     replace ha : Arr .u32 ((wr.drewN nqa).drewN nq) w.heap.size 51 ws := (ha.drewN nqa).drewN nq
     clear f0 f1 f2 f3 f4 f5 f6 f7 hgS
     generalize (wr.drewN nqa).drewN nq = W3 at *
     go_loopw [11, 12, 13, 14, 15, 16, 17, 18, 140] (fun va vc ve vg vb vd vf vh vi wq => ∃ n : Nat, n ≤ 64 ∧ vi = .int .i64 n ∧ va = .int .u32 (St.steps consts ws (St.of st) n).a ∧ vb = .int .u32 (St.steps consts ws (St.of st) n).b
      ∧ vc = .int .u32 (St.steps consts ws (St.of st) n).c ∧ vd = .int .u32 (St.steps consts ws (St.of st) n).d ∧ ve = .int .u32 (St.steps consts ws (St.of st) n).e ∧ vf = .int .u32 (St.steps consts ws (St.of st) n).f
      ∧ vg = .int .u32 (St.steps consts ws (St.of st) n).g ∧ vh = .int .u32 (St.steps consts ws (St.of st) n).h ∧ Arr .u32 wq w.heap.size 51 ws ∧ w.grownBy wq none) (fun _ _ _ _ _ _ _ _ vi _ => 64 - (intOf vi).toNat)
     case atStart => exact ⟨0, by omega, rfl, rfl, rfl, rfl, rfl, rfl, rfl, rfl, rfl, ha, hgr⟩
     case round =>
      clear ha hgr
      obtain ⟨n, hn, rfl, rfl, rfl, rfl, rfl, rfl, rfl, rfl, rfl, ha, hgr⟩ := hrel
      have hok := St.steps_ok (St.of_ok hss) consts ws n
      have HN : Hid (St.steps consts ws (St.of st) (n + 1) = (St.steps consts ws (St.of st) n).step (nth consts n) (nth ws n)) := rfl
      by_cases hlt : n < 64
      ·obtain ⟨s, hs⟩ : ∃ s, s = St.steps consts ws (St.of st) n := ⟨_, rfl⟩
       rw [← hs] at hok HN ⊢
       clear hs
       have HA := Hd ha
       have g0 := hgr.cell (hR n hlt) (by simp)
       have g1 : wr.cell? ⟨w.heap.size, n, none⟩ = some (.int .u32 (nth ws n)) := ha.cell n (by omega)
       clear ha
       have n0 : (0 : Int) ≤ (n : Int) := by omega
       have n1 : (n : Int) < 64 := by omega
       have n2 : (n : Int).toNat = n := by omega
       go_wp2_with fail
       refine (rot_calls _ _ 6 _ (by omega) (by omega) hok.e.1 hok.e.2 m6).mono ?_
       rintro e w' ⟨rfl, rfl⟩
       go_wp2_with fail
       refine (rot_calls _ _ 11 _ (by omega) (by omega) hok.e.1 hok.e.2 m11).mono ?_
       rintro e w' ⟨rfl, rfl⟩
       go_wp2_with fail
       refine (rot_calls _ _ 25 _ (by omega) (by omega) hok.e.1 hok.e.2 m25).mono ?_
       rintro e w' ⟨rfl, rfl⟩
       go_wp2_with fail
       go_quiet (fail)
       go_wp2_with fail
       refine (rot_calls _ _ 2 _ (by omega) (by omega) hok.a.1 hok.a.2 m2).mono ?_
       rintro e w' ⟨rfl, rfl⟩
       go_wp2_with fail
       refine (rot_calls _ _ 13 _ (by omega) (by omega) hok.a.1 hok.a.2 m13).mono ?_
       rintro e w' ⟨rfl, rfl⟩
       go_wp2_with fail
       refine (rot_calls _ _ 22 _ (by omega) (by omega) hok.a.1 hok.a.2 m22).mono ?_
       rintro e w' ⟨rfl, rfl⟩
       go_wp2_with fail
       go_roundw
       case rel =>
        refine ⟨n + 1, by omega, by go_num, ?_⟩
        rw [HN.out]
        exact ⟨rfl, rfl, rfl, rfl, rfl, rfl, rfl, rfl, HA.out.drewN _, gb_drewN hgr _⟩
       case measure => simp [intOf]; omega
      ·obtain rfl : n = 64 := by omega
       rw [show ((64 : Nat) : Int) = (64 : Int) from rfl]
       obtain ⟨s, hs⟩ : ∃ s, s = St.steps consts ws (St.of st) 64 := ⟨_, rfl⟩
       rw [← hs] at hok ⊢
       have HS := Hd hs
       clear hs HN hn hlt
       have hgS : Arr .u32 wr S 45 st := hS.grown hgr (by simp)
       go_wp2
       have hL : Arr .u32 (wr.alloc (.cells #[.int .u32 s.a, .int .u32 s.b, .int .u32 s.c, .int .u32 s.d, .int .u32 s.e, .int .u32 s.f, .int .u32 s.g, .int .u32 s.h] 44)) wr.heap.size 44 s.list := by
        show (World.alloc _ _).heap[wr.heap.size]? = _
        rw [heap_alloc_new]
        rfl
       have hgS2 := hgS.alloc (.cells #[.int .u32 s.a, .int .u32 s.b, .int .u32 s.c, .int .u32 s.d, .int .u32 s.e, .int .u32 s.f, .int .u32 s.g, .int .u32 s.h] 44)
       have hgr2 : w.grownBy (wr.alloc (.cells #[.int .u32 s.a, .int .u32 s.b, .int .u32 s.c, .int .u32 s.d, .int .u32 s.e, .int .u32 s.f, .int .u32 s.g, .int .u32 s.h] 44)) (some S) := gb_alloc (gb_none hgr) _
       have hLS : S < wr.heap.size := by have := hS.lt; have := hgr.size; omega
       obtain ⟨L, hLe⟩ : ∃ L, L = wr.heap.size := ⟨_, rfl⟩
       rw [← hLe] at hL hLS ⊢
       clear hLe ha hgS hgr
       generalize wr.alloc (.cells #[.int .u32 s.a, .int .u32 s.b, .int .u32 s.c, .int .u32 s.d, .int .u32 s.e, .int .u32 s.f, .int .u32 s.g, .int .u32 s.h] 44) = W4 at *
       go_loopw [215] (fun vi wq => ∃ k : Nat, k ≤ 8 ∧ vi = .int .i64 k ∧ Arr .u32 wq S 45 (addTo st s.list k) ∧ Arr .u32 wq L 44 s.list ∧ w.grownBy wq (some S)) (fun vi _ => 8 - (intOf vi).toNat)
       case atStart => exact ⟨0, by omega, rfl, hgS2, hL, hgr2⟩
       case round =>
        clear hgS2 hL hgr2
        obtain ⟨k, hk, rfl, hA, hL, hg2⟩ := hrel
        by_cases hlt : k < 8
        ·have HN : Hid (addTo st s.list (k + 1) = (addTo st s.list k).set k ((nth (addTo st s.list k) k + nth s.list k) % 4294967296)) := rfl
         have hln : (addTo st s.list k).length = 8 := by rw [addTo_len, hs8]
         obtain ⟨xs, hxs⟩ : ∃ xs, xs = addTo st s.list k := ⟨_, rfl⟩
         rw [← hxs] at hA HN hln
         clear hxs
         have c0 : wr.cell? ⟨S, k, none⟩ = some (.int .u32 (nth xs k)) := hA.cell k (by omega)
         have c1 : wr.cell? ⟨L, k, none⟩ = some (.int .u32 (nth s.list k)) := hL.cell k hlt
         have fr := hA.frozen k
         have HA := Hd hA
         have HL := Hd hL
         clear hA hL
         have n0 : (0 : Int) ≤ (k : Int) := by omega
         have n1 : (k : Int) < 8 := by omega
         have n2 : (k : Int).toNat = k := by omega
         go_wp2
         go_still_tail 9, (by kernel_rfl)
         go_wp2
         go_roundw
         case rel =>
          refine ⟨k + 1, by omega, by go_num, ?_, Arr.drew (HL.out.other (by simp; omega) _), gb_drew (gb_set hg2 (.inr rfl) _)⟩
          rw [HN.out]
          exact Arr.drew (HA.out.set _ _)
         case measure => simp [intOf]; omega
        ·obtain rfl : k = 8 := by omega
         have HB : Hid (Arr .u32 wr S 45 (blockF st bs)) := by
          unfold blockF
          rw [← HWS.out, ← HS.out]
          exact hA
         clear hA hL
         go_wp2
         go_end0
         exact ⟨rfl, HB.out, hg2⟩
def byteAt (n : Int) (k : Nat) : Int := (n / 2 ^ (56 - 8 * k)) % 256
def fill8 (n : Int) : Nat → List Int
 | 0 => List.replicate 8 0
 | k + 1 => (fill8 n k).set k (byteAt n k)
theorem fill8_len (n : Int) (k : Nat) : (fill8 n k).length = 8 := by
 induction k with
 | zero => simp [fill8]
 | succ k ih => simp [fill8, ih]
def be8 (n : Int) : List Int := fill8 n 8
def SizePost (w : World) (n : Int) (e : Ending) (w' : World) : Prop := ∃ B, e = .returned (.slice (some ⟨B, 0, none⟩) 8 8) ∧ w.heap.size ≤ B ∧ Arr .u8 w' B 5 (be8 n) ∧ w.grownBy w' none
set_option maxHeartbeats 8000000 in
set_option maxRecDepth 100000 in
theorem size_calls (n : Int) (w : World) (h0 : 0 ≤ n) (h1 : n < 9223372036854775808) :
  Calls Tryd.prog 22 #[.int .i64 n] w fun e w' => SizePost w n e w' := by
 have hw : IntKind.u64.wrap n = n := IntWalk.u64_in _ (by omega)
 have hmk : ∀ w : World, Sem.run Tryd.prog (Instr.makeSlice 46 (.int .i64 8) (.int .i64 8)) w = .ok (.slice (some ⟨w.heap.size, 0, none⟩) 8 8) (w.alloc (.cells #[.int .u8 0, .int .u8 0, .int .u8 0, .int .u8 0, .int .u8 0, .int .u8 0, .int .u8 0, .int .u8 0] 5)) := fun _ => by kernel_rfl
 go_enter Tryd.func22, Tryd.ntmps22
 go_wp2
 clear hmk
 go_loopw [8] (fun v wr => ∃ k : Nat, k ≤ 8 ∧ v = .int .i64 k ∧ Arr .u8 wr w.heap.size 5 (fill8 n k) ∧ w.grownBy wr none) (fun v _ => 8 - (intOf v).toNat)
 case atStart => exact ⟨0, by omega, rfl, by
  show (World.alloc _ _).heap[w.heap.size]? = _
  rw [heap_alloc_new]; rfl, gb_alloc (gb_refl _ _) _⟩
 case round =>
  obtain ⟨k, hk, rfl, ha, hgr⟩ := hrel
  by_cases hlt : k < 8
  ·have HN : Hid (fill8 n (k + 1) = (fill8 n k).set k (byteAt n k)) := rfl
   have hln := fill8_len n k
   obtain ⟨ws, hws⟩ : ∃ ws, ws = fill8 n k := ⟨_, rfl⟩
   rw [← hws] at ha HN hln
   clear hws
   have HA := Hd ha
   have hfr := ha.frozen k
   have hce : wr.cell? ⟨w.heap.size, k, none⟩ = some (.int .u8 (nth ws k)) := ha.cell k (by omega)
   clear ha
   have bk : (k : Int) < 8 := by omega
   have ak : 0 ≤ (k : Int) := by omega
   have tk : (k : Int).toNat = k := by omega
   have d0 : 0 ≤ 56 - 8 * (k : Int) := by omega
   have d1 : 56 - 8 * (k : Int) ≤ 64 := by omega
   have HT : Hid ((56 - 8 * (k : Int)).toNat = 56 - 8 * k) := by unfold Hid; omega
   go_wp2
   go_roundw
   case rel =>
    refine ⟨k + 1, by omega, by go_num, ?_, gb_set hgr (.inl (Nat.le_refl _)) _⟩
    rw [HN.out]
    exact HA.out.set _ _
   case measure => simp [intOf]; omega
  ·obtain rfl : k = 8 := by omega
   go_wp2
   go_ret
   exact ⟨_, rfl, Nat.le_refl _, ha, hgr⟩
def LongPost (w : World) (n : Int) (e : Ending) (w' : World) : Prop := e = .returned (.string (strOfNums (be8 n))) ∧ Below w.heap.size w w'
theorem mask255 (x : Int) (h0 : 0 ≤ x) (h1 : x < 9223372036854775808) : bits .and .i64 x 255 = x % 256 :=
 bits_mask .i64 63 (by decide) (fun n h0 h1 => IntWalk.i64_in n (by omega)) 8 (by decide) x h0 (by omega)
theorem div_small (n : Int) (m : Nat) (h0 : 0 ≤ n) (h1 : n < 9223372036854775808) : 0 ≤ n / 2 ^ m ∧ n / 2 ^ m < 9223372036854775808 := by
 have hp : (0 : Int) < 2 ^ m := Int.pow_pos (by decide)
 exact ⟨Int.ediv_nonneg h0 (Int.le_of_lt hp), Int.lt_of_le_of_lt (Int.ediv_le_self _ h0) h1⟩
set_option maxHeartbeats 8000000 in
set_option maxRecDepth 100000 in
theorem long_calls (n : Int) (w : World) (h0 : 0 ≤ n) (h1 : n < 9223372036854775808) :
  Calls Tryd.prog 25 #[.int .i64 n] w fun e w' => LongPost w n e w' := by
 have hmk : ∀ w : World, Sem.run Tryd.prog (Instr.makeSlice 46 (.int .i64 8) (.int .i64 8)) w = .ok (.slice (some ⟨w.heap.size, 0, none⟩) 8 8) (w.alloc (.cells #[.int .u8 0, .int .u8 0, .int .u8 0, .int .u8 0, .int .u8 0, .int .u8 0, .int .u8 0, .int .u8 0] 5)) := fun _ => by kernel_rfl
 go_enter Tryd.func25, Tryd.ntmps25
 go_wp2
 clear hmk
 go_loopw [4] (fun v wr => ∃ k : Nat, k ≤ 8 ∧ v = .int .i64 k ∧ Arr .u8 wr w.heap.size 5 (fill8 n k) ∧ w.grownBy wr none) (fun v _ => 8 - (intOf v).toNat)
 case atStart => exact ⟨0, by omega, rfl, by
  show (World.alloc _ _).heap[w.heap.size]? = _
  rw [heap_alloc_new]; rfl, gb_alloc (gb_refl _ _) _⟩
 case round =>
  obtain ⟨k, hk, rfl, ha, hgr⟩ := hrel
  by_cases hlt : k < 8
  ·have HN : Hid (fill8 n (k + 1) = (fill8 n k).set k (byteAt n k)) := rfl
   have hln := fill8_len n k
   obtain ⟨ws, hws⟩ : ∃ ws, ws = fill8 n k := ⟨_, rfl⟩
   rw [← hws] at ha HN hln
   clear hws
   have HA := Hd ha
   have hfr := ha.frozen k
   have hce : wr.cell? ⟨w.heap.size, k, none⟩ = some (.int .u8 (nth ws k)) := ha.cell k (by omega)
   clear ha
   have bk : (k : Int) < 8 := by omega
   have ak : 0 ≤ (k : Int) := by omega
   have tk : (k : Int).toNat = k := by omega
   have d0 : 0 ≤ 56 - 8 * (k : Int) := by omega
   have d1 : 56 - 8 * (k : Int) ≤ 64 := by omega
   have dd := div_small n (56 - 8 * k) h0 h1
   have hm := mask255 _ dd.1 dd.2
   go_wp2
   go_roundw
   case rel =>
    refine ⟨k + 1, by omega, by go_num, ?_, gb_set hgr (.inl (Nat.le_refl _)) _⟩
    rw [HN.out]
    exact HA.out.set _ _
   case measure => simp [intOf]; omega
  ·obtain rfl : k = 8 := by omega
   have hcv := str_of_cells (P := Tryd.prog) wr 46 5 9 Tryd.underlying46 Tryd.underlying5 Tryd.underlying9 w.heap.size 0 8 (be8 n) (fun j hj => by rw [Nat.zero_add]; exact ha.cell j (by exact hj))
   rw [show (be8 n).length = 8 from fill8_len n 8] at hcv
   clear ha
   go_wp2
   go_ret
   exact ⟨rfl, gb_to_below hgr⟩
def zpad (n : Nat) : Nat := (119 - n % 64) % 64
theorem zpad_end (n : Nat) : (n + 1 + zpad n) % 64 = 56 := by unfold zpad; omega
theorem zpad_mid (n j : Nat) (h : j < zpad n) : (n + 1 + j) % 64 ≠ 56 := by unfold zpad at h; omega
theorem zpad_lt (n : Nat) : zpad n < 64 := by unfold zpad; omega
def padded (s : List Int) : List Int := s ++ [128] ++ List.replicate (zpad s.length) 0 ++ be8 (s.length * 8 : Nat)
theorem padded_len (s : List Int) : (padded s).length = s.length + 1 + zpad s.length + 8 := by
 simp [padded, be8, fill8_len]
 omega
theorem padded_64 (s : List Int) : (padded s).length = 64 * ((padded s).length / 64) := by
 have h := padded_len s
 have := zpad_end s.length
 omega
def init8 : List Int := [1779033703, 3144134277, 1013904242, 2773480762, 1359893119, 2600822924, 528734635, 1541459225]
def blk (d : List Int) : Nat → List Int
 | 0 => init8
 | k + 1 => blockF (blk d k) ((d.drop (64 * k)).take 64)
def out4 (x : Int) : List Int := [x / 16777216 % 256, x / 65536 % 256, x / 256 % 256, x % 256]
def outs (st : List Int) : Nat → List Int
 | 0 => []
 | k + 1 => outs st k ++ out4 (nth st k)
def digestF (s : List Int) : List Int := outs (blk (padded s) ((padded s).length / 64)) 8
theorem init8_small : Smalls init8 := by
 intro i
 unfold nth init8
 match i with
 | 0 | 1 | 2 | 3 | 4 | 5 | 6 | 7 => exact ⟨by decide, by decide⟩
 | n + 8 => exact ⟨by simp, by simp⟩
theorem blk_len (d : List Int) (k : Nat) : (blk d k).length = 8 := by
 induction k with
 | zero => rfl
 | succ k ih => rw [blk, blockF_len, ih]
theorem blk_small (d : List Int) (k : Nat) : Smalls (blk d k) := by
 induction k with
 | zero => exact init8_small
 | succ k ih => rw [blk]; exact blockF_small ih _
theorem byteAt_byte (n : Int) (k : Nat) : 0 ≤ byteAt n k ∧ byteAt n k ≤ 255 := by unfold byteAt; omega
theorem isBytes_set {l : List Int} (h : IsBytes l) (k : Nat) {v : Int} (hv : 0 ≤ v ∧ v ≤ 255) : IsBytes (l.set k v) := by
 intro x hx
 rcases List.mem_or_eq_of_mem_set hx with hx | rfl
 ·exact h x hx
 ·exact hv
theorem fill8_bytes (n : Int) (k : Nat) : IsBytes (fill8 n k) := by
 induction k with
 | zero => intro x hx; have := List.eq_of_mem_replicate hx; omega
 | succ k ih => exact isBytes_set ih _ (byteAt_byte n k)
theorem isBytes_append {l m : List Int} (h : IsBytes l) (h2 : IsBytes m) : IsBytes (l ++ m) := by
 intro x hx
 rcases List.mem_append.1 hx with hx | hx
 ·exact h x hx
 ·exact h2 x hx
theorem padded_bytes {s : List Int} (h : IsBytes s) : IsBytes (padded s) := by
 unfold padded
 refine isBytes_append (isBytes_append (isBytes_append h ?_) ?_) (fill8_bytes _ _)
 ·intro x hx; simp at hx; omega
 ·intro x hx; have := List.eq_of_mem_replicate hx; omega
theorem outs_len (st : List Int) (k : Nat) : (outs st k).length = 4 * k := by
 induction k with
 | zero => rfl
 | succ k ih => rw [outs, List.length_append, ih]; rfl
def lenV : Value → Nat | .slice _ n _ => n | _ => 0
theorem info5 : (Tryd.prog.info? 5).map (fun i => (i.zero, i.size, i.bytes)) = some (some (.int .u8 0), 1, 1) := by kernel_rfl
theorem repl_snoc (j : Nat) : List.replicate j (0 : Int) ++ [0] = List.replicate (j + 1) 0 := (List.replicate_succ').symm
theorem one_cell (w : World) (k : IntKind) (x : Int) (e : Nat) : ∀ j, j < [x].length → (w.alloc (.cells #[.int k x] e)).cell? ((⟨w.heap.size, 0, none⟩ : Addr).add j) = some (.int k (nth [x] j)) := by
 intro j hj
 obtain rfl : j = 0 := by simp at hj; omega
 rw [add_zero']
 simp [nth, World.cell?_alloc_mark]
theorem below_none {w w1 w2 : World} {row : Option Nat} (h : w.grownBy w1 none) (h2 : w1.grownBy w2 row) (hr : ∀ k, row = some k → w.heap.size ≤ k) : w.grownBy w2 none :=
 ⟨h2.os.trans h.os, h2.tape.trans h.tape, h2.output.trans h.output, Nat.le_trans h.size h2.size, fun k hk _ => (h2.block k (by have := h.size; omega) (fun e => by have := hr k e.symm; omega)).trans (h.block k hk (by simp))⟩
theorem OwnC.ne {k : IntKind} {S : Nat} {w : World} {v : Value} {xs : List Int} (h : OwnC k (S + 1) w v xs) : some S ≠ v.ownBlock := by
 intro e
 have := (h.lt S e.symm).1
 omega
theorem idx8 (x0 x1 x2 x3 x4 x5 x6 x7 : Int) (k : Nat) (hk : k < 8) (w : World) :
  Sem.run Tryd.prog (Instr.index 45 (.agg #[.int .u32 x0, .int .u32 x1, .int .u32 x2, .int .u32 x3, .int .u32 x4, .int .u32 x5, .int .u32 x6, .int .u32 x7]) (.int .i64 (k : Int))) w = .ok (.int .u32 (nth [x0, x1, x2, x3, x4, x5, x6, x7] k)) w := by
 obtain rfl | rfl | rfl | rfl | rfl | rfl | rfl | rfl : k = 0 ∨ k = 1 ∨ k = 2 ∨ k = 3 ∨ k = 4 ∨ k = 5 ∨ k = 6 ∨ k = 7 := by omega
 ·kernel_rfl
 ·kernel_rfl
 ·kernel_rfl
 ·kernel_rfl
 ·kernel_rfl
 ·kernel_rfl
 ·kernel_rfl
 ·kernel_rfl
theorem list8 (l : List Int) (h : l.length = 8) : [nth l 0, nth l 1, nth l 2, nth l 3, nth l 4, nth l 5, nth l 6, nth l 7] = l := by
 match l, h with
 | [a, b, c, d, e, f, g, i], _ => rfl
theorem four_cells (w : World) (k : IntKind) (a b c d : Int) (e : Nat) : ∀ j, j < [a, b, c, d].length → (w.alloc (.cells #[.int k a, .int k b, .int k c, .int k d] e)).cell? ((⟨w.heap.size, 0, none⟩ : Addr).add j) = some (.int k (nth [a, b, c, d] j)) := by
 intro j hj
 rw [add_zero']
 rw [World.cell?_alloc_mark]
 match j, hj with
 | 0, _ => rfl
 | 1, _ => rfl
 | 2, _ => rfl
 | 3, _ => rfl
theorem out4_small {x : Int} (h : Small x) : out4 x = [x / 16777216, x / 65536 % 256, x / 256 % 256, x % 256] := by
 have h0 := h.1
 have h1 := h.2
 unfold out4
 rw [show x / 16777216 % 256 = x / 16777216 by omega]
def DigPost (w : World) (s : ByteArray) (e : Ending) (w' : World) : Prop := e = .returned (.string (strOfNums (digestF (bytesOf s)))) ∧ Below w.heap.size w w'
theorem dig_start (w : World) (s : ByteArray) (hs : s.size ≤ 1000000000000) :
  ∃ (W1 : World) (c1 : Nat), (∀ w1 : World, w1 = w.alloc (.cells #[.int .u32 1779033703, .int .u32 3144134277, .int .u32 1013904242, .int .u32 2773480762, .int .u32 1359893119, .int .u32 2600822924, .int .u32 528734635, .int .u32 1541459225] 45) →
    Sem.run Tryd.prog (convert 9 46 (.string s)) w1 = .ok (.slice (some ⟨w.heap.size + 1, 0, none⟩) s.size c1) W1) ∧
   OwnC .u8 (w.heap.size + 1) W1 (.slice (some ⟨w.heap.size + 1, 0, none⟩) s.size c1) (bytesOf s) ∧ Arr .u32 W1 w.heap.size 45 init8 ∧ w.grownBy W1 none ∧ w.heap.size + 1 < W1.heap.size := by
 have hsz : (w.alloc (.cells #[.int .u32 1779033703, .int .u32 3144134277, .int .u32 1013904242, .int .u32 2773480762, .int .u32 1359893119, .int .u32 2600822924, .int .u32 528734635, .int .u32 1541459225] 45)).heap.size = w.heap.size + 1 := by simp
 have ha : Arr .u32 (w.alloc (.cells #[.int .u32 1779033703, .int .u32 3144134277, .int .u32 1013904242, .int .u32 2773480762, .int .u32 1359893119, .int .u32 2600822924, .int .u32 528734635, .int .u32 1541459225] 45)) w.heap.size 45 init8 := by
  show (World.alloc _ _).heap[w.heap.size]? = _
  rw [heap_alloc_new]
  rfl
 have hga := gb_alloc (gb_refl w none) (.cells #[.int .u32 1779033703, .int .u32 3144134277, .int .u32 1013904242, .int .u32 2773480762, .int .u32 1359893119, .int .u32 2600822924, .int .u32 528734635, .int .u32 1541459225] 45)
 generalize w.alloc (.cells #[.int .u32 1779033703, .int .u32 3144134277, .int .u32 1013904242, .int .u32 2773480762, .int .u32 1359893119, .int .u32 2600822924, .int .u32 528734635, .int .u32 1541459225] 45) = w0 at *
 have h := own_bytes w0 5 s (by simp only [maxLen]; omega)
 refine ⟨Lib.bytesWorld w0 5 s, grownCap w0 s.size 0 5, ?_, ?_, ?_, ?_, ?_⟩
 ·rintro w1 rfl
  have := Lib.run_convert_string_bytes (P := Tryd.prog) w1 9 46 5 s Tryd.underlying9 Tryd.underlying46 Tryd.underlying5
  rw [hsz] at this
  exact this
 ·rw [← hsz]
  exact h.1
 ·exact ha.grown h.2 (by simp)
 ·exact gb_trans hga h.2
 ·rw [Lib.bytesWorld_size]; omega
set_option maxHeartbeats 8000000 in
set_option maxRecDepth 100000 in
theorem digest_calls (s : ByteArray) (w : World) (hs : s.size ≤ 1000000000000) (hR : ∀ j, j < 64 → w.cell? ⟨0, j, none⟩ = some (.int .u32 (nth consts j))) :
  Calls Tryd.prog 14 #[.string s] w fun e w' => DigPost w s e w' := by
 obtain ⟨W1, c1, hconv0, hown0, hA0, hg0, hsz0⟩ := dig_start w s hs
 have hconv := hconv0 _ rfl
 clear hconv0
 have hbl := bytesOf_length s
 have HBL := Hd hbl
 clear hbl
 go_enter Tryd.func14, Tryd.ntmps14
 go_wp2_with (at_builtin; refine wpl_append (P := Tryd.prog) rfl (.tmp 10) (.tmp 11) 46 46 rfl 5 1 Tryd.underlying46 info5 (base := w.heap.size + 1) (.slice (some ⟨w.heap.size + 1, 0, none⟩) s.size c1) (bytesOf s) rfl (hown0.alloc _) _ rfl [128] (src_nums Tryd.underlying46 _ 1 [128] _ (one_cell _ .u8 128 5)) (by rw [HBL.out]; simp; omega) (by rw [HBL.out]; simp; omega) (by simp; omega) ?_; intro v1 w1 hown1 hg1 hk1)
 have hg1' : w.grownBy w1 none := below_none (gb_alloc hg0 _) hg1 (fun k hk => by have := (hown0.lt k hk).1; omega)
 have hA1 : Arr .u32 w1 w.heap.size 45 init8 := (hA0.alloc _).grown hg1 hown0.ne
 have hs1 : w.heap.size + 1 < w1.heap.size := by have := hg1.size; simp at this; omega
 clear hown0 hA0 hg0 hsz0 hconv hg1 hk1
 go_loopw [4] (fun v wr => ∃ j, j ≤ zpad s.size ∧ OwnC .u8 (w.heap.size + 1) wr v (bytesOf s ++ [128] ++ List.replicate j 0) ∧ Arr .u32 wr w.heap.size 45 init8 ∧ w.grownBy wr none ∧ w.heap.size + 1 < wr.heap.size) (fun v _ => s.size + 65 - lenV v)
 case atStart => exact ⟨0, by omega, by simpa using hown1, hA1, hg1', hs1⟩
 case round =>
  clear hown1 hA1 hg1' hs1
  obtain ⟨j, hj, hown, hA, hg, hsz⟩ := hrel
  have hln : (bytesOf s ++ [128] ++ List.replicate j 0).length = s.size + 1 + j := by
   simp [HBL.out]
   omega
  have HLN := Hd hln
  obtain ⟨A, c, rfl⟩ := hown.slice
  rw [hln] at hown ⊢
  clear hln
  have hz := zpad_lt s.size
  by_cases hlt : j < zpad s.size
  ·have hne := zpad_mid s.size j hlt
   have t1 : (((s.size + 1 + j : Nat) : Int) % 64 != 56) = true := by rw [bne_iff_ne]; omega
   have HT := Hd hne
   clear hne
   go_wp2_with (at_builtin; refine wpl_append (P := Tryd.prog) rfl (.tmp 17) (.tmp 18) 46 46 rfl 5 1 Tryd.underlying46 info5 (base := w.heap.size + 1) (.slice A (s.size + 1 + j) c) (bytesOf s ++ [128] ++ List.replicate j 0) rfl (hown.alloc _) _ rfl [0] (src_nums Tryd.underlying46 _ 1 [0] _ (one_cell _ .u8 0 5)) (by rw [HLN.out]; simp; omega) (by rw [HLN.out]; simp; omega) (by simp; omega) ?_; intro v2 w2 hown2 hg2 hk2)
   have hg2' : w.grownBy w2 none := below_none (gb_alloc hg _) hg2 (fun k hk => by have := (hown.lt k hk).1; omega)
   have hA2 : Arr .u32 w2 w.heap.size 45 init8 := (hA.alloc _).grown hg2 hown.ne
   have hs2 : w.heap.size + 1 < w2.heap.size := by have := hg2.size; simp at this; omega
   have hl2 : lenV v2 = s.size + 1 + j + 1 := by
    obtain ⟨A', c', rfl⟩ := hown2.slice
    rw [List.length_append, HLN.out]
    rfl
   rw [List.append_assoc, repl_snoc] at hown2
   clear hown hA hg hg2 hk2
   go_roundw
   case rel => exact ⟨j + 1, by omega, hown2, hA2, hg2', hs2⟩
   case measure => rw [hl2]; simp [lenV]; omega
  ·obtain rfl : j = zpad s.size := by omega
   have hne := zpad_end s.size
   have t1 : (((s.size + 1 + zpad s.size : Nat) : Int) % 64 != 56) = false := by rw [bne_eq_false_iff_eq]; omega
   have HT := Hd hne
   clear hne
   go_wp2_with fail
   refine (size_calls ((s.size : Int) * 8) _ (by omega) (by omega)).mono ?_
   rintro e w2 ⟨B, rfl, hB, hAB, hgB⟩
   have hlb : (be8 ((s.size : Int) * 8)).length = 8 := fill8_len _ 8
   have hown2 := hown.grown hgB (by simp)
   have hA2 := hA.grown hgB (by simp)
   have hg2 := gb_trans hg hgB
   have hs2 : w.heap.size + 1 < w2.heap.size := by have := hgB.size; omega
   clear hown hA hg hgB hsz
   have hsrc : Src Tryd.prog 1 46 (.slice (some ⟨B, 0, none⟩) 8 8) (be8 ((s.size : Int) * 8)).length (nums .u8 (be8 ((s.size : Int) * 8))) w2 := by
    have h := src_nums (P := Tryd.prog) (k := .u8) Tryd.underlying46 ⟨B, 0, none⟩ 8 (be8 ((s.size : Int) * 8)) w2 (fun j hj => by rw [add_zero']; exact hAB.cell j hj)
    rw [hlb] at h ⊢
    exact h
   clear hAB
   have HLB := Hd hlb
   clear hlb
   go_wp2_with (at_builtin; refine wpl_append (P := Tryd.prog) rfl (.tmp 20) (.tmp 24) 46 46 rfl 5 1 Tryd.underlying46 info5 (base := w.heap.size + 1) (.slice A (s.size + 1 + zpad s.size) c) (bytesOf s ++ [128] ++ List.replicate (zpad s.size) 0) rfl hown2 _ rfl (be8 ((s.size : Int) * 8)) hsrc (by rw [HLN.out, HLB.out]; omega) (by rw [HLN.out, HLB.out]; omega) (by omega) ?_; intro v3 w3 hown3 hg3 hk3)
   have hg3' : w.grownBy w3 none := below_none hg2 hg3 (fun k hk => by have := (hown2.lt k hk).1; omega)
   have hA3 : Arr .u32 w3 w.heap.size 45 init8 := hA2.grown hg3 hown2.ne
   have hs3 : w.heap.size + 1 < w3.heap.size := by have := hg3.size; omega
   have hpd : bytesOf s ++ [128] ++ List.replicate (zpad s.size) 0 ++ be8 ((s.size : Int) * 8) = padded (bytesOf s) := by
    unfold padded
    rw [HBL.out]
    simp
   rw [hpd] at hown3
   clear hpd hown2 hA2 hg2 hg3 hk3 hs2 hsrc
   have h64 := padded_64 (bytesOf s)
   have hby := padded_bytes (bytesOf_isBytes s)
   obtain ⟨d, hd⟩ : ∃ d, d = padded (bytesOf s) := ⟨_, rfl⟩
   obtain ⟨m, hm⟩ : ∃ m, m = (padded (bytesOf s)).length / 64 := ⟨_, rfl⟩
   have HDF : Hid (digestF (bytesOf s) = outs (blk d m) 8) := by rw [hd, hm]; rfl
   rw [← hm] at h64
   rw [← hd] at hown3 h64 hby
   have hml : m ≤ 17000000000 := by
    have := padded_len (bytesOf s)
    rw [HBL.out] at this
    omega
   have hd8 : 8 ≤ (padded (bytesOf s)).length := by rw [padded_len]; omega
   rw [← hd] at hd8
   have H64 := Hd h64
   clear hd hm h64 t1 HT HLN HLB hlt hj
   obtain ⟨g, cap, rfl, hSg, hgw, hlc, hcm, hcell⟩ : ∃ g cap, v3 = .slice (some ⟨g, 0, none⟩) (64 * m) cap ∧ w.heap.size + 1 ≤ g ∧ g < w3.heap.size ∧ 64 * m ≤ cap ∧ cap ≤ maxLen ∧ (∀ j, j < 64 * m → w3.cell? ⟨g, j, none⟩ = some (.int .u8 (nth d j))) := by
    rcases hown3 with ⟨_, rfl⟩ | ⟨g, cap, rfl, h1, h2, h3, h4, h5, _⟩
    ·have := H64.out
     simp at hd8
    ·rw [← H64.out]
     exact ⟨g, cap, rfl, h1, h2, h3, h4, h5⟩
   clear hown3 hgw hs3
   obtain ⟨hcap⟩ : Nonempty (64 * m ≤ cap) := ⟨hlc⟩
   go_loopw [4] (fun v wr => ∃ (k q : Nat) (A' : Option Addr) (c' : Nat), k + q = m ∧ v = .slice A' (64 * q) c' ∧ (0 < q → A' = some ⟨g, 64 * k, none⟩ ∧ c' = cap - 64 * k) ∧ (∀ j, j < 64 * m → wr.cell? ⟨g, j, none⟩ = some (.int .u8 (nth d j)))
    ∧ Arr .u32 wr w.heap.size 45 (blk d k) ∧ w.grownBy wr none) (fun v _ => lenV v)
   case atStart => exact ⟨0, m, _, _, by omega, rfl, fun _ => ⟨by simp, by simp⟩, hcell, hA3, hg3'⟩
   case round =>
    clear hcell hA3 hg3'
    obtain ⟨k, q, A', c', hkq, rfl, hq, hcell, hA, hg⟩ := hrel
    by_cases hlt : 0 < q
    ·obtain ⟨rfl, rfl⟩ := hq hlt
     obtain ⟨p, rfl⟩ : ∃ p, q = p + 1 := ⟨q - 1, by omega⟩
     have HKQ := Hd hkq
     have n0 : (0 : Int) < ((64 * (p + 1) : Nat) : Int) := by omega
     have n1 : 64 ≤ cap - 64 * k := by omega
     have n2 : 64 ≤ 64 * (p + 1) := by omega
     have n3 : (64 : Int) ≤ ((64 * (p + 1) : Nat) : Int) := by omega
     have n4 : (64 : Int) ≤ ((cap - 64 * k : Nat) : Int) := by omega
     clear hkq hq
     obtain ⟨cc, hcc⟩ : ∃ cc, cc = cap - 64 * k := ⟨_, rfl⟩
     rw [← hcc] at n1 n4 ⊢
     have HCC := Hd hcc
     clear hcc
     have hln8 := blk_len d k
     have hsm8 := blk_small d k
     have HN : Hid (blk d (k + 1) = blockF (blk d k) ((d.drop (64 * k)).take 64)) := rfl
     obtain ⟨st, hst⟩ : ∃ st, st = blk d k := ⟨_, rfl⟩
     rw [← hst] at hA hln8 hsm8 HN
     clear hst
     have hS0 := hA.lt
     have hblk := block_calls w.heap.size wr g (64 * k) cc st ((d.drop (64 * k)).take 64) hA hln8 (by have h1 := H64.out; have h2 := HKQ.out; rw [List.length_take, List.length_drop, h1, ← h2]; omega)
      (fun j hj => by rw [nth_take hj, nth_drop]; exact hcell _ (by have := HKQ.out; omega)) (World.block_lt_of_cell? wr _ (hcell (64 * k) (by have := HKQ.out; omega)))
      (fun j => by
       by_cases hj : j < 64
       ·rw [nth_take hj]; rw [nth_drop]; exact hby.nth _
       ·unfold nth; rw [List.getD_eq_getElem?_getD, List.getElem?_eq_none (by rw [List.length_take]; omega)]; simp) (fun j hj => hg.cell (hR j hj) (by simp)) hsm8
     have HC := Hd hcell
     have HG := Hd hg
     clear hcell hg hA
     go_wp2_with fail
     refine hblk.mono ?_
     rintro e w4 ⟨rfl, hA4, hgr4⟩
     clear hblk
     have hcell4 : ∀ j, j < 64 * m → w4.cell? ⟨g, j, none⟩ = some (.int .u8 (nth d j)) := fun j hj => hgr4.cell (HC.out j hj) (fun e => by
      have e2 : g = w.heap.size := by injection e
      omega)
     have hg4 : w.grownBy w4 none := below_none HG.out hgr4 (fun k hk => by injection hk with hk; omega)
     rw [← HN.out] at hA4
     have HC4 := Hd hcell4
     have HA4 := Hd hA4
     have HG4 := Hd hg4
     clear hcell4 hA4 hg4 hgr4
     go_wp2_with fail
     go_roundw
     case rel =>
      have h2 := HKQ.out
      have h3 := HCC.out
      refine ⟨k + 1, p, _, _, by omega, by rw [show 64 * (p + 1) - 64 = 64 * p by omega], fun hp => ?_, HC4.out, HA4.out, HG4.out⟩
      rw [if_neg (by omega)]
      exact ⟨by rw [show 64 * k + 64 = 64 * (k + 1) by omega], by omega⟩
     case measure => simp [lenV]; omega
    ·obtain rfl : q = 0 := by omega
     obtain rfl : k = m := by omega
     clear hq hlt hkq
     have n0 : decide ((0 : Int) > ((0 : Nat) : Int)) = false := by decide
     have HDF2 : Hid (digestF (bytesOf s) = outs (blk d k) 8) := HDF
     clear HDF
     have hln8 := blk_len d k
     have hsm8 := blk_small d k
     obtain ⟨st, hst⟩ : ∃ st, st = blk d k := ⟨_, rfl⟩
     rw [← hst] at hA hln8 hsm8 HDF2
     clear hst
     have hS0 := hA.lt
     have f0 : wr.cell? ⟨w.heap.size, 0, none⟩ = some (.int .u32 (nth st 0)) := hA.cell 0 (by omega)
     have f1 : wr.cell? ⟨w.heap.size, 1, none⟩ = some (.int .u32 (nth st 1)) := hA.cell 1 (by omega)
     have f2 : wr.cell? ⟨w.heap.size, 2, none⟩ = some (.int .u32 (nth st 2)) := hA.cell 2 (by omega)
     have f3 : wr.cell? ⟨w.heap.size, 3, none⟩ = some (.int .u32 (nth st 3)) := hA.cell 3 (by omega)
     have f4 : wr.cell? ⟨w.heap.size, 4, none⟩ = some (.int .u32 (nth st 4)) := hA.cell 4 (by omega)
     have f5 : wr.cell? ⟨w.heap.size, 5, none⟩ = some (.int .u32 (nth st 5)) := hA.cell 5 (by omega)
     have f6 : wr.cell? ⟨w.heap.size, 6, none⟩ = some (.int .u32 (nth st 6)) := hA.cell 6 (by omega)
     have f7 : wr.cell? ⟨w.heap.size, 7, none⟩ = some (.int .u32 (nth st 7)) := hA.cell 7 (by omega)
     have HG := Hd hg
     have HWR : Hid (w.heap.size ≤ wr.heap.size) := hg.size
     clear hA hg hcell
     have hmk : ∀ w : World, Sem.run Tryd.prog (Instr.makeSlice 46 (.int .i64 0) (.int .i64 32)) w = .ok (.slice (some ⟨w.heap.size, 0, none⟩) 0 32) (w.alloc (.cells (Array.replicate 32 (.int .u8 0)) 5)) := fun _ => by kernel_rfl
     have hown : OwnC .u8 w.heap.size (wr.alloc (.cells (Array.replicate 32 (.int .u8 0)) 5)) (.slice (some ⟨wr.heap.size, 0, none⟩) 0 32) [] := by
      refine .inr ⟨wr.heap.size, 32, rfl, HWR.out, by simp, by simp, by decide, fun j hj => by simp at hj, fun j hj => ⟨?_, ?_⟩⟩
      ·rw [World.cell?_alloc_mark]; simp [hj]
      ·simp only [World.frozen?]; rw [heap_alloc_new]; simp
     have hg5 : w.grownBy (wr.alloc (.cells (Array.replicate 32 (.int .u8 0)) 5)) none := gb_alloc HG.out _
     have HO := Hd hown
     have HG5 := Hd hg5
     clear hown hg5 HG
     rw [show 64 * 0 = 0 from rfl]
     go_wp2_with fail
     clear hmk f0 f1 f2 f3 f4 f5 f6 f7
     generalize wr.alloc (.cells (Array.replicate 32 (.int .u8 0)) 5) = W5 at *
     go_loopw [5, 36] (fun v vi wq => ∃ i : Nat, i ≤ 8 ∧ vi = .int .i64 i ∧ OwnC .u8 w.heap.size wq v (outs st i) ∧ w.grownBy wq none) (fun _ vi _ => 8 - (intOf vi).toNat)
     case atStart => exact ⟨0, by omega, rfl, HO.out, HG5.out⟩
     case round =>
      clear HO HG5
      obtain ⟨i, hi, rfl, hown, hg⟩ := hrel
      have hlo := outs_len st i
      obtain ⟨A5, c5, rfl⟩ := hown.slice
      rw [hlo] at hown ⊢
      have HLO := Hd hlo
      clear hlo
      by_cases hlt : i < 8
      ·have hix := idx8 (nth st 0) (nth st 1) (nth st 2) (nth st 3) (nth st 4) (nth st 5) (nth st 6) (nth st 7) i hlt wr
       rw [list8 st hln8] at hix
       have sm := hsm8 i
       have sm0 := sm.1
       have sm1 := sm.2
       have n1 : (i : Int) < 8 := by omega
       clear sm
       have HO4 := Hd (out4_small (hsm8 i))
       go_wp2_with (at_builtin; refine wpl_append (P := Tryd.prog) rfl (.tmp 39) (.tmp 51) 46 46 rfl 5 1 Tryd.underlying46 info5 (base := w.heap.size) (.slice A5 (4 * i) c5) (outs st i) rfl (hown.alloc _) _ rfl [nth st i / 16777216, nth st i / 65536 % 256, nth st i / 256 % 256, nth st i % 256] (src_nums Tryd.underlying46 _ 4 _ _ (four_cells _ .u8 _ _ _ _ 5)) (by rw [HLO.out]; simp; omega) (by rw [HLO.out]; simp; omega) (by have := hg.size; simp; omega) ?_; intro v6 w6 hown6 hg6 hk6)
       rw [← HO4.out] at hown6
       have hg6' : w.grownBy w6 none := below_none (gb_alloc hg _) hg6 (fun k hk => (hown.lt k hk).1)
       clear hg6 hk6 hown hg
       go_roundw
       case rel => exact ⟨i + 1, by omega, by go_num, hown6, hg6'⟩
       case measure => simp [intOf]; omega
      ·obtain rfl : i = 8 := by omega
       rw [show 4 * 8 = 32 from rfl] at *
       have hcv := str_of_own (P := Tryd.prog) wr 46 5 9 Tryd.underlying46 Tryd.underlying5 Tryd.underlying9 hown
       rw [← HDF2.out] at hcv
       have HGE := Hd hg
       clear hown hg
       go_wp2_with fail
       go_ret
       exact ⟨rfl, gb_to_below HGE.out⟩
theorem beqI' {a b : Int} (h : a = b) : (a == b) = true := by simpa using h
theorem bneI' {a b : Int} (h : a ≠ b) : (a == b) = false := by simpa using h
def strB (l : List UInt8) : ByteArray := ⟨l.toArray⟩
theorem strB_append (a b : List UInt8) : strB a ++ strB b = strB (a ++ b) := by
 apply ByteArray.ext
 simp [strB]
theorem strB_size (l : List UInt8) : (strB l).size = l.length := by simp [strB, ByteArray.size]
def SPost (w : World) (l : List UInt8) (e : Ending) (w' : World) : Prop := e = .returned (.string (strB l)) ∧ Below w.heap.size w w'
def lowN (r k : Nat) : List UInt8 := (List.range k).map fun t => Lib.dg r (k - 1 - t)
theorem lowN_succ (r k : Nat) : lowN r (k + 1) = Lib.dg r k :: lowN r k := by
 unfold lowN
 rw [List.range_succ_eq_map, List.map_cons, List.map_map]
 congr 1
 refine List.map_congr_left fun t ht => ?_
 have := List.mem_range.1 ht
 show Lib.dg r (k + 1 - 1 - (t + 1)) = Lib.dg r (k - 1 - t)
 congr 1
 omega
theorem lowN_dec (r : Nat) : lowN r (Lib.nDigits r) = Lib.decDigits r := (Lib.decDigits_eq r).symm
theorem lowN_nine (r : Nat) : lowN r 9 = nine r := by
 unfold lowN nine
 refine List.map_congr_left fun t ht => ?_
 have := List.mem_range.1 ht
 congr 1
def decN (m : Nat) : List UInt8 := if m = 0 then [] else Lib.decDigits m
theorem decN_len {n : Nat} (hm : wlen n ≤ 100000) : (decN n).length ≤ 1000001 := by
 unfold decN
 split
 ·exact Nat.zero_le _
 ·rename_i h
  rw [Lib.decDigits_length]
  have h1 : n < 4294967296 ^ wlen n := lt_dg_len n
  have h2 : 0 < wlen n := wlen_pos.2 h
  have h3 : n < 10 ^ (10 * wlen n) := by
   rw [Nat.pow_mul]
   exact Nat.lt_of_lt_of_le h1 (Nat.pow_le_pow_left (by decide) _)
  have := nd_le (by omega) h3
  omega
theorem decN_step {m : Nat} (h : m ≠ 0) : decN m = decN (m / 1000000000) ++ if m / 1000000000 = 0 then Lib.decDigits (m % 1000000000) else nine (m % 1000000000) := by
 unfold decN
 rw [if_neg h]
 by_cases hq : m / 1000000000 = 0
 ·rw [if_pos hq, if_pos hq, Nat.mod_eq_of_lt (by omega)]; rfl
 ·rw [if_neg hq, if_neg hq, dec_step (by omega)]
set_option maxHeartbeats 32000000 in
set_option maxRecDepth 100000 in
theorem rdigits_calls (w : World) (v : Value) (n : Nat) (h : RN w v n) (hm : wlen n ≤ 100000) : Calls Tryd.prog 33 #[v] w fun e w' => SPost w (Lib.decDigits n) e w' := by
 by_cases hz : n = 0
 ·subst hz
  obtain ⟨A, c, xs, rfl, hc, HX, HR⟩ := h.opened
  obtain rfl : xs = [] := HX.out
  have u1 : ((([] : List Nat).length : Int) == 0) = true := by decide
  clear h HR HX
  go_enter Tryd.func33, Tryd.ntmps33
  go_wp2_with fail
  go_ret
  exact ⟨by rw [Lib.decDigits]; rfl, Below.refl _ _⟩
 have hn1 : decN n = Lib.decDigits n := if_neg hz
 rw [← hn1]
 obtain ⟨A, c, xs, rfl, hc, HX, HR⟩ := h.opened
 have hlx : xs.length ≤ 100000 := by rw [HX.out]; exact hm
 have hl0 : 0 < xs.length := by
  have := wlen_pos.2 hz
  rw [HX.out]; exact this
 have u1 : ((xs.length : Int) == 0) = false := bneI' (by omega)
 have HH := Hd h
 clear h HX HR hn1 hl0
 go_enter Tryd.func33, Tryd.ntmps33
 go_wp2_with fail
 clear u1
 go_loopg [0, 3] n (fun m v0 v3 wr => m ≤ n ∧ RN wr v0 m ∧ (∃ out, v3 = .string (strB out) ∧ decN m ++ out = decN n) ∧ Below w.heap.size w wr)
 case atStart => exact ⟨Nat.le_refl _, HH.out, ⟨[], rfl, List.append_nil _⟩, Below.refl _ _⟩
 case round =>
  obtain ⟨m, rfl⟩ : ∃ x, x = gk := ⟨_, rfl⟩
  obtain ⟨hmn, hrn, ⟨out, rfl, hout⟩, hb⟩ := hrel
  have HO := Hd hout
  have HB := Hd hb
  clear hout hb
  by_cases hm0 : m = 0
  ·subst hm0
   obtain ⟨A2, c2, ys, rfl, hc2, HY, HR2⟩ := hrn.opened
   obtain rfl : ys = [] := HY.out
   have HE : Hid (out = decN n) := by have := HO.out; unfold Hid; rw [← this]; rfl
   clear hrn HY HR2
   go_wp2_with fail
   go_ret
   exact ⟨by rw [← HE.out]; rfl, HB.out⟩
  obtain ⟨A2, c2, ys, rfl, hc2, HY, HR2⟩ := hrn.opened
  have hly : ys.length ≤ 100000 := by rw [HY.out]; exact Nat.le_trans (wlen_mono hmn) hm
  have hl1 : (0 : Int) < (ys.length : Int) := by
   have := wlen_pos.2 hm0
   have h2 : ys.length = wlen m := by rw [HY.out]; rfl
   omega
  have HM := Hd hrn
  have hwm : wlen m ≤ 100000000000 := by have := wlen_mono hmn; omega
  clear hrn HY HR2
  go_wp2_with fail
  refine (rhalves_calls _ _ m 1000000000 HM.out hwm (by decide) (by decide)).mono ?_
  rintro e w4 ⟨v, rfl, hq, hb⟩
  obtain ⟨r, hr⟩ : ∃ r, r = m % 1000000000 := ⟨_, rfl⟩
  obtain ⟨q, hqq⟩ : ∃ q, q = m / 1000000000 := ⟨_, rfl⟩
  rw [← hr]
  rw [← hqq] at hq
  have hr9 : r < 1000000000 := by omega
  have HRQ : Hid (m = q * 1000000000 + r) := by unfold Hid; omega
  have HDE : Hid (decN m = decN q ++ if q = 0 then Lib.decDigits r else nine r) := by unfold Hid; rw [decN_step hm0, hqq, hr]
  obtain ⟨A3, c3, zs, rfl, hc3, HZ, HR3⟩ := hq.opened
  have HQ := Hd hq
  have hz3 : zs.length ≤ 100000 := by rw [HZ.out]; exact Nat.le_trans (wlen_mono (by omega)) hm
  have HZQ : Hid ((0 < zs.length) ↔ q ≠ 0) := by unfold Hid; rw [HZ.out]; exact wlen_pos
  have HB4 := Hd (below_next HB.out hb)
  clear hq hb hr hqq HZ HR3
  go_wp2_with fail
  go_loopw [5, 6, 7] (fun v5 v6 v7 wr => ∃ k : Nat, k ≤ 9 ∧ v7 = .int .i64 (k : Int) ∧ v5 = .int .u32 ((r / 10 ^ k : Nat) : Int) ∧ v6 = .string (strB (lowN r k)) ∧ (q ≠ 0 ∨ k = 0 ∨ 10 ^ (k - 1) ≤ r) ∧ Below w4.heap.size w4 wr) (fun _ _ v7 _ => 9 - (intOf v7).toNat)
  case atStart => exact ⟨0, by omega, rfl, by simp, rfl, .inr (.inl rfl), Below.refl _ _⟩
  case round =>
   obtain ⟨k, hk, rfl, rfl, rfl, hmin, hb⟩ := hrel
   have HBi := Hd hb
   have HMI := Hd hmin
   clear hb hmin
   obtain ⟨x, hx⟩ : ∃ x, x = r / 10 ^ k := ⟨_, rfl⟩
   rw [← hx]
   have hxr : x ≤ r := by rw [hx]; exact Nat.div_le_self _ _
   have HXX := Hd hx
   clear hx
   by_cases hex : k = 9 ∨ (q = 0 ∧ x = 0)
   ·have HP : Hid (lowN r k = if q = 0 then Lib.decDigits r else nine r) := by
     unfold Hid
     by_cases hq0 : q = 0
     ·rw [if_pos hq0, ← lowN_dec]
      congr 1
      have h0 : r ≠ 0 := fun e => hm0 (by rw [HRQ.out, hq0, e])
      have h1 : 10 ^ (k - 1) ≤ r := by
       rcases HMI.out with h | h | h
       ·exact absurd hq0 h
       ·rw [h]; simp; omega
       ·exact h
      have h2 : r < 10 ^ k := by
       rcases hex with h | ⟨_, h⟩
       ·rw [h]; exact hr9
       ·rw [h] at HXX
        have := HXX.out
        exact Nat.lt_of_div_eq_zero (Nat.pow_pos (by decide)) this.symm
      have h3 : 0 < k := by
       rcases Nat.eq_zero_or_pos k with h | h
       ·rw [h] at h2; simp at h2; exact absurd h2 h0
       ·exact h
      have := Lib.nDigits_unique (k - 1) r h1 (by rw [show k - 1 + 1 = k by omega]; exact h2)
      omega
     ·rw [if_neg hq0, ← lowN_nine]
      congr 1
      rcases hex with h | ⟨h, _⟩
      ·exact h
      ·exact absurd h hq0
    obtain ⟨part, hpt⟩ : ∃ p, p = lowN r k := ⟨_, rfl⟩
    rw [← hpt] at HP ⊢
    clear hpt
    have HQM : Hid (q < m) := by have := HRQ.out; unfold Hid; omega
    have HQN : Hid (q ≤ n) := by have := HRQ.out; unfold Hid; omega
    have HDQ : Hid (decN q ++ (part ++ out) = decN n) := by unfold Hid; rw [← List.append_assoc, HP.out, ← HDE.out]; exact HO.out
    have hs9 : ¬ 9223372036854775807 < (strB part).size + (strB out).size := by
     have h1 := congrArg List.length HDQ.out
     rw [List.length_append, List.length_append] at h1
     have h2 := decN_len hm
     rw [strB_size, strB_size]
     omega
    have HQB := Hd (HQ.out.below HBi.out)
    have hxz : ¬ (k : Int) < 9 ∨ ((k : Int) < 9 ∧ ¬ (0 : Int) < (x : Int) ∧ ¬ (0 : Int) < (zs.length : Int)) := by
     rcases hex with h | ⟨h1, h2⟩
     ·exact .inl (by omega)
     ·by_cases h9 : (k : Int) < 9
      ·refine .inr ⟨h9, by omega, fun h => ?_⟩
       exact HZQ.out.1 (by omega) h1
      ·exact .inl h9
    clear hex HP
    rcases hxz with h1 | ⟨h1, h2, h3⟩
    ·have s1 : decide ((k : Int) < 9) = false := decide_eq_false h1
     go_wp2_with fail
     go_roundg q
     case rel => exact ⟨HQN.out, HQB.out, ⟨part ++ out, by rw [← strB_append], HDQ.out⟩, below_next HB4.out HBi.out⟩
     case measure => exact HQM.out
    ·have s1 : decide ((k : Int) < 9) = true := decide_eq_true h1
     have s2 : decide ((0 : Int) < (x : Int)) = false := decide_eq_false h2
     have s3 : decide ((0 : Int) < (zs.length : Int)) = false := decide_eq_false h3
     go_wp2_with fail
     go_roundg q
     case rel => exact ⟨HQN.out, HQB.out, ⟨part ++ out, by rw [← strB_append], HDQ.out⟩, below_next HB4.out HBi.out⟩
     case measure => exact HQM.out
   ·have hk9 : k < 9 := by omega
    have h1 : (k : Int) < 9 := by omega
    have s1 : decide ((k : Int) < 9) = true := decide_eq_true h1
    have hgo : (0 : Int) < (x : Int) ∨ (¬ (0 : Int) < (x : Int) ∧ (0 : Int) < (zs.length : Int)) := by
     by_cases h0 : x = 0
     ·refine .inr ⟨by omega, ?_⟩
      have hq0 : q ≠ 0 := fun h => hex (.inr ⟨h, h0⟩)
      have := HZQ.out.2 hq0
      omega
     ·exact .inl (by omega)
    have HMN : Hid (q ≠ 0 ∨ k + 1 = 0 ∨ 10 ^ (k + 1 - 1) ≤ r) := by
     by_cases h0 : q = 0
     ·refine .inr (.inr ?_)
      have hx0 : x ≠ 0 := fun h => hex (.inr ⟨h0, h⟩)
      have h2 := HXX.out
      rw [Nat.add_sub_cancel]
      exact Classical.byContradiction fun h => hx0 (by rw [h2]; exact Nat.div_eq_of_lt (Nat.not_le.1 h))
     ·exact .inl h0
    clear hex
    have hx10 : x % 10 < 10 := Nat.mod_lt _ (by decide)
    have HST : Hid (strB [Lib.dg r k] ++ strB (lowN r k) = strB (lowN r (k + 1))) := by unfold Hid; rw [strB_append, lowN_succ]; rfl
    have HNX : Hid (r / 10 ^ (k + 1) = x / 10) := by unfold Hid; rw [Nat.pow_succ, ← Nat.div_div_eq_div_mul, ← HXX.out]
    have hcv : Sem.run Tryd.prog (convert 46 9 (.slice (some ⟨wr.heap.size, 0, none⟩) 1 1)) (wr.alloc (.cells #[.int .u8 (48 + (x : Int) % 10)] 5)) = .ok (.string (strB [Lib.dg r k])) (wr.alloc (.cells #[.int .u8 (48 + (x : Int) % 10)] 5)) := by
     have h := str_of_cells (P := Tryd.prog) (wr.alloc (.cells #[.int .u8 (48 + (x : Int) % 10)] 5)) 46 5 9 Tryd.underlying46 Tryd.underlying5 Tryd.underlying9 wr.heap.size 0 1 [48 + (x : Int) % 10] (fun j hj => by
      obtain rfl : j = 0 := by simpa using hj
      exact one_cell wr .u8 (48 + (x : Int) % 10) 5 0 (by simp))
     have e : strOfNums [48 + (x : Int) % 10] = strB [Lib.dg r k] := by
      unfold strOfNums strB Lib.dg
      rw [← HXX.out]
      have : (48 + (x : Int) % 10).toNat = 48 + x % 10 := by omega
      simp [this]
     rw [e] at h
     exact h
    have hs9 : ¬ 9223372036854775807 < (strB [Lib.dg r k]).size + (strB (lowN r k)).size := by
     rw [strB_size, strB_size]
     have : (lowN r k).length = k := by simp [lowN]
     rw [this]
     show ¬ 9223372036854775807 < 1 + k
     omega
    have hbn := below_next HBi.out (below_new wr (.cells #[.int .u8 (48 + (x : Int) % 10)] 5))
    have HBN := Hd hbn
    clear hbn
    rcases hgo with h2 | ⟨h2, h3⟩
    ·have s2 : decide ((0 : Int) < (x : Int)) = true := decide_eq_true h2
     go_wp2_with fail
     go_roundw
     case rel => exact ⟨k + 1, by omega, by go_num, by rw [HNX.out]; simp, by rw [← HST.out], HMN.out, HBN.out⟩
     case measure => simp [intOf]; omega
    ·have s2 : decide ((0 : Int) < (x : Int)) = false := decide_eq_false h2
     have s3 : decide ((0 : Int) < (zs.length : Int)) = true := decide_eq_true h3
     obtain rfl : x = 0 := by omega
     rw [show (48 + ((0 : Nat) : Int) % 10) = 48 from rfl] at hcv HBN
     go_wp2_with fail
     go_roundw
     case rel => exact ⟨k + 1, by omega, by go_num, by rw [HNX.out]; simp, by rw [← HST.out], HMN.out, HBN.out⟩
     case measure => simp [intOf]; omega
def Short2Post (w : World) (m d : Nat) (e : Ending) (w' : World) : Prop := ∃ v, e = .returned (.tuple #[v, .int .u32 ((m % d : Nat) : Int)]) ∧ RN w' v (m / d) ∧ Below w.heap.size w w' ∧ ∃ n, v = .slice (some ⟨w.heap.size, 0, none⟩) n n
set_option maxHeartbeats 8000000 in
set_option maxRecDepth 100000 in
theorem short2_calls (w : World) (v : Value) (m d : Nat) (h : RN w v m) (hm : wlen m ≤ 100000000000) (hd : 0 < d) (hd2 : d < 4294967296) :
  Calls Tryd.prog 40 #[v, .int .u32 d] w fun e w' => Short2Post w m d e w' := by
 obtain ⟨A, c, xs, rfl, hc, HX, HR⟩ := h.opened
 clear h
 have hlx : xs.length ≤ 100000000000 := by rw [HX.out]; exact hm
 have HVX : Hid (valN xs = m) := by unfold Hid; rw [HX.out, valN_dg]
 clear HX hm
 go_enter Tryd.func40, Tryd.ntmps40
 have hmk := make_words 55 Tryd.underlying55 xs.length (by omega)
 go_wp2_with fail
 clear hmk
 have hw0 := gb_alloc (gb_refl w none) (zw xs.length)
 have ha0 := zw_arr w xs.length
 generalize w.alloc (zw xs.length) = W0 at *
 go_loopw [7, 8] (fun vr vi wr => ∃ (k rest : Nat) (q : List Nat), k ≤ xs.length ∧ vi = .int .i64 ((k : Int) - 1) ∧ vr = .int .u64 (rest : Int) ∧ rest < d ∧ q.length = xs.length - k ∧ Wd q ∧
   valN (xs.drop k) = d * valN q + rest ∧ Arr .u32 wr w.heap.size 44 (ints (List.replicate k 0 ++ q)) ∧ w.grownBy wr none) (fun _ vi _ => (intOf vi + 1).toNat)
 case atStart => exact ⟨xs.length, 0, [], Nat.le_refl _, by go_num, rfl, hd, by simp, (fun x hx => (by cases hx)), by simp [valN], by rw [List.append_nil]; exact ha0, hw0⟩
 case round =>
  obtain ⟨k, rest, q, hk, rfl, rfl, hrest, hql, hqw, hval, harr, hgb⟩ := hrel
  have HD := Hd hqw
  have HV := Hd hval
  have HA := Hd harr
  have HG := Hd hgb
  have HL := Hd hql
  clear hqw hval harr hql
  by_cases h0 : 0 < k
  ·have HRr := Hd (HR.out.gb hgb)
   clear hgb
   obtain ⟨g, o, rfl, hg, hcell⟩ := HRr.out.cell (j := k - 1) (by omega)
   have n1 : (k : Int) - 1 ≥ 0 := by omega
   have n2 : ((k : Int) - 1).toNat = k - 1 := by omega
   have n4 : (k : Int) - 1 < (xs.length : Int) := by omega
   have hx := nat_lt HR.out.wd (k - 1)
   obtain ⟨x, hxx⟩ : ∃ x, x = nat xs (k - 1) := ⟨_, rfl⟩
   rw [← hxx] at hx hcell
   have HXX := Hd hxx
   clear hxx
   have hlen : (ints (List.replicate k 0 ++ q)).length = xs.length := by rw [ints_length]; simp [HL.out]; omega
   have hco := HA.out.cell (k - 1) (by rw [hlen]; omega)
   have hfr := HA.out.frozen (k - 1)
   obtain ⟨old, hold⟩ : ∃ old, old = (ints (List.replicate k 0 ++ q)).getD (k - 1) 0 := ⟨_, rfl⟩
   rw [← hold] at hco
   clear hold
   have f0 : IntKind.u64.wrap (x : Int) = (x : Int) := IntWalk.u64_in _ (by omega)
   have f1 : IntKind.u64.wrap (d : Int) = (d : Int) := IntWalk.u64_in _ (by omega)
   have f2 : IntKind.u64.wrap ((rest : Int) * 4294967296) = (rest : Int) * 4294967296 := IntWalk.u64_in _ (by omega)
   have hor := or_word rest x (by omega) hx
   obtain ⟨z, hz⟩ : ∃ z, z = rest * 4294967296 + x := ⟨_, rfl⟩
   rw [← hz] at hor
   obtain ⟨qq, rr, hqr, hrr, hqq⟩ := short_step hd (show z < d * 4294967296 by have := Nat.mul_le_mul_right 4294967296 (show rest + 1 ≤ d by omega); omega)
   have hz64 : z < 18446744073709551616 := by omega
   have g1 : (z : Int) / (d : Int) = (qq : Int) := by rw [← Int.natCast_ediv, hqr.1]
   have g2 : (z : Int) % (d : Int) = (rr : Int) := by rw [← Int.natCast_emod, hqr.2]
   have g3 : (z : Int).tdiv (d : Int) = (qq : Int) := by rw [Int.tdiv_eq_ediv_of_nonneg (by omega), g1]
   have g4 : (z : Int).tmod (d : Int) = (rr : Int) := by rw [Int.tmod_eq_emod_of_nonneg (by omega), g2]
   have hqr2 : z = d * qq + rr := by rw [← hqr.1, ← hqr.2]; exact (Nat.div_add_mod z d).symm
   have f3 : IntKind.u64.wrap (qq : Int) = (qq : Int) := IntWalk.u64_in _ (by omega)
   have f4 : IntKind.u64.wrap (rr : Int) = (rr : Int) := IntWalk.u64_in _ (by omega)
   have f5 : IntKind.u32.wrap (qq : Int) = (qq : Int) := by rw [IntKind.wrap_u32]; omega
   have d0 : ((d : Int) == 0) = false := by
    have : (d : Int) ≠ 0 := by omega
    simpa using this
   have d1 : (d : Int) ≠ 0 := by omega
   have nw : IntKind.i64.wrap ((k : Int) - 1 - 1) = (k : Int) - 1 - 1 := IntWalk.i64_in _ (by omega)
   have HZ := Hd hz
   have HQR := Hd hqr2
   clear hz hqr hqr2
   go_wp2_with fail
   go_roundw
   case rel =>
    refine ⟨k - 1, rr, qq :: q, by omega, by go_num, rfl, hrr, by rw [List.length_cons, HL.out]; omega, ?_, ?_, ?_, gb_set HG.out (.inl (Nat.le_refl _)) _⟩
    ·intro y hy
     rcases List.mem_cons.1 hy with rfl | hy
     ·exact hqq
     ·exact HD.out y hy
    ·rw [valN_drop _ _ (by omega), show k - 1 + 1 = k by omega, HV.out, valN, ← HXX.out]
     have h1 := HZ.out
     have h2 := HQR.out
     grind
    ·have := HA.out.set (k - 1) (qq : Int)
     rw [ints_set] at this
     rw [show List.replicate k 0 = List.replicate (k - 1) 0 ++ [0] by rw [← List.replicate_succ', show k - 1 + 1 = k by omega], List.append_assoc, List.set_append_right _ _ (by simp)] at this
     simp only [List.length_replicate, Nat.sub_self, List.cons_append, List.nil_append, List.set_cons_zero] at this
     exact this
   case measure => simp [intOf]; omega
  ·obtain rfl : k = 0 := by omega
   have ha2 := HA.out
   rw [List.replicate_zero, List.nil_append] at ha2
   have hql : q.length = xs.length := by have := HL.out; omega
   have hrd := Rd.of_arr ha2 HD.out
   have HRD := Hd (show Rd wr (.slice (some ⟨w.heap.size, 0, none⟩) q.length xs.length) q by rw [hql] at hrd ⊢; exact hrd)
   have HQL := Hd hql
   clear ha2 hrd hql hgb
   have f4 : IntKind.u32.wrap (rest : Int) = (rest : Int) := by rw [IntKind.wrap_u32]; omega
   go_wp2_with fail
   have htr := trim_calls wr (some ⟨w.heap.size, 0, none⟩) xs.length q HRD.out (by rw [HQL.out]; omega) (by rw [HQL.out]; exact Nat.le_refl _)
   rw [HQL.out] at htr
   refine htr.mono ?_
   rintro e w' ⟨nn, hnn, rfl, htk, hb⟩
   have hv : RN w' (.slice (some ⟨w.heap.size, 0, none⟩) nn nn) (valN q) := by
    have h := (HRD.out.below hb).take nn hnn
    rw [htk] at h
    exact h
   have hval : m = d * valN q + rest := by
    have := HV.out
    rw [List.drop_zero, HVX.out] at this
    exact this
   have hq : valN q = m / d := by
    rw [hval, Nat.add_comm, Nat.add_mul_div_left _ _ hd, Nat.div_eq_of_lt hrest, Nat.zero_add]
   have hr : rest = m % d := by
    rw [hval, Nat.mul_add_mod, Nat.mod_eq_of_lt hrest]
   rw [hq] at hv
   have HBB := Hd (gb_to_below (gb_below HG.out hb))
   have HRR := Hd hr
   clear hq hr hval
   go_wp2_with fail
   go_ret2
   exact ⟨_, by rw [← HRR.out]; rfl, hv, HBB.out, ⟨nn, rfl⟩⟩
theorem info44u : (Tryd.prog.info? 44).map (fun i => (i.zero, i.size, i.bytes)) = some (some (.int .u32 0), 1, 4) := by kernel_rfl
theorem partsN_len2 (n : Nat) : (partsN n).length ≤ (decN n).length := by
 induction n using Nat.strongRecOn with
 | _ n ih =>
  by_cases h : n = 0
  ·rw [h, partsN_zero]; exact Nat.zero_le _
  ·rw [partsN_pos h, List.length_cons, decN_step h, List.length_append]
   have := ih (n / 1000000000) (by omega)
   have h2 : 0 < (if n / 1000000000 = 0 then Lib.decDigits (n % 1000000000) else nine (n % 1000000000)).length := by
    split
    ·rw [Lib.decDigits_length]; exact Lib.nDigits_pos _
    ·simp [nine]
   omega
theorem below_grown {w W w7 : World} {row : Option Nat} (h : Below w.heap.size w W) (hg : W.grownBy w7 row) (hr : ∀ g, row = some g → w.heap.size ≤ g) : Below w.heap.size w w7 :=
 ⟨hg.os.trans h.os, hg.tape.trans h.tape, hg.output.trans h.output, Nat.le_trans h.size hg.size, fun k hk => (hg.block k (Nat.lt_of_lt_of_le hk h.size) (fun e => absurd (hr k e.symm) (Nat.not_le.2 hk))).trans (h.block k hk)⟩
def bytesI (l : List UInt8) : List Int := l.map fun b => (b.toNat : Int)
theorem bytesI_length (l : List UInt8) : (bytesI l).length = l.length := by simp [bytesI]
theorem strOf_bytesI (l : List UInt8) : strOfNums (bytesI l) = strB l := by
 unfold strOfNums bytesI strB
 congr 2
 rw [List.map_map]
 conv => rhs; rw [← List.map_id l]
 refine List.map_congr_left fun b _ => ?_
 simp
theorem bytesI_append (a b : List UInt8) : bytesI (a ++ b) = bytesI a ++ bytesI b := by simp [bytesI]
theorem grp_len : ∀ (a b : List Nat) (c : List UInt8), (a.foldl grpB c).length ≤ (b.foldl grpB (a.foldl grpB c)).length := by
 intro a b c
 generalize a.foldl grpB c = o
 induction b generalizing o with
 | nil => exact Nat.le_refl _
 | cons x b ih =>
  refine Nat.le_trans ?_ (ih (grpB o x))
  unfold grpB
  rw [List.length_append]
  omega
theorem slice_nine (w : World) (g f : Nat) (hf : f ≤ 8) : Sem.run Tryd.prog (Instr.sliceAt 70 (.pointer (some ⟨g, 0, none⟩)) (some (.int .i64 (f : Int))) none none) w = .ok (.slice (some ⟨g, f, none⟩) (9 - f) (9 - f)) w := by
 have hal : Tryd.prog.arrayLen 70 = 9 := by kernel_rfl
 have hel : Tryd.prog.elem 70 = 5 := by kernel_rfl
 have h := run_sliceAt_array_l (P := Tryd.prog) w 70 ⟨g, 0, none⟩ (by rw [hal, hel]; exact Tryd.underlying70) .i64 (f : Int) (by omega) (by rw [hal]; omega)
 rw [hal, hel] at h
 refine h.trans ?_
 go_simp
 try omega
def fillN (x j : Nat) : List Int := (List.range 9).map fun t => if t < 9 - j then 0 else ((48 + x / 10 ^ (8 - t) % 10 : Nat) : Int)
theorem fillN_length (x j : Nat) : (fillN x j).length = 9 := by simp [fillN]
theorem fillN_zero (x : Nat) : fillN x 0 = List.replicate 9 0 := by
 apply List.ext_getElem
 ·simp [fillN]
 ·intro i h1 h2
  have h3 : i < 9 := by simpa [fillN] using h1
  rw [List.getElem_replicate]
  simp only [fillN, List.getElem_map, List.getElem_range]
  rw [if_pos (by omega)]
theorem fillN_set {x j : Nat} (hj : j < 9) : (fillN x j).set (8 - j) ((48 + x / 10 ^ j % 10 : Nat) : Int) = fillN x (j + 1) := by
 apply List.ext_getElem
 ·simp [fillN]
 ·intro i h1 h2
  simp only [fillN, List.length_set, List.length_map, List.length_range] at h1
  rw [List.getElem_set]
  by_cases e : 8 - j = i
  ·rw [if_pos e]
   subst e
   simp only [fillN, List.getElem_map, List.getElem_range]
   rw [if_neg (by omega), show 8 - (8 - j) = j by omega]
  ·rw [if_neg e]
   simp only [fillN, List.getElem_map, List.getElem_range]
   by_cases h : i < 9 - (j + 1)
   ·rw [if_pos h, if_pos (by omega)]
   ·rw [if_neg h, if_neg (by omega)]
theorem fillN_nine (x : Nat) : fillN x 9 = bytesI (nine x) := by
 unfold fillN bytesI nine
 rw [List.map_map]
 refine List.map_congr_left fun t _ => ?_
 rw [if_neg (by omega)]
 show _ = (((Lib.dg x (8 - t)).toNat : Nat) : Int)
 unfold Lib.dg
 have : x / 10 ^ (8 - t) % 10 < 10 := Nat.mod_lt _ (by decide)
 rw [UInt8.toNat_ofNat']
 congr 1
 omega
set_option maxHeartbeats 32000000 in
set_option maxRecDepth 100000 in
theorem text_calls (w : World) (v : Value) (n : Nat) (h : RN w v n) (hm : wlen n ≤ 100000) : Calls Tryd.prog 30 #[v] w fun e w' => SPost w (Lib.decDigits n) e w' := by
 by_cases hz : n = 0
 ·subst hz
  obtain ⟨A, c, xs, rfl, hc, HX, HR⟩ := h.opened
  obtain rfl : xs = [] := HX.out
  have u1 : ((([] : List Nat).length : Int) == 0) = true := by decide
  clear h HR HX
  go_enter Tryd.func30, Tryd.ntmps30
  go_wp2_with fail
  go_ret
  exact ⟨by rw [Lib.decDigits]; rfl, Below.refl _ _⟩
 obtain ⟨A, c, xs, rfl, hc, HX, HR⟩ := h.opened
 have hlx : xs.length ≤ 100000 := by rw [HX.out]; exact hm
 have hl0 : 0 < xs.length := by
  have := wlen_pos.2 hz
  rw [HX.out]; exact this
 have u1 : ((xs.length : Int) == 0) = false := bneI' (by omega)
 have HH := Hd h
 have HNZ := Hd hz
 clear h HX HR hl0
 go_enter Tryd.func30, Tryd.ntmps30
 go_wp2_with fail
 clear u1
 go_loopg [0, 3] n (fun m v0 v3 wr => m ≤ n ∧ RN wr v0 m ∧ (∃ ps, OwnC .u32 w.heap.size wr v3 (ints ps) ∧ ps ++ partsN m = partsN n) ∧ (∀ g, v0.ownBlock = some g → v3.ownBlock ≠ some g) ∧ Below w.heap.size w wr)
 case atStart => exact ⟨Nat.le_refl _, HH.out, ⟨[], OwnC.nil _ _ _, rfl⟩, fun _ _ => by simp [Value.ownBlock], Below.refl _ _⟩
 case round =>
  obtain ⟨m, rfl⟩ : ∃ x, x = gk := ⟨_, rfl⟩
  obtain ⟨hmn, hrn, ⟨ps, hps, hpp⟩, hdj, hb⟩ := hrel
  obtain ⟨P3, p3, rfl⟩ := hps.slice
  rw [ints_length] at *
  have HPS := Hd hps
  have HPP := Hd hpp
  have HB := Hd hb
  have HDJ := Hd hdj
  have hpl : ps.length ≤ 1000001 := by
   have h1 := congrArg List.length hpp
   rw [List.length_append] at h1
   have h2 := partsN_len2 n
   have h3 := decN_len hm
   omega
  clear hps hpp hb hdj
  by_cases hm0 : m = 0
  ·subst hm0
   obtain ⟨A2, c2, ys, rfl, hc2, HY, HR2⟩ := hrn.opened
   obtain rfl : ys = [] := HY.out
   have HE : Hid (ps = partsN n) := by have := HPP.out; rw [partsN_zero, List.append_nil] at this; exact this
   have hpl9 : ∀ y ∈ ps, y < 1000000000 := by rw [HE.out]; exact partsN_lt n
   have HP9 := Hd hpl9
   have HPB : Hid (∀ g, (Value.slice P3 ps.length p3).ownBlock = some g → g < wr.heap.size) := fun g hg => (HPS.out.lt g hg).2
   obtain ⟨wA, rfl⟩ : ∃ x, x = wr := ⟨_, rfl⟩
   clear hrn HY HR2 HDJ HPP hpl9
   rw [show ([] : List Nat).length = 0 from rfl]
   go_wp2_with fail
   go_loopw [6, 7] (fun v6 v7 wz => ∃ k : Nat, k ≤ ps.length ∧ v7 = .int .i64 ((ps.length : Int) - 1 - (k : Int)) ∧ OwnC .u8 wA.heap.size wz v6 (bytesI ((ps.reverse.take k).foldl grpB [])) ∧ Below wA.heap.size wA wz) (fun _ v7 _ => (intOf v7 + 1).toNat)
   case atStart => exact ⟨0, Nat.zero_le _, by go_num, OwnC.nil _ _ _, Below.refl _ _⟩
   case round =>
    obtain ⟨wk, rfl⟩ : ∃ x, x = wr := ⟨_, rfl⟩
    obtain ⟨k, hk, rfl, hov, hb⟩ := hrel
    obtain ⟨P6, p6, rfl⟩ := hov.slice
    have HO6 := Hd hov
    have HB6 := Hd hb
    have HPS6 := Hd (HPS.out.move hb.size fun g hg => hb.block g (HPS.out.lt g hg).2)
    obtain ⟨out, hout⟩ : ∃ o, o = (ps.reverse.take k).foldl grpB [] := ⟨_, rfl⟩
    rw [← hout] at HO6 ⊢
    have HOU := Hd hout
    rw [bytesI_length] at *
    clear hov hb hout
    by_cases hkl : k < ps.length
    ·obtain ⟨x, hx⟩ : ∃ x, ps[ps.length - 1 - k]? = some x := ⟨ps[ps.length - 1 - k]'(by omega), List.getElem?_eq_getElem _⟩
     have hx9 : x < 1000000000 := HP9.out x (List.mem_of_getElem? hx)
     have hrev : ps.reverse[k]? = some x := by rw [List.getElem?_reverse hkl]; exact hx
     have HNXT : Hid ((ps.reverse.take (k + 1)).foldl grpB [] = grpB out x) := by unfold Hid; rw [List.take_add_one, hrev, List.foldl_append, ← HOU.out]; rfl
     have hnx : nth (ints ps) (ps.length - 1 - k) = (x : Int) := by
      unfold nth ints
      rw [List.getD_eq_getElem?_getD, List.getElem?_map, hx]
      rfl
     obtain ⟨g3, rfl, hg3, c0⟩ : ∃ g3, P3 = some ⟨g3, 0, none⟩ ∧ g3 < wk.heap.size ∧ wk.cell? ⟨g3, ps.length - 1 - k, none⟩ = some (.int .u32 (x : Int)) := by
      rcases HPS6.out with ⟨_, h0⟩ | ⟨g3, cap3, e3, _, hg3l, _, _, hcells, _⟩
      ·have := congrArg List.length h0
       rw [ints_length] at this
       have h1 : ps.length = 0 := this
       omega
      ·injection e3 with e3 _ _
       refine ⟨g3, e3, hg3l, ?_⟩
       rw [← hnx]
       exact hcells _ (by rw [ints_length]; omega)
     have m1 : (0 : Int) ≤ (ps.length : Int) - 1 - (k : Int) := by omega
     have m2 : ((ps.length : Int) - 1 - (k : Int)).toNat = ps.length - 1 - k := by omega
     have m3 : (ps.length : Int) - 1 - (k : Int) < (ps.length : Int) := by omega
     clear hx hrev hnx
     go_wp2_with fail
     have hbn := below_new wk (.cells #[.int .u8 0, .int .u8 0, .int .u8 0, .int .u8 0, .int .u8 0, .int .u8 0, .int .u8 0, .int .u8 0, .int .u8 0] 70)
     have HAR : Hid (Arr .u8 (wk.alloc (.cells #[.int .u8 0, .int .u8 0, .int .u8 0, .int .u8 0, .int .u8 0, .int .u8 0, .int .u8 0, .int .u8 0, .int .u8 0] 70)) wk.heap.size 70 (fillN x 0)) := by unfold Hid; rw [fillN_zero]; exact heap_alloc_new _ _
     have HB5 := Hd hbn
     have HG9 := Hd (fun (g : Nat) hg => (HO6.out.lt g hg).2)
     have HG36 := Hd hg3
     obtain ⟨g9, hg9⟩ : ∃ g, g = wk.heap.size := ⟨_, rfl⟩
     rw [← hg9] at HAR ⊢
     have hw9 : wk.heap.size ≤ g9 := Nat.le_of_eq hg9.symm
     generalize wk.alloc (.cells #[.int .u8 0, .int .u8 0, .int .u8 0, .int .u8 0, .int .u8 0, .int .u8 0, .int .u8 0, .int .u8 0, .int .u8 0] 70) = W5 at *
     clear hbn c0 m1 m2 m3 hg9
     go_loopw [9, 10] (fun v9 v10 wz => ∃ j : Nat, j ≤ 9 ∧ v10 = .int .i64 (8 - (j : Int)) ∧ v9 = .int .u32 ((x / 10 ^ j : Nat) : Int) ∧ Arr .u8 wz g9 70 (fillN x j) ∧ Below wk.heap.size wk wz) (fun _ v10 _ => (intOf v10 + 1).toNat)
     case atStart => exact ⟨0, by omega, rfl, by simp, HAR.out, HB5.out⟩
     case round =>
      obtain ⟨wz, rfl⟩ : ∃ y, y = wr := ⟨_, rfl⟩
      obtain ⟨j, hj, rfl, rfl, har, hb⟩ := hrel
      have HA := Hd har
      have HBz := Hd hb
      clear har hb
      obtain ⟨y, hy⟩ : ∃ y, y = x / 10 ^ j := ⟨_, rfl⟩
      rw [← hy]
      have hyx : y ≤ x := by rw [hy]; exact Nat.div_le_self _ _
      have HYY := Hd hy
      clear hy
      by_cases hj9 : j < 9
      ·have n1 : (0 : Int) ≤ 8 - (j : Int) := by omega
       have n2 : (8 - (j : Int)).toNat = 8 - j := by omega
       have n3 : 8 - (j : Int) < 9 := by omega
       have hy10 : y % 10 < 10 := Nat.mod_lt _ (by decide)
       have hco := HA.out.cell (8 - j) (by rw [fillN_length]; omega)
       have hfr := HA.out.frozen (8 - j)
       have hlt9 := HA.out.lt
       obtain ⟨old, hold⟩ : ∃ o, o = (fillN x j).getD (8 - j) 0 := ⟨_, rfl⟩
       rw [← hold] at hco
       clear hold
       have HNX : Hid (x / 10 ^ (j + 1) = y / 10) := by unfold Hid; rw [Nat.pow_succ, ← Nat.div_div_eq_div_mul, ← HYY.out]
       have HA1 : Hid (Arr .u8 (wz.setCell ⟨g9, 8 - j, none⟩ (.int .u8 (48 + (y : Int) % 10))) g9 70 (fillN x (j + 1))) := by
        unfold Hid
        rw [← fillN_set hj9, ← HYY.out]
        have := HA.out.set (8 - j) ((48 + y % 10 : Nat) : Int)
        rw [show ((48 + y % 10 : Nat) : Int) = 48 + (y : Int) % 10 by omega] at this ⊢
        exact this
       have HB1 := Hd (below_put HBz.out ⟨g9, 8 - j, none⟩ hw9 (.int .u8 (48 + (y : Int) % 10)))
       go_wp2_with fail
       go_roundw
       case rel => exact ⟨j + 1, by omega, by go_num, by rw [HNX.out]; simp, HA1.out, HB1.out⟩
       case measure => simp [intOf]; omega
      ·obtain rfl : j = 9 := by omega
       go_wp2_with fail
       have HA9 : Hid (Arr .u8 wz g9 70 (bytesI (nine x))) := by unfold Hid; rw [← fillN_nine]; exact HA.out
       clear HA HAR HB5 HYY
       go_loopw [11] (fun v11 wq => (∃ f : Nat, f ≤ 8 ∧ v11 = .int .i64 (f : Int) ∧ (f = 0 ∨ out = []) ∧ ∀ i, i < f → (nine x)[i]? = some 48) ∧ Arr .u8 wq g9 70 (bytesI (nine x)) ∧ Below wk.heap.size wk wq) (fun v11 _ => 8 - (intOf v11).toNat)
       case atStart => exact ⟨⟨0, by omega, rfl, .inl rfl, fun i h => absurd h (Nat.not_lt_zero _)⟩, HA9.out, HBz.out⟩
       case round =>
        obtain ⟨wq, rfl⟩ : ∃ y, y = wr := ⟨_, rfl⟩
        obtain ⟨⟨f, hf8, rfl, hfo, hall⟩, har, hbq⟩ := hrel
        have HA8 := Hd har
        have HBq := Hd hbq
        clear har hbq HA9
        have HALL := Hd hall
        have HFO := Hd hfo
        clear hall hfo
        have hlt9 := HA8.out.lt
        obtain ⟨b, hb⟩ : ∃ b, (nine x)[f]? = some b := ⟨(nine x)[f]'(by simp [nine]; omega), List.getElem?_eq_getElem _⟩
        have hc9 := HA8.out.cell f (by rw [bytesI_length]; simp [nine]; omega)
        have hgd : (bytesI (nine x)).getD f 0 = (b.toNat : Int) := by
         unfold bytesI
         rw [List.getD_eq_getElem?_getD, List.getElem?_map, hb]
         rfl
        rw [hgd] at hc9
        have HBB := Hd hb
        have n1 : (f : Int).toNat = f := by omega
        have n2 : (0 : Int) ≤ (f : Int) := by omega
        have n3 : (f : Int) < 9 := by omega
        clear hgd hb
        by_cases hgo : out = [] ∧ f < 8 ∧ b = 48
        ·obtain ⟨ho, hf, rfl⟩ := hgo
         have u1 : ((out.length : Int) == 0) = true := beqI' (by rw [ho]; rfl)
         have u2 : decide ((f : Int) < 8) = true := decide_eq_true (by omega)
         have u3 : ((((48 : UInt8).toNat : Nat) : Int) == 48) = true := by decide
         have n4 : (f : Int) < 8 := by omega
         have HNF : Hid (∀ i, i < f + 1 → (nine x)[i]? = some 48) := fun i h => by
          by_cases e : i = f
          ·rw [e]; exact HBB.out
          ·exact HALL.out i (by omega)
         have HO0 := Hd ho
         clear ho
         go_wp2_with fail
         go_roundw
         case rel => exact ⟨⟨f + 1, by omega, by go_num, .inr HO0.out, HNF.out⟩, HA8.out, HBq.out⟩
         case measure => simp [intOf]; omega
        ·have HGR : Hid (out ++ (nine x).drop f = grpB out x) := by
          unfold Hid grpB
          congr 1
          by_cases ho : out = []
          ·rw [if_pos ho, dec_nine hx9]
           congr 1
           have hd := Lib.nDigits_pos x
           have h8 : 9 - Lib.nDigits x ≤ 8 := by omega
           rcases Nat.lt_trichotomy f (9 - Lib.nDigits x) with h | h | h
           ·have h1 := nine_zero hx9 h
            rw [HBB.out] at h1
            injection h1 with h1
            exact absurd ⟨ho, by omega, h1⟩ hgo
           ·exact h
           ·have hx0 : 0 < x := by
             rcases Nat.eq_zero_or_pos x with e | e
             ·subst e
              rw [Lib.nDigits_small (by decide)] at h
              omega
             ·exact e
            obtain ⟨b', h1, h2⟩ := nine_first hx0 hx9
            rw [HALL.out _ h] at h1
            injection h1 with h1
            exact absurd h1.symm h2
          ·rw [if_neg ho]
           rcases HFO.out with h | h
           ·rw [h]; rfl
           ·exact absurd h ho
         have hst : ((out.length : Int) == 0) = false ∨ (((out.length : Int) == 0) = true ∧ decide ((f : Int) < 8) = false) ∨ (((out.length : Int) == 0) = true ∧ decide ((f : Int) < 8) = true ∧ (((b.toNat : Nat) : Int) == 48) = false) := by
          by_cases ho : out = []
          ·by_cases hf : f < 8
           ·refine .inr (.inr ⟨beqI' (by rw [ho]; rfl), decide_eq_true (by omega), bneI' fun e => hgo ⟨ho, hf, ?_⟩⟩)
            have : b.toNat = 48 := by omega
            exact UInt8.toNat_inj.1 this
           ·exact .inr (.inl ⟨beqI' (by rw [ho]; rfl), decide_eq_false (by omega)⟩)
          ·refine .inl (bneI' fun e => ho (List.eq_nil_of_length_eq_zero (by omega)))
         clear hgo
         have hsl := slice_nine wq g9 f hf8
         have HBA := Hd (below_next HB6.out HBq.out)
         have HO8 := Hd (HO6.out.move HBq.out.size fun g hg => HBq.out.block g (HO6.out.lt g hg).2)
         have HLD : Hid ((bytesI ((nine x).drop f)).length = 9 - f) := by unfold Hid; rw [bytesI_length, List.length_drop]; rfl
         have HSR : Hid (Src Tryd.prog 1 46 (.slice (some ⟨g9, f, none⟩) (9 - f) (9 - f)) (bytesI ((nine x).drop f)).length (nums .u8 (bytesI ((nine x).drop f))) wq) := by
          have h := src_nums (P := Tryd.prog) Tryd.underlying46 (k := .u8) ⟨g9, f, none⟩ (9 - f) (bytesI ((nine x).drop f)) wq (fun j hj => by
           rw [HLD.out] at hj
           have h1 := HA8.out.cell (f + j) (by rw [bytesI_length]; show f + j < 9; omega)
           rw [add_at', h1]
           congr 2
           unfold nth bytesI
           rw [List.getD_eq_getElem?_getD, List.getD_eq_getElem?_getD, List.getElem?_map, List.getElem?_map, List.getElem?_drop])
          rw [HLD.out] at h ⊢
          exact h
         have hol : out.length ≤ 1000001 := by
          have h1 : out.length ≤ (decN n).length := by
           have h2 := grp_len (ps.reverse.take k) (ps.reverse.drop k) []
           rw [← List.foldl_append, List.take_append_drop, ← HOU.out, HE.out, parts_dec HNZ.out] at h2
           rw [show decN n = Lib.decDigits n from if_neg HNZ.out]
           exact h2
          exact Nat.le_trans h1 (decN_len hm)
         rcases hst with u1 | ⟨u1, u2⟩ | ⟨u1, u2, u3⟩
         ·go_wp2_with (at_builtin; refine wpl_append (P := Tryd.prog) rfl (.tmp 66) (.tmp 68) 46 46 rfl 5 1 Tryd.underlying46 info5 (base := wA.heap.size) (.slice P6 out.length p6) (bytesI out) rfl HO8.out _ rfl (bytesI ((nine x).drop f)) HSR.out (by rw [bytesI_length, HLD.out]; omega) (by rw [bytesI_length, HLD.out]; omega) HBA.out.size ?_; intro v7 w7 ho7 hg7 hob7)
          have HB7 := Hd (below_grown HBA.out hg7 fun g hg => (HO8.out.lt g hg).1)
          have HO7 : Hid (OwnC .u8 wA.heap.size w7 v7 (bytesI ((ps.reverse.take (k + 1)).foldl grpB []))) := by unfold Hid; rw [HNXT.out, ← HGR.out, bytesI_append]; exact ho7
          clear ho7 hg7 hob7
          go_roundw
          case rel => exact ⟨k + 1, by omega, by go_num, HO7.out, HB7.out⟩
          case measure => simp [intOf]; omega
         ·go_wp2_with (at_builtin; refine wpl_append (P := Tryd.prog) rfl (.tmp 66) (.tmp 68) 46 46 rfl 5 1 Tryd.underlying46 info5 (base := wA.heap.size) (.slice P6 out.length p6) (bytesI out) rfl HO8.out _ rfl (bytesI ((nine x).drop f)) HSR.out (by rw [bytesI_length, HLD.out]; omega) (by rw [bytesI_length, HLD.out]; omega) HBA.out.size ?_; intro v7 w7 ho7 hg7 hob7)
          have HB7 := Hd (below_grown HBA.out hg7 fun g hg => (HO8.out.lt g hg).1)
          have HO7 : Hid (OwnC .u8 wA.heap.size w7 v7 (bytesI ((ps.reverse.take (k + 1)).foldl grpB []))) := by unfold Hid; rw [HNXT.out, ← HGR.out, bytesI_append]; exact ho7
          clear ho7 hg7 hob7
          go_roundw
          case rel => exact ⟨k + 1, by omega, by go_num, HO7.out, HB7.out⟩
          case measure => simp [intOf]; omega
         ·go_wp2_with (at_builtin; refine wpl_append (P := Tryd.prog) rfl (.tmp 66) (.tmp 68) 46 46 rfl 5 1 Tryd.underlying46 info5 (base := wA.heap.size) (.slice P6 out.length p6) (bytesI out) rfl HO8.out _ rfl (bytesI ((nine x).drop f)) HSR.out (by rw [bytesI_length, HLD.out]; omega) (by rw [bytesI_length, HLD.out]; omega) HBA.out.size ?_; intro v7 w7 ho7 hg7 hob7)
          have HB7 := Hd (below_grown HBA.out hg7 fun g hg => (HO8.out.lt g hg).1)
          have HO7 : Hid (OwnC .u8 wA.heap.size w7 v7 (bytesI ((ps.reverse.take (k + 1)).foldl grpB []))) := by unfold Hid; rw [HNXT.out, ← HGR.out, bytesI_append]; exact ho7
          clear ho7 hg7 hob7
          go_roundw
          case rel => exact ⟨k + 1, by omega, by go_num, HO7.out, HB7.out⟩
          case measure => simp [intOf]; omega
    ·obtain rfl : k = ps.length := by omega
     have HF : Hid (out = decN n) := by
      unfold Hid
      rw [HOU.out, HE.out, List.take_of_length_le (by rw [List.length_reverse, ← HE.out]; exact Nat.le_refl _), parts_dec HNZ.out]
      exact (if_neg HNZ.out).symm
     have hcv := str_of_own (P := Tryd.prog) wk 46 5 9 Tryd.underlying46 Tryd.underlying5 Tryd.underlying9 HO6.out
     rw [strOf_bytesI] at hcv
     have HDN : Hid (decN n = Lib.decDigits n) := if_neg HNZ.out
     go_wp2_with fail
     go_ret
     exact ⟨by rw [HF.out, HDN.out]; rfl, below_next HB.out HB6.out⟩
  obtain ⟨A2, c2, ys, rfl, hc2, HY, HR2⟩ := hrn.opened
  have hl1 : (0 : Int) < (ys.length : Int) := by
   have := wlen_pos.2 hm0
   have h2 : ys.length = wlen m := by rw [HY.out]; rfl
   omega
  have HM := Hd hrn
  have hwm : wlen m ≤ 100000000000 := by have := wlen_mono hmn; omega
  clear hrn HY HR2
  go_wp2_with fail
  refine (short2_calls _ _ m 1000000000 HM.out hwm (by decide) (by decide)).mono ?_
  rintro e w4 ⟨v, rfl, hq, hb, ⟨nq, hnq⟩⟩
  obtain ⟨r, hr⟩ : ∃ r, r = m % 1000000000 := ⟨_, rfl⟩
  obtain ⟨q, hqq⟩ : ∃ q, q = m / 1000000000 := ⟨_, rfl⟩
  rw [← hr]
  rw [← hqq] at hq
  have HQ := Hd hq
  have HNX : Hid (ps ++ [r] ++ partsN q = partsN n) := by unfold Hid; rw [List.append_assoc, ← HPP.out, partsN_pos hm0, hqq, hr]; rfl
  have HQM : Hid (q < m) := by unfold Hid; omega
  have HB4 := Hd (below_next HB.out hb)
  have HPS4 := Hd (HPS.out.move hb.size fun g hg => hb.block g (HPS.out.lt g hg).2)
  have HGQ : Hid (∀ g, v.ownBlock = some g → g = wr.heap.size) := fun g hg => by
   rw [hnq] at hg
   simp [Value.ownBlock] at hg
   exact hg.symm
  have HGP : Hid (∀ g, (Value.slice P3 ps.length p3).ownBlock = some g → g < wr.heap.size) := fun g hg => (HPS.out.lt g hg).2
  obtain ⟨Aq, cq, zs, ev, hcq, HZ, HRZ⟩ := hq.opened
  subst ev
  have hwq : w.heap.size ≤ w4.heap.size := HB4.out.size
  have hwr : wr.heap.size ≤ w4.heap.size := hb.size
  clear hq hb hr hqq hnq HZ HRZ HPP
  go_wp2_with (at_builtin; refine wpl_append (P := Tryd.prog) rfl (.tmp 23) (.tmp 25) 25 25 rfl 44 4 Tryd.underlying25 info44u (base := w.heap.size) (.slice P3 ps.length p3) (ints ps) rfl (HPS4.out.alloc _) _ rfl [(r : Int)] (src_nums Tryd.underlying25 _ 1 [(r : Int)] _ (one_cell _ .u32 (r : Int) 44)) (by rw [ints_length]; simp; omega) (by rw [ints_length]; simp; omega) (by simp; omega) ?_; intro v7 w7 ho7 hg7 hob7)
  have hB6 := below_next HB4.out (below_new w4 (.cells #[.int .u32 (r : Int)] 44))
  have HB7 := Hd (below_grown hB6 hg7 fun g hg => (HPS.out.lt g hg).1)
  have HQ7 := Hd ((HQ.out.below (below_new w4 (.cells #[.int .u32 (r : Int)] 44))).grown hg7 fun g hg e => by
   have h1 := HGQ.out g hg
   have h2 := HGP.out g e.symm
   omega)
  have HO7 : Hid (OwnC .u32 w.heap.size w7 v7 (ints (ps ++ [r]))) := by unfold Hid; rw [ints_append]; exact ho7
  have HD7 : Hid (∀ g, (Value.slice Aq zs.length cq).ownBlock = some g → v7.ownBlock ≠ some g) := fun g hg e => by
   have h1 := HGQ.out g hg
   rcases hob7 g e with h2 | h2
   ·have := HGP.out g h2
    omega
   ·have : (w4.alloc (.cells #[.int .u32 (r : Int)] 44)).heap.size = w4.heap.size + 1 := by simp
    have hsz := HB4.out.size
    omega
  clear hB6 ho7 hg7 hob7
  go_roundg q
  case rel => exact ⟨Nat.le_trans (Nat.le_of_lt HQM.out) hmn, HQ7.out, ⟨ps ++ [r], HO7.out, HNX.out⟩, HD7.out, HB7.out⟩
  case measure => exact HQM.out
theorem FQ.parts {w : World} {s : Bool} {v1 v2 : Value} {q : Rat} (h : FQ w (.agg #[.bool s, v1, v2]) q) : s = negQ q ∧ RN w v1 q.num.natAbs ∧ RN w v2 q.den := by
 obtain ⟨x, y, e, h1, h2⟩ := h
 injection e with e
 have e : s = negQ q ∧ v1 = x ∧ v2 = y := by simpa using e
 obtain ⟨rfl, rfl, rfl⟩ := e
 exact ⟨rfl, h1, h2⟩
theorem rlowest_q (w : World) (v v2 : Value) (neg : Bool) (m n : Nat) (q : Rat) (hq : mkRat (sg neg m) n = q) (h : RN w v m) (h2 : RN w v2 n) (hm : wlen m ≤ 1000000000) (hn : wlen n ≤ 1000000000) (hn0 : n ≠ 0) :
  Calls Tryd.prog 48 #[.bool neg, v, v2] w fun e w' => FPost w (capQ q) e w' := hq ▸ rlowest_calls w v v2 neg m n h h2 hm hn hn0
theorem FQ.len {w : World} {A1 A2 : Option Addr} {n1 c1 n2 c2 : Nat} {s : Bool} {q : Rat} (h : FQ w (.agg #[.bool s, .slice A1 n1 c1, .slice A2 n2 c2]) q) : n1 = wlen q.num.natAbs := by
 obtain ⟨_, h1, _⟩ := FQ.parts h
 obtain ⟨A, c, xs, e, _, hx, _⟩ := RN.opened h1
 injection e with _ e _
 rw [e, hx.out]; rfl
set_option maxHeartbeats 16000000 in
set_option maxRecDepth 100000 in
theorem rint_calls (w : World) (n : Int) (h0 : -9223372036854775808 ≤ n) (h1 : n < 9223372036854775808) :
  Calls Tryd.prog 37 #[.int .i64 n] w fun e w' => FPost w (n : Rat) e w' := by
 have HCAP : Hid (capQ (mkRat n 1) = (n : Rat)) := by
  unfold Hid
  have e : mkRat n 1 = (n : Rat) := by simp [Rat.mkRat_one]
  rw [e]
  refine fit_cap (a := 2) ⟨?_, ?_⟩ (by decide)
  ·show wlen n.natAbs ≤ 2
   exact dg_len_two.2 (by omega)
  ·show wlen 1 ≤ 2
   decide
 go_enter Tryd.func37, Tryd.ntmps37
 by_cases hn : n < 0
 ·have t1 : decide (n < 0) = true := decide_eq_true hn
  obtain ⟨k, hk⟩ : ∃ k : Nat, n = -((k : Int) + 1) := ⟨(-(n + 1)).toNat, by omega⟩
  have f1 : IntKind.i64.wrap (n + 1) = -(k : Int) := by rw [IntWalk.i64_in _ (by omega)]; omega
  have f2 : IntKind.i64.wrap (k : Int) = (k : Int) := IntWalk.i64_in _ (by omega)
  have f3 : IntKind.u64.wrap (k : Int) = (k : Int) := IntWalk.u64_in _ (by omega)
  have f4 : IntKind.u64.wrap ((k : Int) + 1) = ((k + 1 : Nat) : Int) := by rw [IntWalk.u64_in _ (by omega)]; omega
  have hm : k + 1 < 18446744073709551616 := by omega
  obtain ⟨m, hmk⟩ : ∃ m, k + 1 = m := ⟨_, rfl⟩
  rw [hmk] at f4 hm
  have HK : Hid (sg true m = n) := by unfold Hid sg; rw [if_pos rfl, hk, ← hmk]; omega
  have hw2 : wlen m ≤ 2 := dg_len_two.2 hm
  clear hk hmk hn
  go_wp2_with fail
  have H0 := Hd (HS.one (w := w) #[.bool false, .slice none 0 0, .slice none 0 0] 27)
  generalize w.alloc (.cells #[.bool false, .slice none 0 0, .slice none 0 0] 27) = W0 at *
  refine (rwide_calls W0 m hm).mono ?_
  rintro e w1 ⟨v, rfl, hv, hb⟩
  have H1 := Hd (H0.out.step hb)
  have HV := Hd hv
  obtain ⟨A5, c5, l5', rfl, _, _, _⟩ := RN.opened hv
  clear hb hv
  go_wp2_with fail
  refine (rone_calls w1).mono ?_
  rintro e w2 ⟨g, rfl, hg, hb⟩
  have H2 := Hd (H1.out.step hb)
  have HV2 := Hd (HV.out.of_below hb)
  have HG := Hd hg
  clear hb hg
  go_wp2_with fail
  refine (rlowest_q w2 _ _ true m 1 (mkRat n 1) (by rw [HK.out]) HV2.out HG.out (by omega) (by decide) (by decide)).mono ?_
  rintro e w3 ⟨v, rfl, hv, hb⟩
  rw [HCAP.out] at hv
  obtain ⟨A7, n7, c7, A8, n8, c8, rfl, HV3⟩ := hv.opened
  have H3 := Hd (H2.out.step hb)
  clear hb hv
  obtain ⟨e0, e1, e2⟩ := (H3.out.blk 0 rfl).c3
  obtain ⟨f0, f1, f2⟩ := (H3.out.blk 0 rfl).f3
  go_wp2_with fail
  exact end40 Tryd.results37 rfl (H3.out.blk 0 rfl) HV3.out (Nat.le_refl _) H3.out.2
 ·have t1 : decide (n < 0) = false := decide_eq_false hn
  obtain ⟨m, hm⟩ : ∃ m : Nat, n = (m : Int) := ⟨n.toNat, by omega⟩
  subst hm
  have f1 : IntKind.u64.wrap (m : Int) = (m : Int) := IntWalk.u64_in _ (by omega)
  have hw2 : wlen m ≤ 2 := dg_len_two.2 (by omega)
  have hm64 : m < 18446744073709551616 := by omega
  clear hn
  go_wp2_with fail
  have H0 := Hd (HS.one (w := w) #[.bool false, .slice none 0 0, .slice none 0 0] 27)
  generalize w.alloc (.cells #[.bool false, .slice none 0 0, .slice none 0 0] 27) = W0 at *
  refine (rwide_calls W0 m hm64).mono ?_
  rintro e w1 ⟨v, rfl, hv, hb⟩
  have H1 := Hd (H0.out.step hb)
  have HV := Hd hv
  obtain ⟨A5, c5, l5', rfl, _, _, _⟩ := RN.opened hv
  clear hb hv
  go_wp2_with fail
  refine (rone_calls w1).mono ?_
  rintro e w2 ⟨g, rfl, hg, hb⟩
  have H2 := Hd (H1.out.step hb)
  have HV2 := Hd (HV.out.of_below hb)
  have HG := Hd hg
  clear hb hg
  go_wp2_with fail
  refine (rlowest_q w2 _ _ false m 1 (mkRat m 1) rfl HV2.out HG.out (by omega) (by decide) (by decide)).mono ?_
  rintro e w3 ⟨v, rfl, hv, hb⟩
  rw [HCAP.out] at hv
  obtain ⟨A7, n7, c7, A8, n8, c8, rfl, HV3⟩ := hv.opened
  have H3 := Hd (H2.out.step hb)
  clear hb hv
  obtain ⟨e0, e1, e2⟩ := (H3.out.blk 0 rfl).c3
  obtain ⟨f0, f1, f2⟩ := (H3.out.blk 0 rfl).f3
  go_wp2_with fail
  exact end40 Tryd.results37 rfl (H3.out.blk 0 rfl) HV3.out (Nat.le_refl _) H3.out.2
def printB (q : Rat) : List UInt8 := (if negQ q = true then [45] else []) ++ Lib.decDigits q.num.natAbs ++ (if q.den = 1 then [] else 47 :: Lib.decDigits q.den)
theorem dec_len {n : Nat} (hm : wlen n ≤ 100000) : (Lib.decDigits n).length ≤ 1000001 := by
 by_cases h : n = 0
 ·subst h; rw [Lib.decDigits_length, Lib.nDigits_small (by decide)]; decide
 ·have := decN_len hm
  rwa [show decN n = Lib.decDigits n from if_neg h] at this
set_option maxHeartbeats 32000000 in
set_option maxRecDepth 100000 in
theorem fprint_calls (w : World) (v : Value) (f : RawF) (h : FR w v f) : Calls Tryd.prog 20 #[v] w fun e w' => SPost w (printB (fixQ f)) e w' := by
 obtain ⟨A1, n1, c1, A2, n2, c2, rfl, H⟩ := h.opened
 have hsz := sizeQ_fix f
 have hw1 : wlen (fixQ f).num.natAbs ≤ 100000 := by unfold sizeQ at hsz; omega
 have hw2 : wlen (fixQ f).den ≤ 100000 := by unfold sizeQ at hsz; omega
 clear h hsz
 go_enter Tryd.func20, Tryd.ntmps20
 go_wp2_with fail
 have HB0 := Hd (below_new w (.cells #[.bool f.neg, .slice A1 n1 c1, .slice A2 n2 c2] 27))
 generalize w.alloc (.cells #[.bool f.neg, .slice A1 n1 c1, .slice A2 n2 c2] 27) = W0 at *
 refine (taken_calls W0 _ f (H.out.of_below HB0.out)).mono ?_
 rintro e w1 ⟨v, rfl, hq, hb⟩
 obtain ⟨v1, v2, rfl, hr1, hr2⟩ := hq
 obtain ⟨B1, d1, x1, rfl, _, hx1, _⟩ := hr1.opened
 obtain ⟨B2, d2, x2, rfl, _, hx2, _⟩ := hr2.opened
 have HR1 := Hd hr1
 have HR2 := Hd hr2
 have HB1 := Hd (below_next HB0.out hb)
 clear hr1 hr2 hb hx1 hx2
 go_upto_region 2 with (fail)
 have hbn := below_new w1 (.cells #[.slice B1 x1.length d1, .slice B2 x2.length d2, .bool (negQ (fixQ f))] 57)
 have HBK := Hd (Blk.new w1 57 #[.slice B1 x1.length d1, .slice B2 x2.length d2, .bool (negQ (fixQ f))])
 have HB2 := Hd (below_next HB1.out hbn)
 have HS1 := Hd (HR1.out.below hbn)
 have HS2 := Hd (HR2.out.below hbn)
 obtain ⟨gt, hgt⟩ : ∃ g, g = w1.heap.size := ⟨_, rfl⟩
 rw [← hgt] at HBK ⊢
 generalize w1.alloc (.cells #[.slice B1 x1.length d1, .slice B2 x2.length d2, .bool (negQ (fixQ f))] 57) = W2 at *
 clear hgt hbn HR1 HR2 HB1
 obtain ⟨k0, k1, k2⟩ := HBK.out.c3
 have hlt := HBK.out.lt
 go_wp2_with fail
 refine (text_calls W2 _ _ HS1.out hw1).mono ?_
 rintro e w3 ⟨rfl, hb⟩
 have HB3 := Hd (below_next HB2.out hb)
 have HK3 := Hd (HBK.out.below hb HBK.out.lt)
 have HS3 := Hd (HS2.out.below hb)
 clear hb k0 k1 k2 hlt HBK HS1 HS2 HB2
 obtain ⟨k0, k1, k2⟩ := HK3.out.c3
 have hlt := HK3.out.lt
 obtain ⟨s1, hs1⟩ : ∃ s, s = strB (Lib.decDigits (fixQ f).num.natAbs) := ⟨_, rfl⟩
 rw [← hs1]
 have hz1 : s1.size ≤ 1000001 := by rw [hs1, strB_size]; exact dec_len hw1
 have HE1 := Hd hs1
 have hcc : ¬ 9223372036854775807 < (ByteArray.mk #[45]).size + s1.size := by show ¬ 9223372036854775807 < 1 + s1.size; omega
 clear hs1
 cases hn : negQ (fixQ f)
 case false =>
  rw [hn] at k2
  have HN : Hid ((if negQ (fixQ f) = true then [(45 : UInt8)] else []) = []) := by unfold Hid; rw [hn]; rfl
  clear hn
  go_wp2_with fail
  refine (one_calls _ _ _ HS3.out).mono ?_
  rintro e w4 ⟨rfl, hb⟩
  have HB4 := Hd (below_next HB3.out hb)
  have HK4 := Hd (HK3.out.below hb HK3.out.lt)
  have HS4 := Hd (HS3.out.below hb)
  clear hb k0 k1 k2 hlt
  obtain ⟨k0, k1, k2⟩ := HK4.out.c3
  have hlt := HK4.out.lt
  by_cases hd : (fixQ f).den = 1
  ·have hd1 : decide ((fixQ f).den = 1) = true := decide_eq_true hd
   have HP : Hid (strB (printB (fixQ f)) = s1) := by
    unfold Hid printB
    rw [HN.out, if_pos hd, HE1.out, List.append_nil]
    rfl
   clear hd
   go_wp2_with fail
   go_ret
   exact ⟨by rw [HP.out]; rfl, HB4.out⟩
  ·have hd1 : decide ((fixQ f).den = 1) = false := decide_eq_false hd
   have HD := Hd hd
   clear hd
   go_wp2_with fail
   refine (text_calls _ _ _ HS4.out hw2).mono ?_
   rintro e w5 ⟨rfl, hb⟩
   have HB5 := Hd (below_next HB4.out hb)
   clear hb
   obtain ⟨s3, hs3⟩ : ∃ s, s = strB (Lib.decDigits (fixQ f).den) := ⟨_, rfl⟩
   rw [← hs3]
   have hz3 : s3.size ≤ 1000001 := by rw [hs3, strB_size]; exact dec_len hw2
   have HE3 := Hd hs3
   clear hs3
   have hd2 : ¬ 9223372036854775807 < (ByteArray.mk #[47]).size + s3.size := by show ¬ 9223372036854775807 < 1 + s3.size; omega
   have hd3 : ¬ 9223372036854775807 < s1.size + (ByteArray.mk #[47] ++ s3).size := by
    rw [ByteArray.size_append]
    show ¬ 9223372036854775807 < s1.size + (1 + s3.size)
    omega
   have HP : Hid (strB (printB (fixQ f)) = s1 ++ (ByteArray.mk #[47] ++ s3)) := by
    unfold Hid printB
    rw [HN.out, if_neg HD.out, HE1.out, HE3.out, ← strB_append]
    rw [show (47 :: Lib.decDigits (fixQ f).den) = [47] ++ Lib.decDigits (fixQ f).den from rfl, ← strB_append]
    rfl
   go_wp2_with fail
   go_ret
   exact ⟨by rw [HP.out]; rfl, HB5.out⟩
 case true =>
  rw [hn] at k2
  have HN : Hid ((if negQ (fixQ f) = true then [(45 : UInt8)] else []) = [45]) := by unfold Hid; rw [hn]; rfl
  clear hn
  go_wp2_with fail
  refine (one_calls _ _ _ HS3.out).mono ?_
  rintro e w4 ⟨rfl, hb⟩
  have HB4 := Hd (below_next HB3.out hb)
  have HK4 := Hd (HK3.out.below hb HK3.out.lt)
  have HS4 := Hd (HS3.out.below hb)
  clear hb k0 k1 k2 hlt
  obtain ⟨k0, k1, k2⟩ := HK4.out.c3
  have hlt := HK4.out.lt
  by_cases hd : (fixQ f).den = 1
  ·have hd1 : decide ((fixQ f).den = 1) = true := decide_eq_true hd
   have HP : Hid (strB (printB (fixQ f)) = (ByteArray.mk #[45] ++ s1)) := by
    unfold Hid printB
    rw [HN.out, if_pos hd, HE1.out, List.append_nil]
    exact (strB_append [45] _).symm
   clear hd
   go_wp2_with fail
   go_ret
   exact ⟨by rw [HP.out]; rfl, HB4.out⟩
  ·have hd1 : decide ((fixQ f).den = 1) = false := decide_eq_false hd
   have HD := Hd hd
   clear hd
   go_wp2_with fail
   refine (text_calls _ _ _ HS4.out hw2).mono ?_
   rintro e w5 ⟨rfl, hb⟩
   have HB5 := Hd (below_next HB4.out hb)
   clear hb
   obtain ⟨s3, hs3⟩ : ∃ s, s = strB (Lib.decDigits (fixQ f).den) := ⟨_, rfl⟩
   rw [← hs3]
   have hz3 : s3.size ≤ 1000001 := by rw [hs3, strB_size]; exact dec_len hw2
   have HE3 := Hd hs3
   clear hs3
   have hd2 : ¬ 9223372036854775807 < (ByteArray.mk #[47]).size + s3.size := by show ¬ 9223372036854775807 < 1 + s3.size; omega
   have hd3 : ¬ 9223372036854775807 < (ByteArray.mk #[45] ++ s1).size + (ByteArray.mk #[47] ++ s3).size := by
    rw [ByteArray.size_append, ByteArray.size_append]
    show ¬ 9223372036854775807 < 1 + s1.size + (1 + s3.size)
    omega
   have HP : Hid (strB (printB (fixQ f)) = (ByteArray.mk #[45] ++ s1) ++ (ByteArray.mk #[47] ++ s3)) := by
    unfold Hid printB
    rw [HN.out, if_neg HD.out, HE1.out, HE3.out, ← strB_append, ← strB_append]
    rw [show (47 :: Lib.decDigits (fixQ f).den) = [47] ++ Lib.decDigits (fixQ f).den from rfl, ← strB_append]
    rfl
   go_wp2_with fail
   go_ret
   exact ⟨by rw [HP.out]; rfl, HB5.out⟩
end Go.Proofs.YthpkoidlpfllaaaDoor

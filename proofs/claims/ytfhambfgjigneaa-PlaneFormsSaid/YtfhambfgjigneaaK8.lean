/- Contracts of Go functions that the statement reaches, proved by walking their text, and plain laws over them (texts put together). -/
import Derived.Test.YtfhambfgjigneaaK7
import Derived.Test.YtfhambfgjigneaaK5
set_option linter.unusedVariables false
set_option linter.unusedSimpArgs false
namespace Go.Proofs.Ytfhambfgjigneaa
open Go.RowKit
theorem RN.head {w : World} {A : Option Addr} {l c n : Nat} (h : RN w (.slice A l c) n) (h0 : n ≠ 0) : (1 < l ∧ n ≠ 1) ∨ (l = 1 ∧ n < 4294967296 ∧ ∃ g o, A = some ⟨g, o, none⟩ ∧ g < w.heap.size ∧ w.cell? ⟨g, o, none⟩ = some (.int .u32 (n : Int))) := by
  obtain ⟨A', c', xs, e, _, hx, hr⟩ := h.opened
  injection e with e1 e2 e3
  subst e1 e2 e3
  have hp : 0 < xs.length := by rw [hx.out]; exact wlen_pos.2 h0
  by_cases h1 : xs.length = 1
  · right
    obtain ⟨g, o, rfl, hg, hc⟩ := hr.out.cell (j := 0) hp
    have hn : nat xs 0 = n := by
      rw [← valN_dg n, ← hx.out]
      match xs, h1 with
      | [y], _ => simp [nat, valN]
    rw [hn, Nat.add_zero] at hc
    exact ⟨h1, by rw [← hn]; exact nat_lt hr.out.wd 0, g, o, rfl, hg, hc⟩
  · left
    refine ⟨by omega, ?_⟩
    rintro rfl
    exact h1 (by rw [hx.out]; rfl)
set_option maxHeartbeats 8000000 in
set_option maxRecDepth 100000 in
theorem rone_calls (w : World) : Calls Try.prog 117 #[] w fun e w' => ∃ g, e = .returned (.slice (some ⟨g, 0, none⟩) 1 1) ∧ RN w' (.slice (some ⟨g, 0, none⟩) 1 1) 1 ∧ Below w.heap.size w w' := by
  go_enter Try.func117, Try.ntmps117
  go_wp2_with fail
  go_ret
  exact ⟨w.heap.size, rfl, rn_one w 103, below_new w _⟩
set_option maxHeartbeats 8000000 in
set_option maxRecDepth 100000 in
theorem rzero_calls (w : World) : Calls Try.prog 88 #[] w fun e w' => FPost w 0 e w' := by
  go_enter Try.func88, Try.ntmps88
  go_wp2_with fail
  have H0 := Lib.hid (HS.one (w := w) #[.bool false, .slice none 0 0, .slice none 0 0] 40)
  generalize w.alloc (.cells #[.bool false, .slice none 0 0, .slice none 0 0] 40) = W0 at *
  refine (rone_calls W0).mono ?_
  rintro e w1 ⟨g, rfl, h1, hb⟩
  have H1 := Lib.hid (H0.out.step hb)
  have HV := Lib.hid h1
  clear hb h1
  obtain ⟨e0, e1, e2⟩ := (H1.out.blk 0 rfl).c3
  obtain ⟨f0, f1, f2⟩ := (H1.out.blk 0 rfl).f3
  go_wp2_with fail
  exact end40 Try.results88 rfl (H1.out.blk 0 rfl) ⟨_, _, rfl, Rd.nil _, HV.out⟩ (Nat.le_refl _) H1.out.2
theorem mk_size (neg : Bool) (m n : Nat) (hn : n ≠ 0) : sizeQ (mkRat (sg neg m) n) = wlen (m / Nat.gcd m n) + wlen (n / Nat.gcd m n) := by
  unfold sizeQ
  rw [mk_num neg m n hn, mk_den neg m n hn, sg_natAbs]
theorem fq_mk {w : World} {v1 v2 : Value} {neg : Bool} {m n g : Nat} (hn : n ≠ 0) (hm : m ≠ 0) (hg : g = Nat.gcd m n) (h1 : RN w v1 (m / g)) (h2 : RN w v2 (n / g)) : FQ w (.agg #[.bool neg, v1, v2]) (mkRat (sg neg m) n) := by
  subst hg
  exact ⟨v1, v2, by rw [mk_neg neg m n hn hm], by rw [mk_num neg m n hn, sg_natAbs]; exact h1, by rw [mk_den neg m n hn]; exact h2⟩
set_option maxHeartbeats 16000000 in
set_option maxRecDepth 100000 in
theorem rlowest_calls (w : World) (v v2 : Value) (neg : Bool) (m n : Nat) (h : RN w v m) (h2 : RN w v2 n) (hm : wlen m ≤ 1000000000) (hn : wlen n ≤ 1000000000) (hn0 : n ≠ 0) :
    Calls Try.prog 132 #[.bool neg, v, v2] w fun e w' => FPost w (capQ (mkRat (sg neg m) n)) e w' := by
  have HRN := Lib.hid h
  have HRN2 := Lib.hid h2
  obtain ⟨A, c, xs, rfl, hc, HX, _⟩ := h.opened
  obtain ⟨A2, c2, ys, rfl, hc2, HY, _⟩ := h2.opened
  clear h h2
  obtain ⟨l1, hl1⟩ : ∃ l, l = xs.length := ⟨_, rfl⟩
  obtain ⟨l2, hl2⟩ : ∃ l, l = ys.length := ⟨_, rfl⟩
  have hw1 : l1 = wlen m := by rw [hl1, HX.out]; rfl
  have hw2 : l2 = wlen n := by rw [hl2, HY.out]; rfl
  rw [← hl1] at HRN ⊢
  rw [← hl2] at HRN2 ⊢
  clear hl1 hl2 HX HY hc hc2
  go_enter Try.func132, Try.ntmps132
  by_cases hm0 : m = 0
  · have q0 : ((l1 : Int) == 0) = true := eqb0 (by rw [hw1, hm0]; rfl)
    have HQ : Hid (capQ (mkRat (sg neg m) n) = 0) := by unfold Hid; rw [hm0, mk_zero, capQ_zero]
    clear hw1 hw2 hm0
    go_wp2_with fail
    have H0 := Lib.hid (HS.one (w := w) #[.bool false, .slice none 0 0, .slice none 0 0] 40)
    generalize w.alloc (.cells #[.bool false, .slice none 0 0, .slice none 0 0] 40) = W0 at *
    refine (rzero_calls W0).mono ?_
    rintro e w1 ⟨v, rfl, hv, hb⟩
    obtain ⟨A5, n5, c5, A6, n6, c6, rfl, HV⟩ := hv.opened
    have H1 := Lib.hid (H0.out.step hb)
    clear hv hb
    obtain ⟨e0, e1, e2⟩ := (H1.out.blk 0 rfl).c3
    obtain ⟨f0, f1, f2⟩ := (H1.out.blk 0 rfl).f3
    go_wp2_with fail
    rw [HQ.out]
    exact end40 Try.results132 rfl (H1.out.blk 0 rfl) HV.out (Nat.le_refl _) H1.out.2
  have hl10 : 0 < l1 := by rw [hw1]; exact wlen_pos.2 hm0
  have q0 : ((l1 : Int) == 0) = false := neb0 (by omega)
  have hg0 : Nat.gcd m n ≠ 0 := fun h => hm0 (Nat.gcd_eq_zero_iff.1 h).1
  obtain ⟨g, hg⟩ : ∃ g, g = Nat.gcd m n := ⟨_, rfl⟩
  have HG := Lib.hid hg
  rw [← hg] at hg0
  have hgl : wlen g ≤ 1000000000 := by rw [hg]; exact Nat.le_trans (wlen_mono (Nat.gcd_le_left _ (Nat.pos_of_ne_zero hm0))) hm
  have HW1 := Lib.hid hw1
  have HW2 := Lib.hid hw2
  have HM0 := Lib.hid hm0
  have HN0 := Lib.hid hn0
  have HG0 := Lib.hid hg0
  clear hw1 hw2 hm0 hg hg0
  by_cases hn1 : n = 1
  · have hg1 : g = 1 := by rw [HG.out, hn1, Nat.gcd_one_right]
    rcases HRN2.out.head HN0.out with ⟨_, h1⟩ | ⟨e1, h32, gg, oo, rfl, hgg, hcell⟩
    · exact absurd hn1 h1
    · subst e1
      have HN1 := Lib.hid hn1
      have HH1 := Lib.hid hg1
      rw [hn1] at hcell
      have hc1 : w.cell? ⟨gg, oo, none⟩ = some (.int .u32 1) := hcell
      have t1' : decide (((1 : Nat) : Int) > 1) = false := by decide
      have t2 : ((1 : Int) != 1) = false := rfl
      have H0 := Lib.hid (HS.one (w := w) #[.bool false, .slice none 0 0, .slice none 0 0] 40)
      have HB0 := Lib.hid (below_new w (.cells #[.bool false, .slice none 0 0, .slice none 0 0] 40))
      clear hn1 hg1 hcell
      have HR1 := Lib.hid (show RN _ (.slice A l1 c) (m / g) from (by rw [HH1.out, Nat.div_one]; exact HRN.out.of_below HB0.out))
      have HR2 := Lib.hid (show RN _ (.slice (some ⟨gg, oo, none⟩) 1 c2) (n / g) from (by rw [HH1.out, Nat.div_one]; exact HRN2.out.of_below HB0.out))
      have H9 := Lib.hid (H0.out)
      have HK1 : Hid (l1 = wlen (m / g)) := by unfold Hid; rw [HH1.out, Nat.div_one]; exact HW1.out
      have HK2 : Hid (1 = wlen (n / g)) := by unfold Hid; rw [HH1.out, Nat.div_one]; exact HW2.out
      have hk1 : l1 ≤ 1000000000 := by rw [HK1.out]; exact Nat.le_trans (wlen_mono (Nat.div_le_self _ _)) hm
      have hk2 : 1 ≤ 1000000000 := by rw [HK2.out]; exact Nat.le_trans (wlen_mono (Nat.div_le_self _ _)) hn
      have wl : IntKind.i64.wrap ((l1 : Int) + (1 : Int)) = (l1 : Int) + (1 : Int) := IntWalk.i64_in _ (by omega)
      have hsz : sizeQ (mkRat (sg neg m) n) = l1 + 1 := by rw [mk_size neg m n HN0.out, ← HG.out, HK1.out, HK2.out]
      by_cases hbig : 4096 < l1 + 1
      · have t1 : decide ((l1 : Int) + (1 : Int) > 4096) = true := decide_eq_true (by omega)
        have HQ : Hid (capQ (mkRat (sg neg m) n) = 0) := by unfold Hid capQ; rw [if_neg (by omega)]
        clear hsz
        go_wp2_with fail
        refine (rzero_calls _).mono ?_
        rintro e w9 ⟨v, rfl, hv, hb⟩
        obtain ⟨A5, n5, c5, A6, n6, c6, rfl, HV⟩ := hv.opened
        have H2 := Lib.hid (H9.out.step hb)
        clear hv hb
        obtain ⟨e0, e1, e2⟩ := (H2.out.blk 0 rfl).c3
        obtain ⟨f0, f1, f2⟩ := (H2.out.blk 0 rfl).f3
        go_wp2_with fail
        rw [HQ.out]
        exact end40 Try.results132 rfl (H2.out.blk 0 rfl) HV.out (Nat.le_refl _) H2.out.2
      · have t1 : decide ((l1 : Int) + (1 : Int) > 4096) = false := decide_eq_false (by omega)
        have HQ : Hid (capQ (mkRat (sg neg m) n) = mkRat (sg neg m) n) := by unfold Hid capQ; rw [if_pos (by omega)]
        obtain ⟨e0, e1, e2⟩ := (H9.out.blk 0 rfl).c3
        obtain ⟨f0, f1, f2⟩ := (H9.out.blk 0 rfl).f3
        clear hsz
        go_wp2_with fail
        rw [HQ.out]
        exact ret40 Try.results132 rfl (Blk.new w 40 _) ⟨_, rfl, fq_mk HN0.out HM0.out HG.out (by rw [HH1.out, Nat.div_one]; exact HRN.out.of_below (below_new w _)) (by rw [HH1.out, Nat.div_one]; exact HRN2.out.of_below (below_new w _)), below_new w _⟩
  have t : (1 < l2 ∧ (l2 : Int) > 1) ∨ (l2 = 1 ∧ ∃ gg oo, A2 = some ⟨gg, oo, none⟩ ∧ gg < w.heap.size ∧ w.cell? ⟨gg, oo, none⟩ = some (.int .u32 (n : Int)) ∧ ((n : Int) != 1) = true) := by
    rcases HRN2.out.head HN0.out with ⟨h1, _⟩ | ⟨e1, h32, gg, oo, e2, hgg, hcell⟩
    · exact .inl ⟨by omega, by omega⟩
    · exact .inr ⟨e1, gg, oo, e2, hgg, hcell, bneI (by omega)⟩
  clear hn1
  rcases t with ⟨t0, t1⟩ | ⟨e1, gg, oo, e2, hgg, hcell, t2⟩
  case' inr =>
    subst e2
    have t1 : ¬ (l2 : Int) > 1 := by omega
    have t3 : (0 : Int) < (l2 : Int) := by omega
    have t4 : 0 < l2 := by omega
    clear e1
  all_goals
    go_wp2_with fail
    have H0 := Lib.hid (HS.one (w := w) #[.bool false, .slice none 0 0, .slice none 0 0] 40)
    generalize w.alloc (.cells #[.bool false, .slice none 0 0, .slice none 0 0] 40) = W0 at *
    have HRN_0 := Lib.hid (HRN.out.of_below H0.out.2)
    have HRN2_0 := Lib.hid (HRN2.out.of_below H0.out.2)
    refine (rcommon_calls W0 _ _ m n HRN_0.out HRN2_0.out (by omega) (by omega)).mono ?_
    rintro e w1 ⟨v, rfl, hv, hb⟩
    rw [← HG.out] at hv
    have H1 := Lib.hid (H0.out.step hb)
    have HRN_1 := Lib.hid (HRN_0.out.of_below hb)
    have HRN2_1 := Lib.hid (HRN2_0.out.of_below hb)
    have HV := Lib.hid hv
    obtain ⟨A5, c5, zs, rfl, _, _, _⟩ := hv.opened
    obtain ⟨l5, hl5⟩ : ∃ l, l = zs.length := ⟨_, rfl⟩
    rw [← hl5] at HV ⊢
    clear hb hv hl5
    rcases HV.out.head HG0.out with ⟨h1, _⟩ | ⟨e1, h32, g5, o5, rfl, hg5, hcell5⟩
    · have u1 : (l5 : Int) > 1 := by omega
      go_wp2_with fail
      refine (rparts_calls w1 _ _ m g HRN_1.out HV.out (by omega) (by omega) HG0.out).mono ?_
      rintro e w2 ⟨q1, r1, rfl, hq1, hr1, hb⟩
      have H2 := Lib.hid (H1.out.step hb)
      have HRN2_2 := Lib.hid (HRN2_1.out.of_below hb)
      have HV_2 := Lib.hid (HV.out.of_below hb)
      have HQ1 := Lib.hid hq1
      obtain ⟨B1, b1, y1, rfl, _, hy1, _⟩ := hq1.opened
      obtain ⟨B2, b2, y2, rfl, _, _, _⟩ := hr1.opened
      have HY1 : Hid (y1.length = wlen (m / g)) := by unfold Hid; rw [hy1.out]; rfl
      clear hq1 hr1 hb hy1
      go_wp2_with fail
      refine (rparts_calls w2 _ _ n g HRN2_2.out HV_2.out (by omega) (by omega) HG0.out).mono ?_
      rintro e w3 ⟨q2, r2, rfl, hq2, hr2, hb⟩
      have H3 := Lib.hid (H2.out.step hb)
      have HQ1_3 := Lib.hid (HQ1.out.of_below hb)
      have HQ2 := Lib.hid hq2
      obtain ⟨B3, b3, y3, rfl, _, hy3, _⟩ := hq2.opened
      obtain ⟨B4, b4, y4, rfl, _, _, _⟩ := hr2.opened
      have HY3 : Hid (y3.length = wlen (n / g)) := by unfold Hid; rw [hy3.out]; rfl
      clear hq2 hr2 hb hy3
      go_wp2_with fail
      go_quiet (fail)
      have hbz := pw_drewN (below_next (below_new w3 (.cells #[.slice B1 y1.length b1, .slice B2 y2.length b2] 140)) (below_new _ (.cells #[.slice B3 y3.length b3, .slice B4 y4.length b4] 140))) nq
      have HR1 := Lib.hid (show RN _ (.slice B1 y1.length b1) (m / g) from HQ1_3.out.of_below hbz)
      have HR2 := Lib.hid (show RN _ (.slice B3 y3.length b3) (n / g) from HQ2.out.of_below hbz)
      have H9 := Lib.hid (H3.out.step hbz)
      have HK1 : Hid (y1.length = wlen (m / g)) := HY1
      have HK2 : Hid (y3.length = wlen (n / g)) := HY3
      have hk1 : y1.length ≤ 1000000000 := by rw [HK1.out]; exact Nat.le_trans (wlen_mono (Nat.div_le_self _ _)) hm
      have hk2 : y3.length ≤ 1000000000 := by rw [HK2.out]; exact Nat.le_trans (wlen_mono (Nat.div_le_self _ _)) hn
      have wl : IntKind.i64.wrap ((y1.length : Int) + (y3.length : Int)) = (y1.length : Int) + (y3.length : Int) := IntWalk.i64_in _ (by omega)
      have hsz : sizeQ (mkRat (sg neg m) n) = y1.length + y3.length := by rw [mk_size neg m n HN0.out, ← HG.out, HK1.out, HK2.out]
      by_cases hbig : 4096 < y1.length + y3.length
      · have t1 : decide ((y1.length : Int) + (y3.length : Int) > 4096) = true := decide_eq_true (by omega)
        have HQ : Hid (capQ (mkRat (sg neg m) n) = 0) := by unfold Hid capQ; rw [if_neg (by omega)]
        clear hsz
        go_wp2_with fail
        refine (rzero_calls _).mono ?_
        rintro e w9 ⟨v, rfl, hv, hb⟩
        obtain ⟨A5, n5, c5, A6, n6, c6, rfl, HV⟩ := hv.opened
        have H2 := Lib.hid (H9.out.step hb)
        clear hv hb
        obtain ⟨e0, e1, e2⟩ := (H2.out.blk 0 rfl).c3
        obtain ⟨f0, f1, f2⟩ := (H2.out.blk 0 rfl).f3
        go_wp2_with fail
        rw [HQ.out]
        exact end40 Try.results132 rfl (H2.out.blk 0 rfl) HV.out (Nat.le_refl _) H2.out.2
      · have t1 : decide ((y1.length : Int) + (y3.length : Int) > 4096) = false := decide_eq_false (by omega)
        have HQ : Hid (capQ (mkRat (sg neg m) n) = mkRat (sg neg m) n) := by unfold Hid capQ; rw [if_pos (by omega)]
        obtain ⟨e0, e1, e2⟩ := (H9.out.blk 0 rfl).c3
        obtain ⟨f0, f1, f2⟩ := (H9.out.blk 0 rfl).f3
        clear hsz
        go_wp2_with fail
        rw [HQ.out]
        exact end40 Try.results132 rfl (H9.out.blk 0 rfl) (fq_mk HN0.out HM0.out HG.out HR1.out HR2.out) (Nat.le_refl _) H9.out.2
    · subst e1
      have u1 : decide (((1 : Nat) : Int) > 1) = false := by decide
      by_cases hg1 : g = 1
      · have u2 : ((g : Int) != 1) = false := beqI (by omega)
        have HH1 := Lib.hid hg1
        clear hg1
        have HR1 := Lib.hid (show RN _ (.slice A l1 c) (m / g) from (by rw [HH1.out, Nat.div_one]; exact HRN_1.out))
        have HR2 := Lib.hid (show RN _ (_) (n / g) from (by rw [HH1.out, Nat.div_one]; exact HRN2_1.out))
        have H9 := Lib.hid (H1.out)
        have HK1 : Hid (l1 = wlen (m / g)) := by unfold Hid; rw [HH1.out, Nat.div_one]; exact HW1.out
        have HK2 : Hid (l2 = wlen (n / g)) := by unfold Hid; rw [HH1.out, Nat.div_one]; exact HW2.out
        have hk1 : l1 ≤ 1000000000 := by rw [HK1.out]; exact Nat.le_trans (wlen_mono (Nat.div_le_self _ _)) hm
        have hk2 : l2 ≤ 1000000000 := by rw [HK2.out]; exact Nat.le_trans (wlen_mono (Nat.div_le_self _ _)) hn
        have wl : IntKind.i64.wrap ((l1 : Int) + (l2 : Int)) = (l1 : Int) + (l2 : Int) := IntWalk.i64_in _ (by omega)
        have hsz : sizeQ (mkRat (sg neg m) n) = l1 + l2 := by rw [mk_size neg m n HN0.out, ← HG.out, HK1.out, HK2.out]
        by_cases hbig : 4096 < l1 + l2
        · have t1 : decide ((l1 : Int) + (l2 : Int) > 4096) = true := decide_eq_true (by omega)
          have HQ : Hid (capQ (mkRat (sg neg m) n) = 0) := by unfold Hid capQ; rw [if_neg (by omega)]
          clear hsz
          go_wp2_with fail
          refine (rzero_calls _).mono ?_
          rintro e w9 ⟨v, rfl, hv, hb⟩
          obtain ⟨A5, n5, c5, A6, n6, c6, rfl, HV⟩ := hv.opened
          have H2 := Lib.hid (H9.out.step hb)
          clear hv hb
          obtain ⟨e0, e1, e2⟩ := (H2.out.blk 0 rfl).c3
          obtain ⟨f0, f1, f2⟩ := (H2.out.blk 0 rfl).f3
          go_wp2_with fail
          rw [HQ.out]
          exact end40 Try.results132 rfl (H2.out.blk 0 rfl) HV.out (Nat.le_refl _) H2.out.2
        · have t1 : decide ((l1 : Int) + (l2 : Int) > 4096) = false := decide_eq_false (by omega)
          have HQ : Hid (capQ (mkRat (sg neg m) n) = mkRat (sg neg m) n) := by unfold Hid capQ; rw [if_pos (by omega)]
          obtain ⟨e0, e1, e2⟩ := (H9.out.blk 0 rfl).c3
          obtain ⟨f0, f1, f2⟩ := (H9.out.blk 0 rfl).f3
          clear hsz
          go_wp2_with fail
          rw [HQ.out]
          exact end40 Try.results132 rfl (H9.out.blk 0 rfl) (fq_mk HN0.out HM0.out HG.out HR1.out HR2.out) (Nat.le_refl _) H9.out.2
      · have u2 : ((g : Int) != 1) = true := bneI (by omega)
        clear hg1
        go_wp2_with fail
        refine (rparts_calls w1 _ _ m g HRN_1.out HV.out (by omega) (by omega) HG0.out).mono ?_
        rintro e w2 ⟨q1, r1, rfl, hq1, hr1, hb⟩
        have H2 := Lib.hid (H1.out.step hb)
        have HRN2_2 := Lib.hid (HRN2_1.out.of_below hb)
        have HV_2 := Lib.hid (HV.out.of_below hb)
        have HQ1 := Lib.hid hq1
        obtain ⟨B1, b1, y1, rfl, _, hy1, _⟩ := hq1.opened
        obtain ⟨B2, b2, y2, rfl, _, _, _⟩ := hr1.opened
        have HY1 : Hid (y1.length = wlen (m / g)) := by unfold Hid; rw [hy1.out]; rfl
        clear hq1 hr1 hb hy1
        go_wp2_with fail
        refine (rparts_calls w2 _ _ n g HRN2_2.out HV_2.out (by omega) (by omega) HG0.out).mono ?_
        rintro e w3 ⟨q2, r2, rfl, hq2, hr2, hb⟩
        have H3 := Lib.hid (H2.out.step hb)
        have HQ1_3 := Lib.hid (HQ1.out.of_below hb)
        have HQ2 := Lib.hid hq2
        obtain ⟨B3, b3, y3, rfl, _, hy3, _⟩ := hq2.opened
        obtain ⟨B4, b4, y4, rfl, _, _, _⟩ := hr2.opened
        have HY3 : Hid (y3.length = wlen (n / g)) := by unfold Hid; rw [hy3.out]; rfl
        clear hq2 hr2 hb hy3
        go_wp2_with fail
        go_quiet (fail)
        have hbz := pw_drewN (below_next (below_new w3 (.cells #[.slice B1 y1.length b1, .slice B2 y2.length b2] 140)) (below_new _ (.cells #[.slice B3 y3.length b3, .slice B4 y4.length b4] 140))) nq
        have HR1 := Lib.hid (show RN _ (.slice B1 y1.length b1) (m / g) from HQ1_3.out.of_below hbz)
        have HR2 := Lib.hid (show RN _ (.slice B3 y3.length b3) (n / g) from HQ2.out.of_below hbz)
        have H9 := Lib.hid (H3.out.step hbz)
        have HK1 : Hid (y1.length = wlen (m / g)) := HY1
        have HK2 : Hid (y3.length = wlen (n / g)) := HY3
        have hk1 : y1.length ≤ 1000000000 := by rw [HK1.out]; exact Nat.le_trans (wlen_mono (Nat.div_le_self _ _)) hm
        have hk2 : y3.length ≤ 1000000000 := by rw [HK2.out]; exact Nat.le_trans (wlen_mono (Nat.div_le_self _ _)) hn
        have wl : IntKind.i64.wrap ((y1.length : Int) + (y3.length : Int)) = (y1.length : Int) + (y3.length : Int) := IntWalk.i64_in _ (by omega)
        have hsz : sizeQ (mkRat (sg neg m) n) = y1.length + y3.length := by rw [mk_size neg m n HN0.out, ← HG.out, HK1.out, HK2.out]
        by_cases hbig : 4096 < y1.length + y3.length
        · have t1 : decide ((y1.length : Int) + (y3.length : Int) > 4096) = true := decide_eq_true (by omega)
          have HQ : Hid (capQ (mkRat (sg neg m) n) = 0) := by unfold Hid capQ; rw [if_neg (by omega)]
          clear hsz
          go_wp2_with fail
          refine (rzero_calls _).mono ?_
          rintro e w9 ⟨v, rfl, hv, hb⟩
          obtain ⟨A5, n5, c5, A6, n6, c6, rfl, HV⟩ := hv.opened
          have H2 := Lib.hid (H9.out.step hb)
          clear hv hb
          obtain ⟨e0, e1, e2⟩ := (H2.out.blk 0 rfl).c3
          obtain ⟨f0, f1, f2⟩ := (H2.out.blk 0 rfl).f3
          go_wp2_with fail
          rw [HQ.out]
          exact end40 Try.results132 rfl (H2.out.blk 0 rfl) HV.out (Nat.le_refl _) H2.out.2
        · have t1 : decide ((y1.length : Int) + (y3.length : Int) > 4096) = false := decide_eq_false (by omega)
          have HQ : Hid (capQ (mkRat (sg neg m) n) = mkRat (sg neg m) n) := by unfold Hid capQ; rw [if_pos (by omega)]
          obtain ⟨e0, e1, e2⟩ := (H9.out.blk 0 rfl).c3
          obtain ⟨f0, f1, f2⟩ := (H9.out.blk 0 rfl).f3
          clear hsz
          go_wp2_with fail
          rw [HQ.out]
          exact end40 Try.results132 rfl (H9.out.blk 0 rfl) (fq_mk HN0.out HM0.out HG.out HR1.out HR2.out) (Nat.le_refl _) H9.out.2
end Go.Proofs.Ytfhambfgjigneaa
set_option linter.unusedVariables false
set_option linter.unusedSimpArgs false
namespace Go.Proofs.Ytfhambfgjigneaa
open Go.RowKit
set_option maxHeartbeats 16000000 in
set_option maxRecDepth 100000 in
theorem rright_calls (w : World) (v : Value) (f : RawF) (h : FR w v f) :
    Calls Try.prog 87 #[v] w fun e w' => BPost w (rightB f) e w' := by
  obtain ⟨⟨hl, hl2⟩, v1, v2, rfl, h1, h2⟩ := h
  obtain ⟨A1, c1, rfl, hc1⟩ := h1.slice
  obtain ⟨A2, c2, rfl, hc2⟩ := h2.slice
  obtain ⟨s, xs, ys⟩ := f
  simp only at *
  have R1 := Lib.hid h1
  have R2 := Lib.hid h2
  clear h1 h2
  go_enter Try.func87, Try.ntmps87
  go_wp2_with fail
  go_quiet (fail)
  by_cases d0 : ys.length = 0
  · have q0 := eqb0 d0
    have HR := Lib.hid (rightB_false (f := ⟨s, xs, ys⟩) fun h => (rightF_den h).1 (List.eq_nil_of_length_eq_zero d0))
    clear d0
    go_wp2_with fail
    go_ret
    exact ⟨by rw [HR.out]; rfl, pw_drewN (below_new w _) _⟩
  have q0 := neb0 d0
  by_cases d3 : 4096 < xs.length
  · have q3 : decide ((xs.length : Int) > 4096) = true := decide_eq_true (by omega)
    have HR := Lib.hid (rightB_false (f := ⟨s, xs, ys⟩) fun h => by have h1 := (rightF_den h).2.1; simp only at h1; omega)
    clear d0 d3
    go_wp2_with fail
    go_ret
    exact ⟨by rw [HR.out]; rfl, pw_drewN (below_new w _) _⟩
  have q3 : decide ((xs.length : Int) > 4096) = false := decide_eq_false (by omega)
  by_cases d4 : 4096 < ys.length
  · have q4 : decide ((ys.length : Int) > 4096) = true := decide_eq_true (by omega)
    have HR := Lib.hid (rightB_false (f := ⟨s, xs, ys⟩) fun h => by have h1 := (rightF_den h).2.1; simp only at h1; omega)
    clear d0 d3 d4
    go_wp2_with fail
    go_ret
    exact ⟨by rw [HR.out]; rfl, pw_drewN (below_new w _) _⟩
  have q4 : decide ((ys.length : Int) > 4096) = false := decide_eq_false (by omega)
  have wl : IntKind.i64.wrap ((xs.length : Int) + (ys.length : Int)) = (xs.length : Int) + (ys.length : Int) := IntWalk.i64_in _ (by omega)
  by_cases d1 : 4096 < xs.length + ys.length
  · have q1 : decide ((xs.length : Int) + (ys.length : Int) > 4096) = true := decide_eq_true (by omega)
    have HR := Lib.hid (rightB_false (f := ⟨s, xs, ys⟩) fun h => by have h1 := (rightF_den h).2.1; simp only at h1; omega)
    clear d0 d1 d3 d4
    go_wp2_with fail
    go_ret
    exact ⟨by rw [HR.out]; rfl, pw_drewN (below_new w _) _⟩
  have q1 : decide ((xs.length : Int) + (ys.length : Int) > 4096) = false := decide_eq_false (by omega)
  obtain ⟨g2, o2, rfl, hg2, hcell2⟩ := R2.out.at_ (by omega)
  have n2 : ((ys.length : Int) - 1).toNat = ys.length - 1 := by omega
  have n3 : 0 ≤ (ys.length : Int) - 1 := by omega
  have n4 : (ys.length : Int) - 1 < (ys.length : Int) := by omega
  have nw : IntKind.i64.wrap ((ys.length : Int) - 1) = (ys.length : Int) - 1 := IntWalk.i64_in _ (by omega)
  have hcw := (bcell (pw_drewN (below_new w (.cells #[.bool s, .slice A1 xs.length c1, .slice (some ⟨g2, o2, none⟩) ys.length c2] 40)) nq)).1
  by_cases d2 : nat ys (ys.length - 1) = 0
  · rw [d2] at hcell2
    have hcell0 : w.cell? ⟨g2, o2 + (ys.length - 1), none⟩ = some (.int .u32 0) := hcell2
    have HR := Lib.hid (rightB_false (f := ⟨s, xs, ys⟩) fun h => (rightF_den h).2.2 d2)
    have hz0 : ((0 : Int) == 0) = true := rfl
    clear d0 d1 d2 d3 d4 hcell2
    go_wp2_with fail
    go_ret
    exact ⟨by rw [HR.out]; rfl, pw_drewN (below_new w _) _⟩
  have z2 : ((nat ys (ys.length - 1) : Int) == 0) = false := neb0 d2
  have HCN2 := Lib.hid (canon R2.out.wd (.inr d2))
  have HW1 := Lib.hid (pw_drewN (below_new w (.cells #[.bool s, .slice A1 xs.length c1, .slice (some ⟨g2, o2, none⟩) ys.length c2] 40)) nq)
  have RN2 : Hid (RN w (.slice (some ⟨g2, o2, none⟩) ys.length c2) (valN ys)) := by have := R2.out; unfold Hid RN; rw [← HCN2.out]; exact this
  have hv0 : valN ys ≠ 0 := fun h => by
    have := HCN2.out
    rw [h] at this
    exact d0 (by rw [this]; rfl)
  obtain ⟨dn, hdn⟩ : ∃ dn, dn = valN ys := ⟨_, rfl⟩
  rw [← hdn] at RN2 hv0
  have HDN := Lib.hid hdn
  have hhead := RN2.out.head hv0
  have hone : (¬ ys.length = 1 ∧ ((ys.length : Int) == 1) = false ∧ dn ≠ 1) ∨ (ys.length = 1 ∧ ((ys.length : Int) == 1) = true ∧ w.cell? ⟨g2, o2, none⟩ = some (.int .u32 (dn : Int))) := by
    rcases hhead with ⟨h1, h2⟩ | ⟨h1, _, g, o, e, _, hc⟩
    · exact .inl ⟨by omega, by simpa using (show (ys.length : Int) ≠ 1 by omega), h2⟩
    · injection e with e
      injection e with e1 e2
      subst e1 e2
      exact .inr ⟨h1, by rw [h1]; rfl, hc⟩
  have HO := Lib.hid hone
  have HHV0 := Lib.hid hv0
  clear hdn hhead hone hv0
  by_cases x0 : xs.length = 0
  · have y0 := eqb0 x0
    have HX0 := Lib.hid (List.eq_nil_of_length_eq_zero x0)
    have HD2 := Lib.hid d2
    clear d0 d1 d2 d3 d4 x0
    cases s with
    | true =>
      have HR := Lib.hid (rightB_false (f := ⟨true, xs, ys⟩) fun h => absurd (rightF_zero h HX0.out).2 (by simp))
      go_wp2_with fail
      go_ret
      exact ⟨by rw [HR.out]; rfl, HW1.out⟩
    | false =>
      rcases HO.out with ⟨h1, h2, h3⟩ | ⟨h1, h2, h3⟩
      · have HR := Lib.hid (rightB_false (f := ⟨false, xs, ys⟩) fun h => h3 (HDN.out.trans (rightF_zero h HX0.out).1))
        clear h1 h3
        go_wp2_with fail
        go_ret
        exact ⟨by rw [HR.out]; rfl, HW1.out⟩
      · have l0 : (0 : Int) < (ys.length : Int) := by omega
        have l1 : 0 < ys.length := by omega
        by_cases e1 : dn = 1
        · have u1 : ((dn : Int) == 1) = true := by rw [e1]; rfl
          have HR := Lib.hid (rightB_true (f := ⟨false, xs, ys⟩) (rightF_mk0 HD2.out HX0.out R2.out.wd (HDN.out.symm.trans e1) rfl))
          clear e1 h1
          go_wp2_with fail
          go_ret
          exact ⟨by rw [HR.out]; rfl, HW1.out⟩
        · have u1 : ((dn : Int) == 1) = false := by simpa using (show (dn : Int) ≠ 1 by omega)
          have HR := Lib.hid (rightB_false (f := ⟨false, xs, ys⟩) fun h => e1 (HDN.out.trans (rightF_zero h HX0.out).1))
          clear e1 h1
          go_wp2_with fail
          go_ret
          exact ⟨by rw [HR.out]; rfl, HW1.out⟩
  have y0 := neb0 x0
  obtain ⟨g1, o1, rfl, hg1, hcell1⟩ := R1.out.at_ (by omega)
  have m2 : ((xs.length : Int) - 1).toNat = xs.length - 1 := by omega
  have m3 : 0 ≤ (xs.length : Int) - 1 := by omega
  have m4 : (xs.length : Int) - 1 < (xs.length : Int) := by omega
  have mw : IntKind.i64.wrap ((xs.length : Int) - 1) = (xs.length : Int) - 1 := IntWalk.i64_in _ (by omega)
  have HX0 : Hid (xs ≠ []) := fun h => x0 (by rw [h]; rfl)
  have HY0 : Hid (ys ≠ []) := fun h => d0 (by rw [h]; rfl)
  have HLL : Hid (xs.length + ys.length ≤ 4096) := by unfold Hid; omega
  have HD2 := Lib.hid d2
  by_cases e2 : nat xs (xs.length - 1) = 0
  · rw [e2] at hcell1
    have hcell0 : w.cell? ⟨g1, o1 + (xs.length - 1), none⟩ = some (.int .u32 0) := hcell1
    have HR := Lib.hid (rightB_false (f := ⟨s, xs, ys⟩) fun h => (rightF_num h HX0.out).1 e2)
    have hz0 : ((0 : Int) == 0) = true := rfl
    clear d0 d1 d2 d3 d4 x0 e2 hcell1
    go_wp2_with fail
    go_ret
    exact ⟨by rw [HR.out]; rfl, pw_drewN (below_new w _) _⟩
  have z3 : ((nat xs (xs.length - 1) : Int) == 0) = false := neb0 e2
  have HCN1 := Lib.hid (canon R1.out.wd (.inr e2))
  have RN1 : Hid (RN w (.slice (some ⟨g1, o1, none⟩) xs.length c1) (valN xs)) := by have := R1.out; unfold Hid RN; rw [← HCN1.out]; exact this
  have HE2 := Lib.hid e2
  have hm0 : valN xs ≠ 0 := fun h => by
    have := HCN1.out
    rw [h] at this
    exact x0 (by rw [this]; rfl)
  have hlm : wlen (valN xs) ≤ 10000000000 := by unfold wlen; rw [← HCN1.out]; omega
  have hln : wlen dn ≤ 10000000000 := by unfold wlen; rw [HDN.out, ← HCN2.out]; omega
  have HM0 := Lib.hid hm0
  have RNd : Hid (Nat.gcd (valN xs) dn ≠ 0) := fun h => HM0.out (Nat.gcd_eq_zero_iff.1 h).1
  clear d0 d1 d2 d3 d4 x0 e2 hm0
  have LONG : ((ys.length : Int) == 1) = false ∨ (((ys.length : Int) == 1) = true ∧ w.cell? ⟨g2, o2, none⟩ = some (.int .u32 (dn : Int)) ∧ (0 : Int) < (ys.length : Int) ∧ 0 < ys.length ∧ ((dn : Int) == 1) = false) ∨ (((ys.length : Int) == 1) = true ∧ w.cell? ⟨g2, o2, none⟩ = some (.int .u32 (1 : Int)) ∧ (0 : Int) < (ys.length : Int) ∧ 0 < ys.length ∧ Hid (dn = 1)) := by
    rcases HO.out with ⟨h1, h2, h3⟩ | ⟨h1, h2, h3⟩
    · exact .inl h2
    · by_cases e1 : dn = 1
      · rw [e1] at h3
        exact .inr (.inr ⟨h2, h3, by omega, by omega, e1⟩)
      · exact .inr (.inl ⟨h2, h3, by omega, by omega, by simpa using (show (dn : Int) ≠ 1 by omega)⟩)
  rcases LONG with u1 | ⟨u1, u2, u3, u4, u5⟩ | ⟨u1, u2, u3, u4, u5⟩
  case' inr.inr =>
    have HR := Lib.hid (rightB_true (f := ⟨s, xs, ys⟩) (rightF_mk HLL.out HY0.out HD2.out HE2.out R1.out.wd R2.out.wd HX0.out (by simp only; rw [← HDN.out, u5.out, Nat.gcd_one_right])))
    have u6 : ((1 : Int) == 1) = true := rfl
    go_wp2_with fail
    go_ret
    exact ⟨by rw [HR.out]; rfl, HW1.out⟩
  all_goals
    go_wp2_with fail
    refine (rcommon_calls _ _ _ _ _ (RN1.out.of_below HW1.out) (RN2.out.of_below HW1.out) hlm hln).mono ?_
    rintro e w3 ⟨v3, rfl, hv3, hb3⟩
    have HB3 := Lib.hid (below_next HW1.out hb3)
    obtain ⟨gd, hgd⟩ : ∃ gd, gd = Nat.gcd (valN xs) dn := ⟨_, rfl⟩
    rw [← hgd] at hv3 RNd
    have HV3 := Lib.hid hv3
    have HGD := Lib.hid hgd
    obtain ⟨A3, c3, zs, rfl, _, _, _⟩ := hv3.opened
    obtain ⟨l3, hl3⟩ : ∃ l, l = zs.length := ⟨_, rfl⟩
    rw [← hl3] at HV3 ⊢
    clear hb3 hv3 hgd hl3
    rcases HV3.out.head RNd.out with ⟨h1, h2⟩ | ⟨h1, _, g, o, rfl, hgz, hc⟩
    · have t1 : ((l3 : Int) == 1) = false := by simpa using (show (l3 : Int) ≠ 1 by omega)
      have HR := Lib.hid (rightB_false (f := ⟨s, xs, ys⟩) fun h => h2 (HGD.out.trans (by rw [HDN.out]; exact (rightF_num h HX0.out).2)))
      clear h1 h2
      go_wp2_with fail
      go_ret
      exact ⟨by rw [HR.out]; rfl, HB3.out⟩
    · subst h1
      have t1 : (((1 : Nat) : Int) == 1) = true := rfl
      by_cases hg1 : gd = 1
      · rw [hg1] at hc
        have hc1 : w3.cell? ⟨g, o, none⟩ = some (.int .u32 1) := hc
        have t2 : ((1 : Int) == 1) = true := rfl
        have HR := Lib.hid (rightB_true (f := ⟨s, xs, ys⟩) (rightF_mk HLL.out HY0.out HD2.out HE2.out R1.out.wd R2.out.wd HX0.out (by simp only; rw [← HDN.out, ← HGD.out, hg1])))
        clear hg1 hc
        go_wp2_with fail
        go_ret
        exact ⟨by rw [HR.out]; rfl, HB3.out⟩
      · have t2 : ((gd : Int) == 1) = false := by simpa using (show (gd : Int) ≠ 1 by omega)
        have HR := Lib.hid (rightB_false (f := ⟨s, xs, ys⟩) fun h => hg1 (HGD.out.trans (by rw [HDN.out]; exact (rightF_num h HX0.out).2)))
        clear hg1
        go_wp2_with fail
        go_ret
        exact ⟨by rw [HR.out]; rfl, HB3.out⟩
set_option maxHeartbeats 16000000 in
set_option maxRecDepth 100000 in
theorem rfix_calls (w : World) (v : Value) (f : RawF) (h : FR w v f) : Calls Try.prog 51 #[v] w fun e w' => FPost w (fixQ f) e w' := by
  obtain ⟨A1, n1, c1, A2, n2, c2, rfl, H⟩ := h.opened
  clear h
  obtain ⟨s, hs⟩ : ∃ s, s = f.neg := ⟨_, rfl⟩
  rw [← hs] at H ⊢
  have HS' := Lib.hid hs
  clear hs
  go_enter Try.func51, Try.ntmps51
  go_wp2_with fail
  have H0 := Lib.hid (HS.two (w := w) #[.bool s, .slice A1 n1 c1, .slice A2 n2 c2] #[.bool false, .slice none 0 0, .slice none 0 0] 40 40)
  generalize (w.alloc (.cells #[.bool s, .slice A1 n1 c1, .slice A2 n2 c2] 40)).alloc (.cells #[.bool false, .slice none 0 0, .slice none 0 0] 40) = W0 at *
  refine (rright_calls _ _ f (H.out.of_below H0.out.2)).mono ?_
  rintro e w1 ⟨rfl, hb⟩
  have H1 := Lib.hid (H0.out.step hb)
  clear hb
  by_cases hr : RightF f
  · have t := rightB_true hr
    have HR := Lib.hid hr
    obtain ⟨d0, d1, d2⟩ := (H1.out.blk 1 rfl).c3
    obtain ⟨e0, e1, e2⟩ := (H1.out.blk 0 rfl).c3
    obtain ⟨f0, f1, f2⟩ := (H1.out.blk 0 rfl).f3
    clear hr
    go_wp2_with fail
    refine end40 Try.results51 rfl (H1.out.blk 0 rfl) ?_ (by omega) H1.out.2
    obtain ⟨_, v1, v2, e, h1, h2⟩ := H.out.of_below H1.out.2
    have e' := right_raw HR.out
    injection e with e
    have e1 : Value.bool s = .bool f.neg ∧ Value.slice A1 n1 c1 = v1 ∧ Value.slice A2 n2 c2 = v2 := by simpa using e
    obtain ⟨_, rfl, rfl⟩ := e1
    refine ⟨.slice A1 n1 c1, .slice A2 n2 c2, ?_, ?_, ?_⟩
    · rw [HS'.out, show f.neg = negQ (fixQ f) by rw [show f.neg = (rawQ (fixQ f)).neg from congrArg RawF.neg e']; rfl]
    · have : f.num = dg (fixQ f).num.natAbs := congrArg RawF.num e'
      rw [this] at h1; exact h1
    · have : f.den = dg (fixQ f).den := congrArg RawF.den e'
      rw [this] at h2; exact h2
  · have t := rightB_false hr
    have HQ := Lib.hid (fixQ_wrong hr)
    clear hr
    go_wp2_with fail
    refine (rzero_calls w1).mono ?_
    rintro e w2 ⟨v, rfl, hv, hb⟩
    obtain ⟨A5, n5, c5, A6, n6, c6, rfl, HV⟩ := hv.opened
    have H2 := Lib.hid (H1.out.step hb)
    clear hb hv
    obtain ⟨e0, e1, e2⟩ := (H2.out.blk 0 rfl).c3
    obtain ⟨f0, f1, f2⟩ := (H2.out.blk 0 rfl).f3
    go_wp2_with fail
    rw [HQ.out]
    exact end40 Try.results51 rfl (H2.out.blk 0 rfl) HV.out (by omega) H2.out.2
end Go.Proofs.Ytfhambfgjigneaa
set_option linter.unusedVariables false
set_option linter.unusedSimpArgs false
namespace Go.Proofs.Ytfhambfgjigneaa
open Go.RowKit
theorem FQ.parts {w : World} {s : Bool} {v1 v2 : Value} {q : Rat} (h : FQ w (.agg #[.bool s, v1, v2]) q) : s = negQ q ∧ RN w v1 q.num.natAbs ∧ RN w v2 q.den := by
  obtain ⟨x, y, e, h1, h2⟩ := h
  injection e with e
  have e : s = negQ q ∧ v1 = x ∧ v2 = y := by simpa using e
  obtain ⟨rfl, rfl, rfl⟩ := e
  exact ⟨rfl, h1, h2⟩
theorem rlowest_q (w : World) (v v2 : Value) (neg : Bool) (m n : Nat) (q : Rat) (hq : mkRat (sg neg m) n = q) (h : RN w v m) (h2 : RN w v2 n) (hm : wlen m ≤ 1000000000) (hn : wlen n ≤ 1000000000) (hn0 : n ≠ 0) :
    Calls Try.prog 132 #[.bool neg, v, v2] w fun e w' => FPost w (capQ q) e w' := hq ▸ rlowest_calls w v v2 neg m n h h2 hm hn hn0
theorem cmpI_geq {m n : Nat} (h : n ≤ m) : decide (cmpI m n ≥ 0) = true := by
  refine decide_eq_true ?_
  unfold cmpI
  split
  · omega
  · rw [if_neg (by omega)]; omega
theorem cmpI_less {m n : Nat} (h : m < n) : decide (cmpI m n ≥ 0) = false := by
  rw [cmpI_lt h]; rfl
theorem cmpI_same (m : Nat) : (cmpI m m != 0) = false := by unfold cmpI; rw [if_pos rfl]; rfl
theorem cmpI_diff {m n : Nat} (h : m ≠ n) : (cmpI m n != 0) = true := by
  unfold cmpI
  rw [if_neg h]
  split <;> rfl
set_option maxHeartbeats 16000000 in
set_option maxRecDepth 100000 in
theorem rproduct_calls (w : World) (v v2 : Value) (a b : Rat) (h : FQ w v a) (h2 : FQ w v2 b) (ha : sizeQ a ≤ 100000000) (hb : sizeQ b ≤ 100000000) : Calls Try.prog 122 #[v, v2] w fun e w' => FPost w (capQ (a * b)) e w' := by
  obtain ⟨A1, k1, c1, A2, k2, c2, rfl, HF⟩ := h.opened
  obtain ⟨A3, k3, c3, A4, k4, c4, rfl, HG⟩ := h2.opened
  clear h h2
  obtain ⟨sa, hsa⟩ : ∃ s, s = negQ a := ⟨_, rfl⟩
  obtain ⟨sb, hsb⟩ : ∃ s, s = negQ b := ⟨_, rfl⟩
  rw [← hsa] at HF ⊢
  rw [← hsb] at HG ⊢
  have HSA := Lib.hid hsa
  have HSB := Lib.hid hsb
  have r1 := (FQ.parts HF.out).2.1
  have r2 := (FQ.parts HF.out).2.2
  have r3 := (FQ.parts HG.out).2.1
  have r4 := (FQ.parts HG.out).2.2
  have R1 := Lib.hid r1
  have R2 := Lib.hid r2
  have R3 := Lib.hid r3
  have R4 := Lib.hid r4
  have l1 : wlen a.num.natAbs ≤ 100000000 := by unfold sizeQ at ha; omega
  have l2 : wlen a.den ≤ 100000000 := by unfold sizeQ at ha; omega
  have l3 : wlen b.num.natAbs ≤ 100000000 := by unfold sizeQ at hb; omega
  have l4 : wlen b.den ≤ 100000000 := by unfold sizeQ at hb; omega
  clear hsa hsb r1 r2 r3 r4 ha hb HF HG
  have l5 := wlen_mul a.num.natAbs b.num.natAbs
  have l6 := wlen_mul a.den b.den
  have hdd : a.den * b.den ≠ 0 := Nat.mul_ne_zero a.den_nz b.den_nz
  have HQ : Hid (mkRat (sg (!sa == sb) (a.num.natAbs * b.num.natAbs)) (a.den * b.den) = a * b) := by
    unfold Hid
    rw [HSA.out, HSB.out, ← sg_mul]
    congr 2
  go_enter Try.func122, Try.ntmps122
  go_wp2_with fail
  have H0 := Lib.hid (HS.three (w := w) #[.bool sa, .slice A1 k1 c1, .slice A2 k2 c2] #[.bool sb, .slice A3 k3 c3, .slice A4 k4 c4] #[.bool false, .slice none 0 0, .slice none 0 0] 40 40 40)
  generalize ((w.alloc (.cells #[.bool sa, .slice A1 k1 c1, .slice A2 k2 c2] 40)).alloc (.cells #[.bool sb, .slice A3 k3 c3, .slice A4 k4 c4] 40)).alloc (.cells #[.bool false, .slice none 0 0, .slice none 0 0] 40) = W0 at *
  obtain ⟨x0, x1, x2⟩ := (H0.out.blk 2 rfl).c3
  obtain ⟨y0, y1, y2⟩ := (H0.out.blk 1 rfl).c3
  have hlt0 := (H0.out.blk 0 rfl).lt
  have hlt1 := (H0.out.blk 1 rfl).lt
  have hlt2 := (H0.out.blk 2 rfl).lt
  refine wp_chainF (l := [_, _, _, _, _, _, _, _, _, _, _, _, _, _, _, _, _]) (S := Below W0.heap.size W0) 16 [([0, 1, 2, 3, 4, 5, 6, 7, 8, 10, 11, 12, 13], 9), ([], 14), ([], 15)] [] (by kernel_rfl) (by kernel_rfl) (by kernel_rfl) rfl (Below.drew (Below.refl _ _)) ?_
  refine ⟨?_, _, ?_, rfl, ?_⟩
  rotate_left
  · repeat (refine ⟨_, ?_, rfl, Or.inl ⟨by rfl, ?_⟩, ?_⟩; rotate_left; focus (intro W hW; have hcW := (bcell hW).1; clear hW; go_simp; try with_reducible rfl); (try simp only [Act.put, List.setIfInBounds_toArray, List.set_cons_zero, List.set_cons_succ]))
    exact rfl
  have HB0 : Hid (Below W0.heap.size W0 W0.drew) := Below.drew (Below.refl _ _)
  have HB00 := Lib.hid (below_next H0.out.2 HB0.out)
  go_wp2_with fail
  refine (rtimes_calls _ _ _ _ _ (R1.out.of_below HB00.out) (R3.out.of_below HB00.out) (by omega) (by omega)).mono ?_
  rintro e w1 ⟨v, rfl, hv, hb⟩
  have HB1 := Lib.hid (below_next HB0.out hb)
  have HB01 := Lib.hid (below_next H0.out.2 HB1.out)
  have HV := Lib.hid hv
  obtain ⟨A5, c5, l5', rfl, _, _, _⟩ := RN.opened hv
  clear hv hb
  go_wp2_with fail
  refine And.intro HB1.out ⟨_, _, rfl, rfl, ?_⟩
  go_wp2_with fail
  refine (rtimes_calls _ _ _ _ _ (R2.out.of_below HB01.out) (R4.out.of_below HB01.out) (by omega) (by omega)).mono ?_
  rintro e w2 ⟨v, rfl, hv, hb⟩
  have HB2 := Lib.hid (below_next HB1.out hb)
  have HV1 := Lib.hid (HV.out.of_below hb)
  have HV2 := Lib.hid hv
  obtain ⟨A6, c6, l6', rfl, _, _, _⟩ := RN.opened hv
  clear hv hb
  go_wp2_with fail
  refine And.intro HB2.out ⟨_, _, rfl, rfl, ?_⟩
  go_wp2_with fail
  refine (rlowest_q _ _ _ _ _ _ _ HQ.out HV1.out HV2.out (by omega) (by omega) hdd).mono ?_
  rintro e w3 ⟨v, rfl, hv, hb⟩
  have HB3 := Lib.hid (below_next HB2.out hb)
  obtain ⟨A7, n7, c7, A8, n8, c8, rfl, HV3⟩ := hv.opened
  have H3 := Lib.hid (H0.out.step HB3.out)
  clear hv hb
  obtain ⟨e0, e1, e2⟩ := (H3.out.blk 0 rfl).c3
  obtain ⟨f0, f1, f2⟩ := (H3.out.blk 0 rfl).f3
  go_wp2_with fail
  refine And.intro HB3.out ⟨_, rfl, ?_⟩
  go_wp2_with fail
  refine NoPanic.normal ?_
  go_wp2_with fail
  exact end40 Try.results122 rfl (H3.out.blk 0 rfl) HV3.out (by omega) H3.out.2
end Go.Proofs.Ytfhambfgjigneaa
set_option linter.unusedVariables false
set_option linter.unusedSimpArgs false
namespace Go.Proofs.Ytfhambfgjigneaa
open Go.RowKit
set_option maxHeartbeats 16000000 in
set_option maxRecDepth 100000 in
theorem rsum_calls (w : World) (v v2 : Value) (a b : Rat) (h : FQ w v a) (h2 : FQ w v2 b) (ha : sizeQ a ≤ 100000000) (hb : sizeQ b ≤ 100000000) : Calls Try.prog 121 #[v, v2] w fun e w' => FPost w (capQ (a + b)) e w' := by
  obtain ⟨A1, k1, c1, A2, k2, c2, rfl, HF⟩ := h.opened
  obtain ⟨A3, k3, c3, A4, k4, c4, rfl, HG⟩ := h2.opened
  clear h h2
  obtain ⟨sa, hsa⟩ : ∃ s, s = negQ a := ⟨_, rfl⟩
  obtain ⟨sb, hsb⟩ : ∃ s, s = negQ b := ⟨_, rfl⟩
  rw [← hsa] at HF ⊢
  rw [← hsb] at HG ⊢
  have HSA := Lib.hid hsa
  have HSB := Lib.hid hsb
  have r1 := (FQ.parts HF.out).2.1
  have r2 := (FQ.parts HF.out).2.2
  have r3 := (FQ.parts HG.out).2.1
  have r4 := (FQ.parts HG.out).2.2
  have R1 := Lib.hid r1
  have R2 := Lib.hid r2
  have R3 := Lib.hid r3
  have R4 := Lib.hid r4
  have l1 : wlen a.num.natAbs ≤ 100000000 := by unfold sizeQ at ha; omega
  have l2 : wlen a.den ≤ 100000000 := by unfold sizeQ at ha; omega
  have l3 : wlen b.num.natAbs ≤ 100000000 := by unfold sizeQ at hb; omega
  have l4 : wlen b.den ≤ 100000000 := by unfold sizeQ at hb; omega
  clear hsa hsb r1 r2 r3 r4 ha hb HF HG
  go_enter Try.func121, Try.ntmps121
  go_wp2_with fail
  have H0 := Lib.hid (HS.three (w := w) #[.bool sa, .slice A1 k1 c1, .slice A2 k2 c2] #[.bool sb, .slice A3 k3 c3, .slice A4 k4 c4] #[.bool false, .slice none 0 0, .slice none 0 0] 40 40 40)
  generalize ((w.alloc (.cells #[.bool sa, .slice A1 k1 c1, .slice A2 k2 c2] 40)).alloc (.cells #[.bool sb, .slice A3 k3 c3, .slice A4 k4 c4] 40)).alloc (.cells #[.bool false, .slice none 0 0, .slice none 0 0] 40) = W0 at *
  obtain ⟨x0, x1, x2⟩ := (H0.out.blk 2 rfl).c3
  obtain ⟨y0, y1, y2⟩ := (H0.out.blk 1 rfl).c3
  have hlt0 := (H0.out.blk 0 rfl).lt
  have hlt1 := (H0.out.blk 1 rfl).lt
  have hlt2 := (H0.out.blk 2 rfl).lt
  obtain ⟨x0, x1, x2⟩ := (H0.out.blk 2 rfl).c3
  go_quiet (fail)
  have HB0 : Hid (Below W0.heap.size W0 (W0.drewN nq)) := pw_drewN (Below.refl _ _) _
  have H1 := Lib.hid (H0.out.step HB0.out)
  generalize W0.drewN nq = W1 at *
  obtain ⟨x0, x1, x2⟩ := (H1.out.blk 2 rfl).c3
  obtain ⟨y0, y1, y2⟩ := (H1.out.blk 1 rfl).c3
  go_wp2_with fail
  refine (rorder_calls W1 _ _ a.den b.den (R2.out.of_below H1.out.2) (R4.out.of_below H1.out.2) (by omega) (by omega)).mono ?_
  rintro e w2 ⟨rfl, hb⟩
  have H2 := Lib.hid (H1.out.step hb)
  clear hb
  obtain ⟨x0, x1, x2⟩ := (H2.out.blk 2 rfl).c3
  obtain ⟨y0, y1, y2⟩ := (H2.out.blk 1 rfl).c3
  have hlt0 := (H2.out.blk 0 rfl).lt
  have hlt1 := (H2.out.blk 1 rfl).lt
  have hlt2 := (H2.out.blk 2 rfl).lt
  by_cases hd : a.den = b.den
  · have u0 : (cmpI a.den b.den != 0) = false := by rw [hd]; exact cmpI_same _
    have HD := Lib.hid hd
    clear hd
    have HX2 := Lib.hid (R1.out.of_below H2.out.2)
    have HY2 := Lib.hid (R3.out.of_below H2.out.2)
    have HD2 := Lib.hid (R2.out.of_below H2.out.2)
    obtain ⟨xn, hxn⟩ : ∃ x, x = a.num.natAbs := ⟨_, rfl⟩
    obtain ⟨yn, hyn⟩ : ∃ x, x = b.num.natAbs := ⟨_, rfl⟩
    obtain ⟨dn, hdn⟩ : ∃ x, x = a.den := ⟨_, rfl⟩
    have HA : Hid (a = mkRat (sg (negQ a) xn) dn) := by unfold Hid; rw [hxn, hdn, mk_self]
    have HB : Hid (b = mkRat (sg (negQ b) yn) dn) := by unfold Hid; rw [hyn, hdn, HD.out, mk_self]
    have hdd : dn ≠ 0 := by rw [hdn]; exact a.den_nz
    rw [← hxn] at HX2 l1
    rw [← hyn] at HY2 l3
    rw [← hdn] at HD2 l2
    have HDD := Lib.hid hdd
    clear hxn hyn hdn hdd
    by_cases hs : sa = sb
    · have u1 : (sa == sb) = true := by rw [hs]; simp
      have HQ : Hid (mkRat (sg sa (xn + yn)) (dn) = a + b) := by
        unfold Hid
        have hA := HA.out
        have hB := HB.out
        rw [← HSA.out] at hA
        rw [← HSB.out, ← hs] at hB
        rw [← plus_eq sa _ _ _ HDD.out, ← hA, ← hB]
      clear hs
      go_wp2_with fail
      refine wp_chainF (l := [_, _, _, _, _, _, _, _]) (S := Below w2.heap.size w2) 7 [([0, 1, 2, 3, 5], 4), ([], 6)] [] (by kernel_rfl) (by kernel_rfl) (by kernel_rfl) rfl (Below.drew (Below.refl _ _)) ?_
      refine ⟨?_, _, ?_, rfl, ?_⟩
      rotate_left
      · repeat (refine ⟨_, ?_, rfl, Or.inl ⟨by rfl, ?_⟩, ?_⟩; rotate_left; focus (intro W hW; have hcW := (bcell hW).1; clear hW; go_simp; try with_reducible rfl); (try simp only [Act.put, List.setIfInBounds_toArray, List.set_cons_zero, List.set_cons_succ]))
        exact rfl
      have HBd : Hid (Below w2.heap.size w2 w2.drew) := Below.drew (Below.refl _ _)
      go_wp2_with fail
      refine (rplus_calls _ _ _ (xn) (yn) (RN.of_below HX2.out HBd.out) (RN.of_below HY2.out HBd.out) (by omega) (by omega)).mono ?_
      rintro e w5 ⟨v, rfl, hv, hb⟩
      have HB5 := Lib.hid (below_next HBd.out hb)
      have HV5 := Lib.hid hv
      obtain ⟨A5, c5, l5', rfl, _, _, _⟩ := RN.opened hv
      clear hv hb
      go_wp2_with fail
      refine And.intro HB5.out ⟨_, _, rfl, rfl, ?_⟩
      go_wp2_with fail
      refine (rlowest_q _ _ _ sa (xn + yn) (dn) (a + b) HQ.out HV5.out (RN.of_below HD2.out HB5.out) (by have := wlen_add (xn) (yn); omega) (by omega) HDD.out).mono ?_
      rintro e w6 ⟨v, rfl, hv, hb⟩
      have HB6 := Lib.hid (below_next HB5.out hb)
      obtain ⟨A7, n7, c7, A8, n8, c8, rfl, HV6⟩ := hv.opened
      have H6 := Lib.hid (H2.out.step HB6.out)
      clear hv hb
      obtain ⟨e0, e1, e2⟩ := (H6.out.blk 0 rfl).c3
      obtain ⟨f0, f1, f2⟩ := (H6.out.blk 0 rfl).f3
      go_wp2_with fail
      refine And.intro HB6.out ⟨_, rfl, ?_⟩
      go_wp2_with fail
      refine NoPanic.normal ?_
      go_wp2_with fail
      exact end40 Try.results121 rfl (H6.out.blk 0 rfl) HV6.out (by omega) H6.out.2
    have u1 : (sa == sb) = false := by simpa using hs
    have HSN := Lib.hid hs
    clear hs
    go_wp2_with fail
    refine (rorder_calls w2 _ _ (xn) (yn) HX2.out HY2.out (by omega) (by omega)).mono ?_
    rintro e w4 ⟨rfl, hb⟩
    have H4 := Lib.hid (H2.out.step hb)
    have HX4 := Lib.hid (RN.of_below HX2.out hb)
    have HY4 := Lib.hid (RN.of_below HY2.out hb)
    have HD4 := Lib.hid (RN.of_below HD2.out hb)
    obtain ⟨x0, x1, x2⟩ := (H4.out.blk 2 rfl).c3
    obtain ⟨y0, y1, y2⟩ := (H4.out.blk 1 rfl).c3
    have hlt0 := (H4.out.blk 0 rfl).lt
    have hlt1 := (H4.out.blk 1 rfl).lt
    have hlt2 := (H4.out.blk 2 rfl).lt
    clear hb
    by_cases hle : yn ≤ xn
    · have u2 := cmpI_geq hle
      have HQ : Hid (mkRat (sg sa (xn - yn)) (dn) = a + b) := by
        unfold Hid
        have hA := HA.out
        have hB := HB.out
        rw [← HSA.out] at hA
        rw [← HSB.out] at hB
        rw [← plus_gt sa sb HSN.out _ _ _ HDD.out hle, ← hA, ← hB]
      go_wp2_with fail
      refine wp_chainF (l := [_, _, _, _, _, _, _, _]) (S := Below w4.heap.size w4) 7 [([0, 1, 2, 3, 5], 4), ([], 6)] [] (by kernel_rfl) (by kernel_rfl) (by kernel_rfl) rfl (Below.drew (Below.refl _ _)) ?_
      refine ⟨?_, _, ?_, rfl, ?_⟩
      rotate_left
      · repeat (refine ⟨_, ?_, rfl, Or.inl ⟨by rfl, ?_⟩, ?_⟩; rotate_left; focus (intro W hW; have hcW := (bcell hW).1; clear hW; go_simp; try with_reducible rfl); (try simp only [Act.put, List.setIfInBounds_toArray, List.set_cons_zero, List.set_cons_succ]))
        exact rfl
      have HBd : Hid (Below w4.heap.size w4 w4.drew) := Below.drew (Below.refl _ _)
      go_wp2_with fail
      refine (rminus_calls _ _ _ (xn) (yn) (RN.of_below HX4.out HBd.out) (RN.of_below HY4.out HBd.out) (by omega) hle).mono ?_
      rintro e w5 ⟨v, rfl, hv, hb⟩
      have HB5 := Lib.hid (below_next HBd.out hb)
      have HV5 := Lib.hid hv
      obtain ⟨A5, c5, l5', rfl, _, _, _⟩ := RN.opened hv
      clear hv hb
      go_wp2_with fail
      refine And.intro HB5.out ⟨_, _, rfl, rfl, ?_⟩
      go_wp2_with fail
      refine (rlowest_q _ _ _ sa (xn - yn) (dn) (a + b) HQ.out HV5.out (RN.of_below HD4.out HB5.out) (by have := wlen_mono (Nat.sub_le (xn) (yn)); omega) (by omega) HDD.out).mono ?_
      rintro e w6 ⟨v, rfl, hv, hb⟩
      have HB6 := Lib.hid (below_next HB5.out hb)
      obtain ⟨A7, n7, c7, A8, n8, c8, rfl, HV6⟩ := hv.opened
      have H6 := Lib.hid (H4.out.step HB6.out)
      clear hv hb
      obtain ⟨e0, e1, e2⟩ := (H6.out.blk 0 rfl).c3
      obtain ⟨f0, f1, f2⟩ := (H6.out.blk 0 rfl).f3
      go_wp2_with fail
      refine And.intro HB6.out ⟨_, rfl, ?_⟩
      go_wp2_with fail
      refine NoPanic.normal ?_
      go_wp2_with fail
      exact end40 Try.results121 rfl (H6.out.blk 0 rfl) HV6.out (by omega) H6.out.2
    · have u2 := cmpI_less (Nat.lt_of_not_le hle)
      have hle2 : xn ≤ yn := by omega
      have HQ : Hid (mkRat (sg sb (yn - xn)) (dn) = a + b) := by
        unfold Hid
        have hA := HA.out
        have hB := HB.out
        rw [← HSA.out] at hA
        rw [← HSB.out] at hB
        rw [← plus_lt sa sb HSN.out _ _ _ HDD.out hle2, ← hA, ← hB]
      go_wp2_with fail
      refine wp_chainF (l := [_, _, _, _, _, _, _, _]) (S := Below w4.heap.size w4) 7 [([0, 1, 2, 3, 5], 4), ([], 6)] [] (by kernel_rfl) (by kernel_rfl) (by kernel_rfl) rfl (Below.drew (Below.refl _ _)) ?_
      refine ⟨?_, _, ?_, rfl, ?_⟩
      rotate_left
      · repeat (refine ⟨_, ?_, rfl, Or.inl ⟨by rfl, ?_⟩, ?_⟩; rotate_left; focus (intro W hW; have hcW := (bcell hW).1; clear hW; go_simp; try with_reducible rfl); (try simp only [Act.put, List.setIfInBounds_toArray, List.set_cons_zero, List.set_cons_succ]))
        exact rfl
      have HBd : Hid (Below w4.heap.size w4 w4.drew) := Below.drew (Below.refl _ _)
      go_wp2_with fail
      refine (rminus_calls _ _ _ (yn) (xn) (RN.of_below HY4.out HBd.out) (RN.of_below HX4.out HBd.out) (by omega) hle2).mono ?_
      rintro e w5 ⟨v, rfl, hv, hb⟩
      have HB5 := Lib.hid (below_next HBd.out hb)
      have HV5 := Lib.hid hv
      obtain ⟨A5, c5, l5', rfl, _, _, _⟩ := RN.opened hv
      clear hv hb
      go_wp2_with fail
      refine And.intro HB5.out ⟨_, _, rfl, rfl, ?_⟩
      go_wp2_with fail
      refine (rlowest_q _ _ _ sb (yn - xn) (dn) (a + b) HQ.out HV5.out (RN.of_below HD4.out HB5.out) (by have := wlen_mono (Nat.sub_le (yn) (xn)); omega) (by omega) HDD.out).mono ?_
      rintro e w6 ⟨v, rfl, hv, hb⟩
      have HB6 := Lib.hid (below_next HB5.out hb)
      obtain ⟨A7, n7, c7, A8, n8, c8, rfl, HV6⟩ := hv.opened
      have H6 := Lib.hid (H4.out.step HB6.out)
      clear hv hb
      obtain ⟨e0, e1, e2⟩ := (H6.out.blk 0 rfl).c3
      obtain ⟨f0, f1, f2⟩ := (H6.out.blk 0 rfl).f3
      go_wp2_with fail
      refine And.intro HB6.out ⟨_, rfl, ?_⟩
      go_wp2_with fail
      refine NoPanic.normal ?_
      go_wp2_with fail
      exact end40 Try.results121 rfl (H6.out.blk 0 rfl) HV6.out (by omega) H6.out.2
  · have u0 : (cmpI a.den b.den != 0) = true := cmpI_diff hd
    clear hd
    have m1 := wlen_mul a.num.natAbs b.den
    have m2 := wlen_mul b.num.natAbs a.den
    have m3 := wlen_mul a.den b.den
    go_wp2_with fail
    refine wp_chainF (l := [_, _, _, _, _, _, _, _, _, _, _, _, _, _, _, _, _, _]) (S := Below w2.heap.size w2) 18 [([0, 1, 2, 3, 5, 6, 7, 8, 10, 11, 12, 13], 4), ([], 9), ([], 14)] [15, 16, 17] (by kernel_rfl) (by kernel_rfl) (by kernel_rfl) rfl (Below.drew (Below.refl _ _)) ?_
    refine ⟨?_, _, ?_, rfl, ?_⟩
    rotate_left
    · repeat (refine ⟨_, ?_, rfl, Or.inl ⟨by rfl, ?_⟩, ?_⟩; rotate_left; focus (intro W hW; have hcW := (bcell hW).1; clear hW; go_simp; try with_reducible rfl); (try simp only [Act.put, List.setIfInBounds_toArray, List.set_cons_zero, List.set_cons_succ]))
      exact rfl
    have HBd : Hid (Below w2.heap.size w2 w2.drew) := Below.drew (Below.refl _ _)
    have HBd0 := Lib.hid (below_next H2.out.2 HBd.out)
    go_wp2_with fail
    refine (rtimes_calls _ _ _ a.num.natAbs b.den (R1.out.of_below HBd0.out) (R4.out.of_below HBd0.out) (by omega) (by omega)).mono ?_
    rintro e w3 ⟨v, rfl, hv, hb⟩
    have HB3 := Lib.hid (below_next HBd.out hb)
    have HB30 := Lib.hid (below_next H2.out.2 HB3.out)
    have HV3 := Lib.hid hv
    obtain ⟨A5, c5, l5', rfl, _, _, _⟩ := RN.opened hv
    clear hv hb
    go_wp2_with fail
    refine And.intro HB3.out ⟨_, _, rfl, rfl, ?_⟩
    go_wp2_with fail
    refine (rtimes_calls _ _ _ b.num.natAbs a.den (R3.out.of_below HB30.out) (R2.out.of_below HB30.out) (by omega) (by omega)).mono ?_
    rintro e w4 ⟨v, rfl, hv, hb⟩
    have HB4 := Lib.hid (below_next HB3.out hb)
    have HB40 := Lib.hid (below_next H2.out.2 HB4.out)
    have HV34 := Lib.hid (HV3.out.of_below hb)
    have HV4 := Lib.hid hv
    obtain ⟨A6, c6, l6', rfl, _, _, _⟩ := RN.opened hv
    clear hv hb
    go_wp2_with fail
    refine And.intro HB4.out ⟨_, _, rfl, rfl, ?_⟩
    go_wp2_with fail
    refine (rtimes_calls _ _ _ a.den b.den (R2.out.of_below HB40.out) (R4.out.of_below HB40.out) (by omega) (by omega)).mono ?_
    rintro e w7 ⟨v, rfl, hv, hb⟩
    have HB7 := Lib.hid (below_next HB4.out hb)
    have H7 := Lib.hid (H2.out.step HB7.out)
    have HX2 := Lib.hid (HV34.out.of_below hb)
    have HY2 := Lib.hid (HV4.out.of_below hb)
    have HD2 := Lib.hid hv
    obtain ⟨A9, c9, l9', rfl, _, _, _⟩ := RN.opened hv
    clear hv hb
    obtain ⟨x0, x1, x2⟩ := (H7.out.blk 2 rfl).c3
    obtain ⟨y0, y1, y2⟩ := (H7.out.blk 1 rfl).c3
    have hlt0 := (H7.out.blk 0 rfl).lt
    have hlt1 := (H7.out.blk 1 rfl).lt
    have hlt2 := (H7.out.blk 2 rfl).lt
    obtain ⟨xn, hxn⟩ : ∃ x, x = a.num.natAbs * b.den := ⟨_, rfl⟩
    obtain ⟨yn, hyn⟩ : ∃ x, x = b.num.natAbs * a.den := ⟨_, rfl⟩
    obtain ⟨dn, hdn⟩ : ∃ x, x = a.den * b.den := ⟨_, rfl⟩
    have HA : Hid (a = mkRat (sg (negQ a) xn) dn) := by unfold Hid; rw [hxn, hdn]; exact scale_left a b.den b.den_nz
    have HB : Hid (b = mkRat (sg (negQ b) yn) dn) := by unfold Hid; rw [hyn, hdn]; exact scale_right b a.den a.den_nz
    have hdd : dn ≠ 0 := by rw [hdn]; exact Nat.mul_ne_zero a.den_nz b.den_nz
    rw [← hxn] at HX2 m1
    rw [← hyn] at HY2 m2
    rw [← hdn] at HD2 m3
    have HDD := Lib.hid hdd
    clear hxn hyn hdn hdd
    go_wp2_with fail
    refine And.intro HB7.out ⟨?_, ?_, ?_⟩
    rotate_left
    · repeat (refine ⟨_, ?_, rfl, Or.inl ⟨by rfl, ?_⟩, ?_⟩; rotate_left; focus (intro W hW; have hcW := (bcell hW).1; clear hW; go_simp; try with_reducible rfl); (try simp only [Act.put, List.setIfInBounds_toArray, List.set_cons_zero, List.set_cons_succ]))
      exact rfl
    refine NoPanic.normal ?_
    by_cases hs : sa = sb
    · have u1 : (sa == sb) = true := by rw [hs]; simp
      have HQ : Hid (mkRat (sg sa (xn + yn)) (dn) = a + b) := by
        unfold Hid
        have hA := HA.out
        have hB := HB.out
        rw [← HSA.out] at hA
        rw [← HSB.out, ← hs] at hB
        rw [← plus_eq sa _ _ _ HDD.out, ← hA, ← hB]
      clear hs
      go_wp2_with fail
      refine wp_chainF (l := [_, _, _, _, _, _, _, _]) (S := Below w7.heap.size w7) 7 [([0, 1, 2, 3, 5], 4), ([], 6)] [] (by kernel_rfl) (by kernel_rfl) (by kernel_rfl) rfl (Below.drew (Below.refl _ _)) ?_
      refine ⟨?_, _, ?_, rfl, ?_⟩
      rotate_left
      · repeat (refine ⟨_, ?_, rfl, Or.inl ⟨by rfl, ?_⟩, ?_⟩; rotate_left; focus (intro W hW; have hcW := (bcell hW).1; clear hW; go_simp; try with_reducible rfl); (try simp only [Act.put, List.setIfInBounds_toArray, List.set_cons_zero, List.set_cons_succ]))
        exact rfl
      have HBd : Hid (Below w7.heap.size w7 w7.drew) := Below.drew (Below.refl _ _)
      go_wp2_with fail
      refine (rplus_calls _ _ _ (xn) (yn) (RN.of_below HX2.out HBd.out) (RN.of_below HY2.out HBd.out) (by omega) (by omega)).mono ?_
      rintro e w5 ⟨v, rfl, hv, hb⟩
      have HB5 := Lib.hid (below_next HBd.out hb)
      have HV5 := Lib.hid hv
      obtain ⟨A5, c5, l5', rfl, _, _, _⟩ := RN.opened hv
      clear hv hb
      go_wp2_with fail
      refine And.intro HB5.out ⟨_, _, rfl, rfl, ?_⟩
      go_wp2_with fail
      refine (rlowest_q _ _ _ sa (xn + yn) (dn) (a + b) HQ.out HV5.out (RN.of_below HD2.out HB5.out) (by have := wlen_add (xn) (yn); omega) (by omega) HDD.out).mono ?_
      rintro e w6 ⟨v, rfl, hv, hb⟩
      have HB6 := Lib.hid (below_next HB5.out hb)
      obtain ⟨A7, n7, c7, A8, n8, c8, rfl, HV6⟩ := hv.opened
      have H6 := Lib.hid (H7.out.step HB6.out)
      clear hv hb
      obtain ⟨e0, e1, e2⟩ := (H6.out.blk 0 rfl).c3
      obtain ⟨f0, f1, f2⟩ := (H6.out.blk 0 rfl).f3
      go_wp2_with fail
      refine And.intro HB6.out ⟨_, rfl, ?_⟩
      go_wp2_with fail
      refine NoPanic.normal ?_
      go_wp2_with fail
      exact end40 Try.results121 rfl (H6.out.blk 0 rfl) HV6.out (by omega) H6.out.2
    have u1 : (sa == sb) = false := by simpa using hs
    have HSN := Lib.hid hs
    clear hs
    go_wp2_with fail
    refine (rorder_calls w7 _ _ (xn) (yn) HX2.out HY2.out (by omega) (by omega)).mono ?_
    rintro e w4 ⟨rfl, hb⟩
    have H4 := Lib.hid (H7.out.step hb)
    have HX4 := Lib.hid (RN.of_below HX2.out hb)
    have HY4 := Lib.hid (RN.of_below HY2.out hb)
    have HD4 := Lib.hid (RN.of_below HD2.out hb)
    obtain ⟨x0, x1, x2⟩ := (H4.out.blk 2 rfl).c3
    obtain ⟨y0, y1, y2⟩ := (H4.out.blk 1 rfl).c3
    have hlt0 := (H4.out.blk 0 rfl).lt
    have hlt1 := (H4.out.blk 1 rfl).lt
    have hlt2 := (H4.out.blk 2 rfl).lt
    clear hb
    by_cases hle : yn ≤ xn
    · have u2 := cmpI_geq hle
      have HQ : Hid (mkRat (sg sa (xn - yn)) (dn) = a + b) := by
        unfold Hid
        have hA := HA.out
        have hB := HB.out
        rw [← HSA.out] at hA
        rw [← HSB.out] at hB
        rw [← plus_gt sa sb HSN.out _ _ _ HDD.out hle, ← hA, ← hB]
      go_wp2_with fail
      refine wp_chainF (l := [_, _, _, _, _, _, _, _]) (S := Below w4.heap.size w4) 7 [([0, 1, 2, 3, 5], 4), ([], 6)] [] (by kernel_rfl) (by kernel_rfl) (by kernel_rfl) rfl (Below.drew (Below.refl _ _)) ?_
      refine ⟨?_, _, ?_, rfl, ?_⟩
      rotate_left
      · repeat (refine ⟨_, ?_, rfl, Or.inl ⟨by rfl, ?_⟩, ?_⟩; rotate_left; focus (intro W hW; have hcW := (bcell hW).1; clear hW; go_simp; try with_reducible rfl); (try simp only [Act.put, List.setIfInBounds_toArray, List.set_cons_zero, List.set_cons_succ]))
        exact rfl
      have HBd : Hid (Below w4.heap.size w4 w4.drew) := Below.drew (Below.refl _ _)
      go_wp2_with fail
      refine (rminus_calls _ _ _ (xn) (yn) (RN.of_below HX4.out HBd.out) (RN.of_below HY4.out HBd.out) (by omega) hle).mono ?_
      rintro e w5 ⟨v, rfl, hv, hb⟩
      have HB5 := Lib.hid (below_next HBd.out hb)
      have HV5 := Lib.hid hv
      obtain ⟨A5, c5, l5', rfl, _, _, _⟩ := RN.opened hv
      clear hv hb
      go_wp2_with fail
      refine And.intro HB5.out ⟨_, _, rfl, rfl, ?_⟩
      go_wp2_with fail
      refine (rlowest_q _ _ _ sa (xn - yn) (dn) (a + b) HQ.out HV5.out (RN.of_below HD4.out HB5.out) (by have := wlen_mono (Nat.sub_le (xn) (yn)); omega) (by omega) HDD.out).mono ?_
      rintro e w6 ⟨v, rfl, hv, hb⟩
      have HB6 := Lib.hid (below_next HB5.out hb)
      obtain ⟨A7, n7, c7, A8, n8, c8, rfl, HV6⟩ := hv.opened
      have H6 := Lib.hid (H4.out.step HB6.out)
      clear hv hb
      obtain ⟨e0, e1, e2⟩ := (H6.out.blk 0 rfl).c3
      obtain ⟨f0, f1, f2⟩ := (H6.out.blk 0 rfl).f3
      go_wp2_with fail
      refine And.intro HB6.out ⟨_, rfl, ?_⟩
      go_wp2_with fail
      refine NoPanic.normal ?_
      go_wp2_with fail
      exact end40 Try.results121 rfl (H6.out.blk 0 rfl) HV6.out (by omega) H6.out.2
    · have u2 := cmpI_less (Nat.lt_of_not_le hle)
      have hle2 : xn ≤ yn := by omega
      have HQ : Hid (mkRat (sg sb (yn - xn)) (dn) = a + b) := by
        unfold Hid
        have hA := HA.out
        have hB := HB.out
        rw [← HSA.out] at hA
        rw [← HSB.out] at hB
        rw [← plus_lt sa sb HSN.out _ _ _ HDD.out hle2, ← hA, ← hB]
      go_wp2_with fail
      refine wp_chainF (l := [_, _, _, _, _, _, _, _]) (S := Below w4.heap.size w4) 7 [([0, 1, 2, 3, 5], 4), ([], 6)] [] (by kernel_rfl) (by kernel_rfl) (by kernel_rfl) rfl (Below.drew (Below.refl _ _)) ?_
      refine ⟨?_, _, ?_, rfl, ?_⟩
      rotate_left
      · repeat (refine ⟨_, ?_, rfl, Or.inl ⟨by rfl, ?_⟩, ?_⟩; rotate_left; focus (intro W hW; have hcW := (bcell hW).1; clear hW; go_simp; try with_reducible rfl); (try simp only [Act.put, List.setIfInBounds_toArray, List.set_cons_zero, List.set_cons_succ]))
        exact rfl
      have HBd : Hid (Below w4.heap.size w4 w4.drew) := Below.drew (Below.refl _ _)
      go_wp2_with fail
      refine (rminus_calls _ _ _ (yn) (xn) (RN.of_below HY4.out HBd.out) (RN.of_below HX4.out HBd.out) (by omega) hle2).mono ?_
      rintro e w5 ⟨v, rfl, hv, hb⟩
      have HB5 := Lib.hid (below_next HBd.out hb)
      have HV5 := Lib.hid hv
      obtain ⟨A5, c5, l5', rfl, _, _, _⟩ := RN.opened hv
      clear hv hb
      go_wp2_with fail
      refine And.intro HB5.out ⟨_, _, rfl, rfl, ?_⟩
      go_wp2_with fail
      refine (rlowest_q _ _ _ sb (yn - xn) (dn) (a + b) HQ.out HV5.out (RN.of_below HD4.out HB5.out) (by have := wlen_mono (Nat.sub_le (yn) (xn)); omega) (by omega) HDD.out).mono ?_
      rintro e w6 ⟨v, rfl, hv, hb⟩
      have HB6 := Lib.hid (below_next HB5.out hb)
      obtain ⟨A7, n7, c7, A8, n8, c8, rfl, HV6⟩ := hv.opened
      have H6 := Lib.hid (H4.out.step HB6.out)
      clear hv hb
      obtain ⟨e0, e1, e2⟩ := (H6.out.blk 0 rfl).c3
      obtain ⟨f0, f1, f2⟩ := (H6.out.blk 0 rfl).f3
      go_wp2_with fail
      refine And.intro HB6.out ⟨_, rfl, ?_⟩
      go_wp2_with fail
      refine NoPanic.normal ?_
      go_wp2_with fail
      exact end40 Try.results121 rfl (H6.out.blk 0 rfl) HV6.out (by omega) H6.out.2
end Go.Proofs.Ytfhambfgjigneaa
set_option linter.unusedVariables false
set_option linter.unusedSimpArgs false
namespace Go.Proofs.Ytfhambfgjigneaa
open Go.RowKit
set_option maxHeartbeats 16000000 in
set_option maxRecDepth 100000 in
theorem radd_calls (w : World) (v v2 : Value) (f g : RawF) (h : FR w v f) (h2 : FR w v2 g) : Calls Try.prog 93 #[v, v2] w fun e w' => FPost w (capQ (fixQ f + fixQ g)) e w' := by
  obtain ⟨A1, k1, c1, A2, k2, c2, rfl, HF⟩ := h.opened
  obtain ⟨A3, k3, c3, A4, k4, c4, rfl, HG⟩ := h2.opened
  clear h h2
  go_enter Try.func93, Try.ntmps93
  go_wp2_with fail
  have H0 := Lib.hid (HS.three (w := w) #[.bool f.neg, .slice A1 k1 c1, .slice A2 k2 c2] #[.bool g.neg, .slice A3 k3 c3, .slice A4 k4 c4] #[.bool false, .slice none 0 0, .slice none 0 0] 40 40 40)
  generalize ((w.alloc (.cells #[.bool f.neg, .slice A1 k1 c1, .slice A2 k2 c2] 40)).alloc (.cells #[.bool g.neg, .slice A3 k3 c3, .slice A4 k4 c4] 40)).alloc (.cells #[.bool false, .slice none 0 0, .slice none 0 0] 40) = W0 at *
  obtain ⟨x0, x1, x2⟩ := (H0.out.blk 2 rfl).c3
  obtain ⟨y0, y1, y2⟩ := (H0.out.blk 1 rfl).c3
  have hlt0 := (H0.out.blk 0 rfl).lt
  have hlt1 := (H0.out.blk 1 rfl).lt
  have hlt2 := (H0.out.blk 2 rfl).lt
  refine wp_chainF (l := [_, _, _, _, _, _]) (S := Below W0.heap.size W0) 5 [([0, 2], 1), ([], 3), ([], 4)] [] (by kernel_rfl) (by kernel_rfl) (by kernel_rfl) rfl (Below.drew (Below.refl _ _)) ?_
  refine ⟨?_, _, ?_, rfl, ?_⟩
  rotate_left
  · repeat (refine ⟨_, ?_, rfl, Or.inl ⟨by rfl, ?_⟩, ?_⟩; rotate_left; focus (intro W hW; have hcW := (bcell hW).1; clear hW; go_simp; try with_reducible rfl); (try simp only [Act.put, List.setIfInBounds_toArray, List.set_cons_zero, List.set_cons_succ]))
    exact rfl
  have HB0 : Hid (Below W0.heap.size W0 W0.drew) := Below.drew (Below.refl _ _)
  have HB00 := Lib.hid (below_next H0.out.2 HB0.out)
  go_wp2_with fail
  refine (rfix_calls _ _ f (HF.out.of_below HB00.out)).mono ?_
  rintro e w1 ⟨v, rfl, hv, hb⟩
  have HB1 := Lib.hid (below_next HB0.out hb)
  have HB01 := Lib.hid (below_next H0.out.2 HB1.out)
  obtain ⟨A5, n5, c5, A6, n6, c6, rfl, HV1⟩ := hv.opened
  clear hv hb
  go_wp2_with fail
  refine And.intro HB1.out ⟨_, _, rfl, rfl, ?_⟩
  go_wp2_with fail
  refine (rfix_calls _ _ g (HG.out.of_below HB01.out)).mono ?_
  rintro e w2 ⟨v, rfl, hv, hb⟩
  have HB2 := Lib.hid (below_next HB1.out hb)
  have HV1' := Lib.hid (HV1.out.of_below hb)
  obtain ⟨A7, n7, c7, A8, n8, c8, rfl, HV2⟩ := hv.opened
  clear hv hb
  go_wp2_with fail
  refine And.intro HB2.out ⟨_, _, rfl, rfl, ?_⟩
  go_wp2_with fail
  refine (rsum_calls _ _ _ _ _ HV1'.out HV2.out (by have := sizeQ_fix f; omega) (by have := sizeQ_fix g; omega)).mono ?_
  rintro e w3 ⟨v, rfl, hv, hb⟩
  have HB3 := Lib.hid (below_next HB2.out hb)
  obtain ⟨A9, n9, c9, A10, n10, c10, rfl, HV3⟩ := hv.opened
  have H3 := Lib.hid (H0.out.step HB3.out)
  clear hv hb
  obtain ⟨e0, e1, e2⟩ := (H3.out.blk 0 rfl).c3
  obtain ⟨f0, f1, f2⟩ := (H3.out.blk 0 rfl).f3
  go_wp2_with fail
  refine And.intro HB3.out ⟨_, rfl, ?_⟩
  go_wp2_with fail
  refine NoPanic.normal ?_
  go_wp2_with fail
  exact end40 Try.results93 rfl (H3.out.blk 0 rfl) HV3.out (by omega) H3.out.2
set_option maxHeartbeats 16000000 in
set_option maxRecDepth 100000 in
theorem rmul_calls (w : World) (v v2 : Value) (f g : RawF) (h : FR w v f) (h2 : FR w v2 g) : Calls Try.prog 94 #[v, v2] w fun e w' => FPost w (capQ (fixQ f * fixQ g)) e w' := by
  obtain ⟨A1, k1, c1, A2, k2, c2, rfl, HF⟩ := h.opened
  obtain ⟨A3, k3, c3, A4, k4, c4, rfl, HG⟩ := h2.opened
  clear h h2
  go_enter Try.func94, Try.ntmps94
  go_wp2_with fail
  have H0 := Lib.hid (HS.three (w := w) #[.bool f.neg, .slice A1 k1 c1, .slice A2 k2 c2] #[.bool g.neg, .slice A3 k3 c3, .slice A4 k4 c4] #[.bool false, .slice none 0 0, .slice none 0 0] 40 40 40)
  generalize ((w.alloc (.cells #[.bool f.neg, .slice A1 k1 c1, .slice A2 k2 c2] 40)).alloc (.cells #[.bool g.neg, .slice A3 k3 c3, .slice A4 k4 c4] 40)).alloc (.cells #[.bool false, .slice none 0 0, .slice none 0 0] 40) = W0 at *
  obtain ⟨x0, x1, x2⟩ := (H0.out.blk 2 rfl).c3
  obtain ⟨y0, y1, y2⟩ := (H0.out.blk 1 rfl).c3
  have hlt0 := (H0.out.blk 0 rfl).lt
  have hlt1 := (H0.out.blk 1 rfl).lt
  have hlt2 := (H0.out.blk 2 rfl).lt
  refine wp_chainF (l := [_, _, _, _, _, _]) (S := Below W0.heap.size W0) 5 [([0, 2], 1), ([], 3), ([], 4)] [] (by kernel_rfl) (by kernel_rfl) (by kernel_rfl) rfl (Below.drew (Below.refl _ _)) ?_
  refine ⟨?_, _, ?_, rfl, ?_⟩
  rotate_left
  · repeat (refine ⟨_, ?_, rfl, Or.inl ⟨by rfl, ?_⟩, ?_⟩; rotate_left; focus (intro W hW; have hcW := (bcell hW).1; clear hW; go_simp; try with_reducible rfl); (try simp only [Act.put, List.setIfInBounds_toArray, List.set_cons_zero, List.set_cons_succ]))
    exact rfl
  have HB0 : Hid (Below W0.heap.size W0 W0.drew) := Below.drew (Below.refl _ _)
  have HB00 := Lib.hid (below_next H0.out.2 HB0.out)
  go_wp2_with fail
  refine (rfix_calls _ _ f (HF.out.of_below HB00.out)).mono ?_
  rintro e w1 ⟨v, rfl, hv, hb⟩
  have HB1 := Lib.hid (below_next HB0.out hb)
  have HB01 := Lib.hid (below_next H0.out.2 HB1.out)
  obtain ⟨A5, n5, c5, A6, n6, c6, rfl, HV1⟩ := hv.opened
  clear hv hb
  go_wp2_with fail
  refine And.intro HB1.out ⟨_, _, rfl, rfl, ?_⟩
  go_wp2_with fail
  refine (rfix_calls _ _ g (HG.out.of_below HB01.out)).mono ?_
  rintro e w2 ⟨v, rfl, hv, hb⟩
  have HB2 := Lib.hid (below_next HB1.out hb)
  have HV1' := Lib.hid (HV1.out.of_below hb)
  obtain ⟨A7, n7, c7, A8, n8, c8, rfl, HV2⟩ := hv.opened
  clear hv hb
  go_wp2_with fail
  refine And.intro HB2.out ⟨_, _, rfl, rfl, ?_⟩
  go_wp2_with fail
  refine (rproduct_calls _ _ _ _ _ HV1'.out HV2.out (by have := sizeQ_fix f; omega) (by have := sizeQ_fix g; omega)).mono ?_
  rintro e w3 ⟨v, rfl, hv, hb⟩
  have HB3 := Lib.hid (below_next HB2.out hb)
  obtain ⟨A9, n9, c9, A10, n10, c10, rfl, HV3⟩ := hv.opened
  have H3 := Lib.hid (H0.out.step HB3.out)
  clear hv hb
  obtain ⟨e0, e1, e2⟩ := (H3.out.blk 0 rfl).c3
  obtain ⟨f0, f1, f2⟩ := (H3.out.blk 0 rfl).f3
  go_wp2_with fail
  refine And.intro HB3.out ⟨_, rfl, ?_⟩
  go_wp2_with fail
  refine NoPanic.normal ?_
  go_wp2_with fail
  exact end40 Try.results94 rfl (H3.out.blk 0 rfl) HV3.out (by omega) H3.out.2
end Go.Proofs.Ytfhambfgjigneaa
set_option linter.unusedVariables false
set_option linter.unusedSimpArgs false
namespace Go.Proofs.Ytfhambfgjigneaa
open Go.RowKit
theorem signQ_num {q : Rat} (h : wlen q.num.natAbs = 0) : q.num = 0 := by
  rcases Nat.eq_zero_or_pos q.num.natAbs with h0 | h0
  · exact Int.natAbs_eq_zero.1 h0
  · exact absurd h (Nat.ne_of_gt (wlen_pos.2 (Nat.ne_of_gt h0)))
theorem FQ.len {w : World} {A1 A2 : Option Addr} {n1 c1 n2 c2 : Nat} {s : Bool} {q : Rat} (h : FQ w (.agg #[.bool s, .slice A1 n1 c1, .slice A2 n2 c2]) q) : n1 = wlen q.num.natAbs := by
  obtain ⟨_, h1, _⟩ := FQ.parts h
  obtain ⟨A, c, xs, e, _, hx, _⟩ := RN.opened h1
  injection e with _ e _
  rw [e, hx.out]; rfl
set_option maxHeartbeats 16000000 in
set_option maxRecDepth 100000 in
theorem rsign_calls (w : World) (v : Value) (f : RawF) (h : FR w v f) : Calls Try.prog 59 #[v] w fun e w' => IPost w (signQ (fixQ f)) e w' := by
  obtain ⟨A1, n1, c1, A2, n2, c2, rfl, H⟩ := h.opened
  clear h
  obtain ⟨q, hq⟩ : ∃ q, q = fixQ f := ⟨_, rfl⟩
  rw [← hq]
  have HQF := Lib.hid hq
  clear hq
  go_enter Try.func59, Try.ntmps59
  go_wp2_with fail
  have H0 := Lib.hid (HS.one (w := w) #[.bool f.neg, .slice A1 n1 c1, .slice A2 n2 c2] 40)
  generalize w.alloc (.cells #[.bool f.neg, .slice A1 n1 c1, .slice A2 n2 c2] 40) = W0 at *
  refine (rfix_calls _ _ f (H.out.of_below H0.out.2)).mono ?_
  rintro e w1 ⟨v, rfl, hv, hb⟩
  rw [← HQF.out] at hv
  obtain ⟨A5, n5, c5, A6, n6, c6, rfl, HV⟩ := hv.opened
  have hl5 := FQ.len HV.out
  have H1 := Lib.hid (H0.out.step hb)
  obtain ⟨s, hs⟩ : ∃ s, s = negQ q := ⟨_, rfl⟩
  rw [← hs]
  have HSQ := Lib.hid hs
  clear hb hv hs HV
  obtain ⟨e0, e1, e2⟩ := (H1.out.blk 0 rfl).c3
  obtain ⟨f0, f1, f2⟩ := (H1.out.blk 0 rfl).f3
  by_cases h0 : n5 = 0
  · have q0 := eqb0 h0
    have HR : Hid (signQ q = 0) := by unfold Hid signQ; rw [if_pos (signQ_num (by rw [← hl5]; exact h0))]
    clear hl5 h0
    go_wp2_with fail
    go_ret
    exact ⟨by rw [HR.out]; rfl, below_put3 H1.out.2 (Nat.le_refl _) _ _ _⟩
  · have q0 := neb0 h0
    have hn0 : q.num ≠ 0 := fun h => h0 (by rw [hl5, h]; rfl)
    cases s with
    | true =>
      have HR : Hid (signQ q = -1) := by
        unfold Hid signQ
        rw [if_neg hn0, if_pos]
        have := HSQ.out
        unfold negQ at this
        exact of_decide_eq_true this.symm
      clear hl5 h0 hn0
      go_wp2_with fail
      go_ret
      exact ⟨by rw [HR.out]; rfl, below_put3 H1.out.2 (Nat.le_refl _) _ _ _⟩
    | false =>
      have HR : Hid (signQ q = 1) := by
        unfold Hid signQ
        rw [if_neg hn0, if_neg]
        have := HSQ.out
        unfold negQ at this
        exact of_decide_eq_false this.symm
      clear hl5 h0 hn0
      go_wp2_with fail
      go_ret
      exact ⟨by rw [HR.out]; rfl, below_put3 H1.out.2 (Nat.le_refl _) _ _ _⟩
set_option maxHeartbeats 16000000 in
set_option maxRecDepth 100000 in
theorem rint_calls (w : World) (n : Int) (h0 : -9223372036854775808 ≤ n) (h1 : n < 9223372036854775808) :
    Calls Try.prog 120 #[.int .i64 n] w fun e w' => FPost w (n : Rat) e w' := by
  have HCAP : Hid (capQ (mkRat n 1) = (n : Rat)) := by
    unfold Hid
    have e : mkRat n 1 = (n : Rat) := by simp [Rat.mkRat_one]
    rw [e]
    refine fit_cap (a := 2) ⟨?_, ?_⟩ (by decide)
    · show wlen n.natAbs ≤ 2
      exact dg_len_two.2 (by omega)
    · show wlen 1 ≤ 2
      decide
  go_enter Try.func120, Try.ntmps120
  by_cases hn : n < 0
  · have t1 : decide (n < 0) = true := decide_eq_true hn
    obtain ⟨k, hk⟩ : ∃ k : Nat, n = -((k : Int) + 1) := ⟨(-(n + 1)).toNat, by omega⟩
    have f1 : IntKind.i64.wrap (n + 1) = -(k : Int) := by rw [IntWalk.i64_in _ (by omega)]; omega
    have f2 : IntKind.i64.wrap (k : Int) = (k : Int) := IntWalk.i64_in _ (by omega)
    have f3 : IntKind.u64.wrap (k : Int) = (k : Int) := IntWalk.u64_in _ (by omega)
    have f4 : IntKind.u64.wrap ((k : Int) + 1) = ((k + 1 : Nat) : Int) := by rw [IntWalk.u64_in _ (by omega)]; omega
    have hm : k + 1 < 18446744073709551616 := by omega
    obtain ⟨m, hmk⟩ : ∃ m, k + 1 = m := ⟨_, rfl⟩
    rw [hmk] at f4 hm
    have HK : Hid (sg true m = n) := by unfold Hid sg; rw [if_pos rfl, hk, ← hmk]; omega
    have hw2 : wlen m ≤ 2 := dg_len_two.2 hm
    clear hk hmk hn
    go_wp2_with fail
    have H0 := Lib.hid (HS.one (w := w) #[.bool false, .slice none 0 0, .slice none 0 0] 40)
    generalize w.alloc (.cells #[.bool false, .slice none 0 0, .slice none 0 0] 40) = W0 at *
    refine (rwide_calls W0 m hm).mono ?_
    rintro e w1 ⟨v, rfl, hv, hb⟩
    have H1 := Lib.hid (H0.out.step hb)
    have HV := Lib.hid hv
    obtain ⟨A5, c5, l5', rfl, _, _, _⟩ := RN.opened hv
    clear hb hv
    go_wp2_with fail
    refine (rone_calls w1).mono ?_
    rintro e w2 ⟨g, rfl, hg, hb⟩
    have H2 := Lib.hid (H1.out.step hb)
    have HV2 := Lib.hid (HV.out.of_below hb)
    have HG := Lib.hid hg
    clear hb hg
    go_wp2_with fail
    refine (rlowest_q w2 _ _ true m 1 (mkRat n 1) (by rw [HK.out]) HV2.out HG.out (by omega) (by decide) (by decide)).mono ?_
    rintro e w3 ⟨v, rfl, hv, hb⟩
    rw [HCAP.out] at hv
    obtain ⟨A7, n7, c7, A8, n8, c8, rfl, HV3⟩ := hv.opened
    have H3 := Lib.hid (H2.out.step hb)
    clear hb hv
    obtain ⟨e0, e1, e2⟩ := (H3.out.blk 0 rfl).c3
    obtain ⟨f0, f1, f2⟩ := (H3.out.blk 0 rfl).f3
    go_wp2_with fail
    exact end40 Try.results120 rfl (H3.out.blk 0 rfl) HV3.out (Nat.le_refl _) H3.out.2
  · have t1 : decide (n < 0) = false := decide_eq_false hn
    obtain ⟨m, hm⟩ : ∃ m : Nat, n = (m : Int) := ⟨n.toNat, by omega⟩
    subst hm
    have f1 : IntKind.u64.wrap (m : Int) = (m : Int) := IntWalk.u64_in _ (by omega)
    have hw2 : wlen m ≤ 2 := dg_len_two.2 (by omega)
    have hm64 : m < 18446744073709551616 := by omega
    clear hn
    go_wp2_with fail
    have H0 := Lib.hid (HS.one (w := w) #[.bool false, .slice none 0 0, .slice none 0 0] 40)
    generalize w.alloc (.cells #[.bool false, .slice none 0 0, .slice none 0 0] 40) = W0 at *
    refine (rwide_calls W0 m hm64).mono ?_
    rintro e w1 ⟨v, rfl, hv, hb⟩
    have H1 := Lib.hid (H0.out.step hb)
    have HV := Lib.hid hv
    obtain ⟨A5, c5, l5', rfl, _, _, _⟩ := RN.opened hv
    clear hb hv
    go_wp2_with fail
    refine (rone_calls w1).mono ?_
    rintro e w2 ⟨g, rfl, hg, hb⟩
    have H2 := Lib.hid (H1.out.step hb)
    have HV2 := Lib.hid (HV.out.of_below hb)
    have HG := Lib.hid hg
    clear hb hg
    go_wp2_with fail
    refine (rlowest_q w2 _ _ false m 1 (mkRat m 1) rfl HV2.out HG.out (by omega) (by decide) (by decide)).mono ?_
    rintro e w3 ⟨v, rfl, hv, hb⟩
    rw [HCAP.out] at hv
    obtain ⟨A7, n7, c7, A8, n8, c8, rfl, HV3⟩ := hv.opened
    have H3 := Lib.hid (H2.out.step hb)
    clear hb hv
    obtain ⟨e0, e1, e2⟩ := (H3.out.blk 0 rfl).c3
    obtain ⟨f0, f1, f2⟩ := (H3.out.blk 0 rfl).f3
    go_wp2_with fail
    exact end40 Try.results120 rfl (H3.out.blk 0 rfl) HV3.out (Nat.le_refl _) H3.out.2
end Go.Proofs.Ytfhambfgjigneaa
set_option linter.unusedVariables false
set_option linter.unusedSimpArgs false
namespace Go.Proofs.Ytfhambfgjigneaa
open Go.RowKit
theorem ret40i {fn : Func} {p t : Tmp} {Post : Ending → World → Prop} {tmps : Array Value} {w : World} {g : Nat} {a b c r : Value} (hres : fn.results = #[.cell p 40, .tmp t]) (hp : tmps.getD p undef = .pointer (some ⟨g, 0, none⟩)) (ht : tmps.getD t undef = r) (hb : Blk w g 40 #[a, b, c])
    (hP : Post (.returned (.tuple #[.agg #[a, b, c], r])) w) : bodyPost Try.prog fn Post Exit.ret { tmps := tmps, defers := [] } w := by
  refine bodyPost_ret (v := .tuple #[.agg #[a, b, c], r]) ?_ rfl hP
  have hp' : tmps[p]?.getD undef = .pointer (some ⟨g, 0, none⟩) := by simpa using hp
  have ht' : tmps[t]?.getD undef = r := by simpa using ht
  simp [results, hres, hp', ht', asAddr, run_loadVar_row (P := Try.prog) w g 40 40 #[a, b, c] (0, 0) _ hb Try.underlying40 rfl info40]
/-- Two boxes whose contents are put anew. -/
theorem boxes_put {w W : World} {g2 g3 g4 : Nat} {x y z x' y' z' a b c a' b' c' r s u : Value} (h : HS w [(g4, 40, #[r, s, u]), (g3, 40, #[x', y', z']), (g2, 40, #[x, y, z])] W) (h2 : w.heap.size ≤ g2) (h3 : w.heap.size ≤ g3) (n23 : g2 ≠ g3) (n24 : g2 ≠ g4) (n34 : g3 ≠ g4) :
    HS w [(g4, 40, #[r, s, u]), (g3, 40, #[a', b', c']), (g2, 40, #[a, b, c])] ((((((W.setCell ⟨g2, 0, none⟩ a).setCell ⟨g2, 1, none⟩ b).setCell ⟨g2, 2, none⟩ c).setCell ⟨g3, 0, none⟩ a').setCell ⟨g3, 1, none⟩ b').setCell ⟨g3, 2, none⟩ c') := by
  have k4 := h.blk 0 rfl
  have k3 := h.blk 1 rfl
  have k2 := h.blk 2 rfl
  have e2 := k2.put3 a b c
  have e3 := ((k3.other (a := ⟨g2, 0, none⟩) n23.symm a).other (a := ⟨g2, 1, none⟩) n23.symm b).other (a := ⟨g2, 2, none⟩) n23.symm c
  have e4 := ((k4.other (a := ⟨g2, 0, none⟩) n24.symm a).other (a := ⟨g2, 1, none⟩) n24.symm b).other (a := ⟨g2, 2, none⟩) n24.symm c
  have f2 := ((e2.other (a := ⟨g3, 0, none⟩) n23 a').other (a := ⟨g3, 1, none⟩) n23 b').other (a := ⟨g3, 2, none⟩) n23 c'
  have f3 := e3.put3 a' b' c'
  have f4 := ((e4.other (a := ⟨g3, 0, none⟩) n34.symm a').other (a := ⟨g3, 1, none⟩) n34.symm b').other (a := ⟨g3, 2, none⟩) n34.symm c'
  refine ⟨fun b hb => ?_, below_put3 (below_put3 h.2 h2 _ _ _) h3 _ _ _⟩
  simp only [List.mem_cons, List.not_mem_nil, or_false] at hb
  rcases hb with rfl | rfl | rfl
  · exact f4
  · exact f3
  · exact f2
theorem ni_box {s : Bool} {A1 A2 : Option Addr} {n1 c1 n2 c2 : Nat} : ∀ u ∈ #[Value.bool s, .slice A1 n1 c1, .slice A2 n2 c2], notInt u = true := by simp [notInt]
theorem FQ.put33 {w : World} {v : Value} {q : Rat} {g2 g3 : Nat} {x y z x' y' z' a b c a' b' c' : Value} (h : FQ w v q) (n23 : g2 ≠ g3) (k2 : Blk w g2 40 #[x, y, z]) (k3 : Blk w g3 40 #[x', y', z']) (m2 : ∀ u ∈ #[x, y, z], notInt u = true) (m3 : ∀ u ∈ #[x', y', z'], notInt u = true) :
    FQ ((((((w.setCell ⟨g2, 0, none⟩ a).setCell ⟨g2, 1, none⟩ b).setCell ⟨g2, 2, none⟩ c).setCell ⟨g3, 0, none⟩ a').setCell ⟨g3, 1, none⟩ b').setCell ⟨g3, 2, none⟩ c') v q :=
  (h.put3 k2 m2 a b c).put3 (((k3.other (a := ⟨g2, 0, none⟩) n23.symm a).other (a := ⟨g2, 1, none⟩) n23.symm b).other (a := ⟨g2, 2, none⟩) n23.symm c) m3 a' b' c'
theorem fq_inv {w : World} {s : Bool} {v1 v2 : Value} {q : Rat} (h : FQ w (.agg #[.bool s, v1, v2]) q) (hq : q ≠ 0) : FQ w (.agg #[.bool s, v2, v1]) q⁻¹ := by
  obtain ⟨e, h1, h2⟩ := FQ.parts h
  subst e
  have hnz : q.num ≠ 0 := fun h => hq (Rat.num_eq_zero.1 h)
  refine ⟨v2, v1, by rw [negQ_inv], ?_, ?_⟩
  · rw [Rat.num_inv, Int.natAbs_mul, Int.natAbs_sign_of_ne_zero hnz, Nat.one_mul, Int.natAbs_natCast]; exact h2
  · rw [Rat.den_inv, if_neg hnz]; exact h1
theorem size_inv {q : Rat} (hq : q ≠ 0) : sizeQ q⁻¹ = sizeQ q := by
  have hnz : q.num ≠ 0 := fun h => hq (Rat.num_eq_zero.1 h)
  unfold sizeQ
  rw [Rat.num_inv, Int.natAbs_mul, Int.natAbs_sign_of_ne_zero hnz, Nat.one_mul, Int.natAbs_natCast, Rat.den_inv, if_neg hnz, Nat.add_comm]
def DivPost' (w : World) (p q : Rat) (e : Ending) (w' : World) : Prop := (q = 0 → e = .returned (.tuple #[.agg #[.bool false, .slice none 0 0, .slice none 0 0], .int .i64 11]) ∧ Below w.heap.size w w') ∧ (q ≠ 0 → ∃ v, e = .returned (.tuple #[v, .int .i64 0]) ∧ FQ w' v (capQ (p * q⁻¹)) ∧ Below w.heap.size w w')
set_option maxHeartbeats 16000000 in
set_option maxRecDepth 100000 in
theorem rdiv_calls (w : World) (v v2 : Value) (f g : RawF) (h : FR w v f) (h2 : FR w v2 g) : Calls Try.prog 119 #[v, v2] w fun e w' => DivPost' w (fixQ f) (fixQ g) e w' := by
  obtain ⟨A1, k1, c1, A2, k2, c2, rfl, HF⟩ := h.opened
  obtain ⟨A3, k3, c3, A4, k4, c4, rfl, HG⟩ := h2.opened
  clear h h2
  obtain ⟨p, hp⟩ : ∃ q, q = fixQ f := ⟨_, rfl⟩
  obtain ⟨q, hq⟩ : ∃ q, q = fixQ g := ⟨_, rfl⟩
  have hps : sizeQ p ≤ 4096 := by rw [hp]; exact sizeQ_fix f
  have hqs : sizeQ q ≤ 4096 := by rw [hq]; exact sizeQ_fix g
  rw [← hp, ← hq]
  have HP := Lib.hid hp
  have HQ := Lib.hid hq
  clear hp hq
  go_enter Try.func119, Try.ntmps119
  go_wp2_with fail
  have H0 := Lib.hid (HS.three (w := w) #[.bool f.neg, .slice A1 k1 c1, .slice A2 k2 c2] #[.bool g.neg, .slice A3 k3 c3, .slice A4 k4 c4] #[.bool false, .slice none 0 0, .slice none 0 0] 40 40 40)
  generalize ((w.alloc (.cells #[.bool f.neg, .slice A1 k1 c1, .slice A2 k2 c2] 40)).alloc (.cells #[.bool g.neg, .slice A3 k3 c3, .slice A4 k4 c4] 40)).alloc (.cells #[.bool false, .slice none 0 0, .slice none 0 0] 40) = W0 at *
  obtain ⟨x0, x1, x2⟩ := (H0.out.blk 2 rfl).c3
  obtain ⟨y0, y1, y2⟩ := (H0.out.blk 1 rfl).c3
  have hlt0 := (H0.out.blk 0 rfl).lt
  have hlt1 := (H0.out.blk 1 rfl).lt
  have hlt2 := (H0.out.blk 2 rfl).lt
  refine wp_chainF (l := [_, _, _, _, _, _]) (S := Below W0.heap.size W0) 4 [([0, 2], 1), ([], 3)] [] (by kernel_rfl) (by kernel_rfl) (by kernel_rfl) rfl (Below.drew (Below.refl _ _)) ?_
  refine ⟨?_, _, ?_, rfl, ?_⟩
  rotate_left
  · repeat (refine ⟨_, ?_, rfl, Or.inl ⟨by rfl, ?_⟩, ?_⟩; rotate_left; focus (intro W hW; have hcW := (bcell hW).1; clear hW; go_simp; try with_reducible rfl); (try simp only [Act.put, List.setIfInBounds_toArray, List.set_cons_zero, List.set_cons_succ]))
    exact rfl
  have HB0 : Hid (Below W0.heap.size W0 W0.drew) := Below.drew (Below.refl _ _)
  have HB00 := Lib.hid (below_next H0.out.2 HB0.out)
  go_wp2_with fail
  refine (rfix_calls _ _ f (HF.out.of_below HB00.out)).mono ?_
  rintro e w1 ⟨v, rfl, hv, hb⟩
  rw [← HP.out] at hv
  have HB1 := Lib.hid (below_next HB0.out hb)
  have HB01 := Lib.hid (below_next H0.out.2 HB1.out)
  obtain ⟨A5, n5, c5, A6, n6, c6, rfl, HV1⟩ := hv.opened
  clear hv hb
  go_wp2_with fail
  refine And.intro HB1.out ⟨_, _, rfl, rfl, ?_⟩
  go_wp2_with fail
  refine (rfix_calls _ _ g (HG.out.of_below HB01.out)).mono ?_
  rintro e w2 ⟨v, rfl, hv, hb⟩
  rw [← HQ.out] at hv
  have HB2 := Lib.hid (below_next HB1.out hb)
  have HV1' := Lib.hid (HV1.out.of_below hb)
  obtain ⟨A7, n7, c7, A8, n8, c8, rfl, HV2⟩ := hv.opened
  have H2 := Lib.hid (H0.out.step HB2.out)
  obtain ⟨sp, hsp⟩ : ∃ s, s = negQ p := ⟨_, rfl⟩
  obtain ⟨sq, hsq⟩ : ∃ s, s = negQ q := ⟨_, rfl⟩
  rw [← hsp] at HV1' ⊢
  rw [← hsq] at HV2 ⊢
  have HL7 : Hid (n7 = wlen q.num.natAbs) := by have := HV2.out; exact FQ.len this
  clear hv hb hsp hsq
  obtain ⟨x0, x1, x2⟩ := (H2.out.blk 2 rfl).c3
  obtain ⟨y0, y1, y2⟩ := (H2.out.blk 1 rfl).c3
  obtain ⟨f0, f1, f2⟩ := (H2.out.blk 2 rfl).f3
  obtain ⟨f3, f4, f5⟩ := (H2.out.blk 1 rfl).f3
  go_wp2_with fail
  refine And.intro HB2.out ⟨_, rfl, ?_⟩
  go_wp2_with fail
  refine NoPanic.normal ?_
  have H3 := Lib.hid (boxes_put (a := .bool sp) (b := .slice A5 n5 c5) (c := .slice A6 n6 c6) (a' := .bool sq) (b' := .slice A7 n7 c7) (c' := .slice A8 n8 c8) H2.out (by omega) (by omega) (by omega) (by omega) (by omega))
  have HP3 := Lib.hid (HV1'.out.put33 (a := .bool sp) (b := .slice A5 n5 c5) (c := .slice A6 n6 c6) (a' := .bool sq) (b' := .slice A7 n7 c7) (c' := .slice A8 n8 c8) (by omega) (H2.out.blk 2 rfl) (H2.out.blk 1 rfl) ni_box ni_box)
  have HQ3 := Lib.hid (HV2.out.put33 (a := .bool sp) (b := .slice A5 n5 c5) (c := .slice A6 n6 c6) (a' := .bool sq) (b' := .slice A7 n7 c7) (c' := .slice A8 n8 c8) (by omega) (H2.out.blk 2 rfl) (H2.out.blk 1 rfl) ni_box ni_box)
  clear x0 x1 x2 y0 y1 y2 f0 f1 f2 f3 f4 f5 hlt0 hlt1 hlt2
  generalize (((((w2.setCell ⟨w.heap.size, 0, none⟩ (.bool sp)).setCell ⟨w.heap.size, 1, none⟩ (.slice A5 n5 c5)).setCell ⟨w.heap.size, 2, none⟩ (.slice A6 n6 c6)).setCell ⟨w.heap.size + 1, 0, none⟩ (.bool sq)).setCell ⟨w.heap.size + 1, 1, none⟩ (.slice A7 n7 c7)).setCell ⟨w.heap.size + 1, 2, none⟩ (.slice A8 n8 c8) = W3 at *
  obtain ⟨x0, x1, x2⟩ := (H3.out.blk 2 rfl).c3
  obtain ⟨y0, y1, y2⟩ := (H3.out.blk 1 rfl).c3
  obtain ⟨e0, e1, e2⟩ := (H3.out.blk 0 rfl).c3
  obtain ⟨f0, f1, f2⟩ := (H3.out.blk 0 rfl).f3
  by_cases h0 : n7 = 0
  · have q0 := eqb0 h0
    have hq0 : q = 0 := Rat.num_eq_zero.1 (signQ_num (by rw [← HL7.out]; exact h0))
    have HQ0 := Lib.hid hq0
    clear h0 hq0
    go_wp2_with fail
    refine ret40i Try.results119 rfl rfl ((H3.out.blk 0 rfl).put3 _ _ _) ⟨fun _ => ⟨rfl, below_put3 H3.out.2 (by omega) _ _ _⟩, fun h => absurd HQ0.out h⟩
  · have q0 := neb0 h0
    have hq0 : q ≠ 0 := by
      rintro rfl
      exact h0 (by rw [HL7.out]; rfl)
    have HQ0 := Lib.hid hq0
    clear h0 hq0
    go_wp2_with fail
    refine (rproduct_calls _ _ _ p q⁻¹ HP3.out (fq_inv HQ3.out HQ0.out) (by omega) (by rw [size_inv HQ0.out]; omega)).mono ?_
    rintro e w4 ⟨v, rfl, hv, hb⟩
    obtain ⟨A9, n9, c9, A10, n10, c10, rfl, HV4⟩ := hv.opened
    have H4 := Lib.hid (H3.out.step hb)
    clear hv hb
    obtain ⟨e0, e1, e2⟩ := (H4.out.blk 0 rfl).c3
    obtain ⟨f0, f1, f2⟩ := (H4.out.blk 0 rfl).f3
    go_wp2_with fail
    refine ret40i Try.results119 rfl rfl ((H4.out.blk 0 rfl).put3 _ _ _) ⟨fun h => absurd h HQ0.out, fun _ => ⟨_, rfl, HV4.out.put3 (H4.out.blk 0 rfl) ni40 _ _ _, below_put3 H4.out.2 (by omega) _ _ _⟩⟩
end Go.Proofs.Ytfhambfgjigneaa
set_option linter.unusedVariables false
set_option linter.unusedSimpArgs false
namespace Go.Proofs.Ytfhambfgjigneaa
open Go.RowKit
theorem rat_inv_one : ((1 : Rat))⁻¹ = 1 := by
  have h := Rat.mul_inv_cancel (1 : Rat) (by decide)
  rwa [Rat.one_mul] at h
theorem size_int (n : Int) (h0 : -9223372036854775808 ≤ n) (h1 : n < 9223372036854775808) : sizeQ (n : Rat) ≤ 3 := by
  unfold sizeQ
  have a : wlen n.natAbs ≤ 2 := dg_len_two.2 (by omega)
  have b : wlen 1 = 1 := by decide
  show wlen n.natAbs + wlen 1 ≤ 3
  omega
set_option maxHeartbeats 16000000 in
set_option maxRecDepth 100000 in
theorem rmake_calls (w : World) (n : Int) (h0 : -9223372036854775808 ≤ n) (h1 : n < 9223372036854775808) :
    Calls Try.prog 92 #[.int .i64 n, .int .i64 1] w fun e w' => ∃ v, e = .returned (.tuple #[v, .int .i64 0]) ∧ FQ w' v (n : Rat) ∧ Below w.heap.size w w' := by
  go_enter Try.func92, Try.ntmps92
  go_wp2_with fail
  have H0 := Lib.hid (HS.one (w := w) #[.bool false, .slice none 0 0, .slice none 0 0] 40)
  generalize w.alloc (.cells #[.bool false, .slice none 0 0, .slice none 0 0] 40) = W0 at *
  refine (rint_calls W0 n h0 h1).mono ?_
  rintro e w1 ⟨v, rfl, hv, hb⟩
  have H1 := Lib.hid (H0.out.step hb)
  have HV := Lib.hid hv
  clear hv hb
  go_wp2_with fail
  refine (rint_calls w1 1 (by omega) (by omega)).mono ?_
  rintro e w2 ⟨v2, rfl, hv, hb⟩
  have H2 := Lib.hid (H1.out.step hb)
  have HV1 := Lib.hid (HV.out.of_below hb)
  have HV2 := Lib.hid hv
  clear hv hb
  go_wp2_with fail
  refine (rdiv_calls w2 v v2 (rawQ (n : Rat)) (rawQ ((1 : Int) : Rat)) (FR.of_fq HV1.out (by have := size_int n h0 h1; omega)) (FR.of_fq HV2.out (by have := size_int 1 (by omega) (by omega); omega))).mono ?_
  rintro e w3 ⟨_, hd⟩
  rw [fixQ_raw (n : Rat) (by have := size_int n h0 h1; omega), fixQ_raw ((1 : Int) : Rat) (by have := size_int 1 (by omega) (by omega); omega)] at hd
  have hone : ((1 : Int) : Rat) = 1 := rfl
  obtain ⟨v3, rfl, hv, hb⟩ := hd (by rw [hone]; decide)
  have e1 : capQ ((n : Rat) * (((1 : Int) : Rat))⁻¹) = (n : Rat) := by
    rw [hone, show ((1 : Rat))⁻¹ = 1 from rat_inv_one, Rat.mul_one]
    unfold capQ
    rw [if_pos (by have := size_int n h0 h1; omega)]
  rw [e1] at hv
  have HE := Lib.hid e1
  clear e1 hone hd
  obtain ⟨A5, n5, c5, A6, n6, c6, rfl, HV3⟩ := hv.opened
  have H3 := Lib.hid (H2.out.step hb)
  clear hv hb
  obtain ⟨f0, f1, f2⟩ := (H3.out.blk 0 rfl).f3
  obtain ⟨x0, x1, x2⟩ := (H3.out.blk 0 rfl).c3
  go_wp2_with fail
  refine ret40i Try.results92 rfl rfl ((H3.out.blk 0 rfl).put3 _ _ _) ⟨_, rfl, HV3.out.put3 (H3.out.blk 0 rfl) ni40 _ _ _, below_put3 H3.out.2 (by omega) _ _ _⟩
end Go.Proofs.Ytfhambfgjigneaa
set_option linter.unusedVariables false
set_option linter.unusedSimpArgs false
namespace Go.Proofs.Ytfhambfgjigneaa
open Go.RowKit
set_option maxHeartbeats 16000000 in
set_option maxRecDepth 100000 in
theorem rwhole_calls (w : World) (n : Int) (h0 : -9223372036854775808 ≤ n) (h1 : n < 9223372036854775808) :
    Calls Try.prog 56 #[.int .i64 n] w fun e w' => FPost w (n : Rat) e w' := by
  go_enter Try.func56, Try.ntmps56
  go_wp2_with fail
  have H0 := Lib.hid (HS.one (w := w) #[.bool false, .slice none 0 0, .slice none 0 0] 40)
  generalize w.alloc (.cells #[.bool false, .slice none 0 0, .slice none 0 0] 40) = W0 at *
  refine (rmake_calls W0 n h0 h1).mono ?_
  rintro e w1 ⟨v, rfl, hv, hb⟩
  obtain ⟨A5, n5, c5, A6, n6, c6, rfl, HV⟩ := hv.opened
  have H1 := Lib.hid (H0.out.step hb)
  have HB2 := Lib.hid (below_new w1 (.cells #[.bool (negQ (n : Rat)), .slice A5 n5 c5, .slice A6 n6 c6] 40))
  have H2 := Lib.hid (H1.out.step HB2.out)
  have HV2 := Lib.hid (HV.of_below HB2.out)
  clear hv hb HV
  obtain ⟨f0, f1, f2⟩ := (H2.out.blk 0 rfl).f3
  obtain ⟨x0, x1, x2⟩ := (H2.out.blk 0 rfl).c3
  go_wp2_with fail
  exact end40 Try.results56 rfl (H2.out.blk 0 rfl) HV2.out (Nat.le_refl _) H2.out.2
end Go.Proofs.Ytfhambfgjigneaa
set_option linter.unusedVariables false
set_option linter.unusedSimpArgs false
namespace Go.Proofs.Ytfhambfgjigneaa
open Go.RowKit
theorem negQ_not {p : Rat} (hp : p ≠ 0) : negQ (-p) = !negQ p := by
  have hnz : p.num ≠ 0 := fun h => hp (Rat.num_eq_zero.1 h)
  unfold negQ
  rw [Rat.neg_num]
  by_cases h : p.num < 0
  · rw [decide_eq_true h, decide_eq_false (by omega)]; rfl
  · rw [decide_eq_false h, decide_eq_true (by omega)]; rfl
theorem fq_neg {w : World} {s : Bool} {v1 v2 : Value} {p : Rat} (h : FQ w (.agg #[.bool s, v1, v2]) p) (hp : p ≠ 0) : FQ w (.agg #[.bool (!s), v1, v2]) (-p) := by
  obtain ⟨e, h1, h2⟩ := FQ.parts h
  subst e
  refine ⟨v1, v2, by rw [negQ_not hp], ?_, ?_⟩
  · rw [Rat.neg_num, Int.natAbs_neg]; exact h1
  · rw [Rat.neg_den]; exact h2
theorem HS.swap {w W : World} {a b : Nat × Nat × Array Value} (h : HS w [a, b] W) : HS w [b, a] W :=
  ⟨fun c hm => h.1 c (by
    rcases List.mem_cons.1 hm with e | e
    · rw [e]; exact List.mem_cons_of_mem _ (List.mem_singleton.2 rfl)
    · rw [List.mem_singleton.1 e]; exact List.mem_cons_self), h.2⟩
set_option maxHeartbeats 16000000 in
set_option maxRecDepth 100000 in
theorem rneg_calls (w : World) (v : Value) (f : RawF) (h : FR w v f) : Calls Try.prog 45 #[v] w fun e w' => FPost w (-(fixQ f)) e w' := by
  obtain ⟨A1, n1, c1, A2, n2, c2, rfl, H⟩ := h.opened
  clear h
  obtain ⟨p, hp⟩ : ∃ q, q = fixQ f := ⟨_, rfl⟩
  have hps : sizeQ p ≤ 4096 := by rw [hp]; exact sizeQ_fix f
  rw [← hp]
  have HP := Lib.hid hp
  clear hp
  go_enter Try.func45, Try.ntmps45
  go_wp2_with fail
  have H0 := Lib.hid (HS.two (w := w) #[.bool f.neg, .slice A1 n1 c1, .slice A2 n2 c2] #[.bool false, .slice none 0 0, .slice none 0 0] 40 40)
  generalize (w.alloc (.cells #[.bool f.neg, .slice A1 n1 c1, .slice A2 n2 c2] 40)).alloc (.cells #[.bool false, .slice none 0 0, .slice none 0 0] 40) = W0 at *
  refine (rfix_calls _ _ f (H.out.of_below H0.out.2)).mono ?_
  rintro e w1 ⟨v, rfl, hv, hb⟩
  rw [← HP.out] at hv
  obtain ⟨A5, n5, c5, A6, n6, c6, rfl, HV⟩ := hv.opened
  have H1 := Lib.hid (H0.out.step hb)
  have HL : Hid (n5 = wlen p.num.natAbs) := by have := HV.out; exact FQ.len this
  obtain ⟨sp, hsp⟩ : ∃ s, s = negQ p := ⟨_, rfl⟩
  rw [← hsp] at HV ⊢
  have HSP := Lib.hid hsp
  clear hb hv hsp
  obtain ⟨x0, x1, x2⟩ := (H1.out.blk 1 rfl).c3
  obtain ⟨f0, f1, f2⟩ := (H1.out.blk 1 rfl).f3
  obtain ⟨y0, y1, y2⟩ := (H1.out.blk 0 rfl).c3
  obtain ⟨g0, g1, g2⟩ := (H1.out.blk 0 rfl).f3
  by_cases h0 : n5 = 0
  · have q0 := eqb0 h0
    have HQ0 := Lib.hid h0
    clear h0
    go_wp2_with fail
    have hz : p = 0 := Rat.num_eq_zero.1 (signQ_num (by rw [← HL.out]; exact HQ0.out))
    have HV3 := HV.put3 (H1.out.blk 1 rfl) ni_box (.bool sp) (.slice A5 n5 c5) (.slice A6 n6 c6)
    have e0 : p = -p := by rw [hz, Rat.neg_zero]
    rw [e0] at HV3
    have H3 := (HS.put3 (cs := #[]) H1.out.swap (Nat.le_refl _) (by intro b hb; rw [List.mem_singleton.1 hb]; exact Nat.succ_ne_self _) (.bool sp) (.slice A5 n5 c5) (.slice A6 n6 c6)).swap
    exact end40 Try.results45 rfl (H3.blk 0 rfl) HV3 (by omega) H3.2
  · have q0 := neb0 h0
    have HQ0 := Lib.hid h0
    clear h0
    go_wp2_with fail
    have hz : p ≠ 0 := by
      rintro rfl
      exact HQ0.out (by rw [HL.out]; rfl)
    have HV3 := fq_neg (HV.put3 (H1.out.blk 1 rfl) ni_box (.bool sp) (.slice A5 n5 c5) (.slice A6 n6 c6)) hz
    have H3 := (HS.put3 (cs := #[]) H1.out.swap (Nat.le_refl _) (by intro b hb; rw [List.mem_singleton.1 hb]; exact Nat.succ_ne_self _) (.bool sp) (.slice A5 n5 c5) (.slice A6 n6 c6)).swap
    exact end40 Try.results45 rfl (H3.blk 0 rfl) HV3 (by omega) H3.2
end Go.Proofs.Ytfhambfgjigneaa

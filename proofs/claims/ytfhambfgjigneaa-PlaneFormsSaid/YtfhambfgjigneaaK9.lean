/- Contracts of Go functions that the statement reaches, proved by walking their text, and plain laws over them (texts put together). -/
import Derived.Test.YtfhambfgjigneaaK8
import Derived.Test.YtfhambfgjigneaaK5
set_option linter.unusedVariables false
set_option linter.unusedSimpArgs false
namespace Go.Proofs.Ytfhambfgjigneaa
open Go.RowKit
def refOrd (a b : Rat) : Int := if negQ a ≠ negQ b then (if negQ a then -1 else 1) else if negQ a then -(cmpI (a.num.natAbs * b.den) (b.num.natAbs * a.den)) else cmpI (a.num.natAbs * b.den) (b.num.natAbs * a.den)
theorem refOrd_eq (a b : Rat) : refOrd a b = ordQ a b := by
  have ha := a.den_nz
  have hb := b.den_nz
  have hA : 0 < (a.den : Int) := by omega
  have hB : 0 < (b.den : Int) := by omega
  have heq : a = b ↔ a.num * b.den = b.num * a.den := Rat.eq_iff_mul_eq_mul
  have hlt := Rat.lt_iff a b
  have na : a.num = sg (negQ a) a.num.natAbs := (sg_num a).symm
  have nb : b.num = sg (negQ b) b.num.natAbs := (sg_num b).symm
  obtain ⟨x, hx⟩ : ∃ x, x = a.num.natAbs * b.den := ⟨_, rfl⟩
  obtain ⟨y, hy⟩ : ∃ y, y = b.num.natAbs * a.den := ⟨_, rfl⟩
  have hx0 : x = 0 ↔ a.num = 0 := by rw [hx, Nat.mul_eq_zero]; constructor <;> intro h <;> omega
  have hy0 : y = 0 ↔ b.num = 0 := by rw [hy, Nat.mul_eq_zero]; constructor <;> intro h <;> omega
  have ex : a.num * b.den = if a.num < 0 then -(x : Int) else (x : Int) := by
    rw [hx]
    by_cases h : a.num < 0
    · rw [if_pos h, Int.natCast_mul, ← Int.neg_mul, show -((a.num.natAbs : Nat) : Int) = a.num by omega]
    · rw [if_neg h, Int.natCast_mul, show ((a.num.natAbs : Nat) : Int) = a.num by omega]
  have ey : b.num * a.den = if b.num < 0 then -(y : Int) else (y : Int) := by
    rw [hy]
    by_cases h : b.num < 0
    · rw [if_pos h, Int.natCast_mul, ← Int.neg_mul, show -((b.num.natAbs : Nat) : Int) = b.num by omega]
    · rw [if_neg h, Int.natCast_mul, show ((b.num.natAbs : Nat) : Int) = b.num by omega]
  unfold refOrd ordQ
  rw [← hx, ← hy]
  simp only [heq, hlt]
  rw [ex, ey]
  clear ex ey heq hlt na nb hx hy
  unfold cmpI negQ
  by_cases h1 : a.num = 0 <;> by_cases h2 : a.num < 0 <;> by_cases h3 : b.num = 0 <;> by_cases h4 : b.num < 0 <;> simp only [h1, h2, h3, h4, if_true, if_false, decide_true, decide_false, Int.lt_irrefl, Bool.false_eq_true, ne_eq, not_true_eq_false] <;> (try omega) <;> (repeat split) <;> (first | omega | (simp_all <;> omega) | (simp_all; done))
set_option maxHeartbeats 16000000 in
set_option maxRecDepth 100000 in
theorem rcmp_calls (w : World) (v v2 : Value) (f g : RawF) (h : FR w v f) (h2 : FR w v2 g) : Calls Try.prog 22 #[v, v2] w fun e w' => IPost w (ordQ (fixQ f) (fixQ g)) e w' := by
  obtain ⟨A1, k1, c1, A2, k2, c2, rfl, HF⟩ := h.opened
  obtain ⟨A3, k3, c3, A4, k4, c4, rfl, HG⟩ := h2.opened
  clear h h2
  obtain ⟨p, hp⟩ : ∃ q, q = fixQ f := ⟨_, rfl⟩
  obtain ⟨q, hq⟩ : ∃ q, q = fixQ g := ⟨_, rfl⟩
  have hps : sizeQ p ≤ 4096 := by rw [hp]; exact sizeQ_fix f
  have hqs : sizeQ q ≤ 4096 := by rw [hq]; exact sizeQ_fix g
  rw [← hp, ← hq, ← refOrd_eq]
  have HP := Lib.hid hp
  have HQ := Lib.hid hq
  clear hp hq
  go_enter Try.func22, Try.ntmps22
  go_wp2_with fail
  have H0 := Lib.hid (HS.two (w := w) #[.bool f.neg, .slice A1 k1 c1, .slice A2 k2 c2] #[.bool g.neg, .slice A3 k3 c3, .slice A4 k4 c4] 40 40)
  generalize (w.alloc (.cells #[.bool f.neg, .slice A1 k1 c1, .slice A2 k2 c2] 40)).alloc (.cells #[.bool g.neg, .slice A3 k3 c3, .slice A4 k4 c4] 40) = W0 at *
  obtain ⟨x0, x1, x2⟩ := (H0.out.blk 1 rfl).c3
  obtain ⟨y0, y1, y2⟩ := (H0.out.blk 0 rfl).c3
  have hlt0 := (H0.out.blk 0 rfl).lt
  have hlt1 := (H0.out.blk 1 rfl).lt
  refine wp_chainF (l := [_, _, _, _, _, _]) (S := Below W0.heap.size W0) 4 [([0, 2], 1), ([], 3)] [] (by kernel_rfl) (by kernel_rfl) (by kernel_rfl) rfl (Below.drew (Below.refl _ _)) ?_
  refine ⟨?_, _, ?_, rfl, ?_⟩
  rotate_left
  · repeat (refine ⟨_, ?_, rfl, Or.inl ⟨by rfl, ?_⟩, ?_⟩; rotate_left; focus (intro W hW; have hcW := (bcell hW).1; clear hW; go_simp; try with_reducible rfl); (try simp only [Act.put, List.setIfInBounds_toArray, List.set_cons_zero, List.set_cons_succ]))
    exact rfl
  have HB0 : Hid (Below W0.heap.size W0 W0.drew) := Below.drew (Below.refl _ _)
  have HB00 := Lib.hid (below_next H0.out.2 HB0.out)
  go_wp2_with fail
  refine (rfix_calls _ _ f (HF.out.of_below HB00.out)).mono ?_
  rintro e w1 ⟨v, rfl, hv, hb⟩
  rw [← HP.out] at hv
  have HB1 := Lib.hid (below_next HB0.out hb)
  have HB01 := Lib.hid (below_next H0.out.2 HB1.out)
  obtain ⟨A5, n5, c5, A6, n6, c6, rfl, HV1⟩ := hv.opened
  clear hv hb
  go_wp2_with fail
  refine And.intro HB1.out ⟨_, _, rfl, rfl, ?_⟩
  go_wp2_with fail
  refine (rfix_calls _ _ g (HG.out.of_below HB01.out)).mono ?_
  rintro e w2 ⟨v, rfl, hv, hb⟩
  rw [← HQ.out] at hv
  have HB2 := Lib.hid (below_next HB1.out hb)
  have HV1' := Lib.hid (HV1.out.of_below hb)
  obtain ⟨A7, n7, c7, A8, n8, c8, rfl, HV2⟩ := hv.opened
  have H2 := Lib.hid (H0.out.step HB2.out)
  obtain ⟨sp, hsp⟩ : ∃ s, s = negQ p := ⟨_, rfl⟩
  obtain ⟨sq, hsq⟩ : ∃ s, s = negQ q := ⟨_, rfl⟩
  rw [← hsp] at HV1' ⊢
  rw [← hsq] at HV2 ⊢
  have HSP := Lib.hid hsp
  have HSQ := Lib.hid hsq
  clear hv hb hsp hsq
  obtain ⟨x0, x1, x2⟩ := (H2.out.blk 1 rfl).c3
  obtain ⟨y0, y1, y2⟩ := (H2.out.blk 0 rfl).c3
  obtain ⟨f0, f1, f2⟩ := (H2.out.blk 1 rfl).f3
  obtain ⟨f3, f4, f5⟩ := (H2.out.blk 0 rfl).f3
  go_wp2_with fail
  refine And.intro HB2.out ⟨_, rfl, ?_⟩
  go_wp2_with fail
  refine NoPanic.normal ?_
  have H3a := Lib.hid (HS.put3 (cs := #[]) H2.out.swap (Nat.le_refl _) (by intro b hb; rw [List.mem_singleton.1 hb]; exact Nat.succ_ne_self _) (.bool sp) (.slice A5 n5 c5) (.slice A6 n6 c6))
  have HP3a := Lib.hid (HV1'.out.put3 (H2.out.blk 1 rfl) ni_box (.bool sp) (.slice A5 n5 c5) (.slice A6 n6 c6))
  have HQ3a := Lib.hid (HV2.out.put3 (H2.out.blk 1 rfl) ni_box (.bool sp) (.slice A5 n5 c5) (.slice A6 n6 c6))
  have H3 := Lib.hid (HS.put3 (cs := #[]) H3a.out.swap (Nat.le_succ _) (by intro b hb; rw [List.mem_singleton.1 hb]; exact (Nat.succ_ne_self _).symm) (.bool sq) (.slice A7 n7 c7) (.slice A8 n8 c8))
  have HP3 := Lib.hid (HP3a.out.put3 (H3a.out.blk 1 rfl) ni_box (.bool sq) (.slice A7 n7 c7) (.slice A8 n8 c8))
  have HQ3 := Lib.hid (HQ3a.out.put3 (H3a.out.blk 1 rfl) ni_box (.bool sq) (.slice A7 n7 c7) (.slice A8 n8 c8))
  clear x0 x1 x2 y0 y1 y2 f0 f1 f2 f3 f4 f5 hlt0 hlt1 H3a HP3a HQ3a
  generalize (((((w2.setCell ⟨w.heap.size, 0, none⟩ (.bool sp)).setCell ⟨w.heap.size, 1, none⟩ (.slice A5 n5 c5)).setCell ⟨w.heap.size, 2, none⟩ (.slice A6 n6 c6)).setCell ⟨w.heap.size + 1, 0, none⟩ (.bool sq)).setCell ⟨w.heap.size + 1, 1, none⟩ (.slice A7 n7 c7)).setCell ⟨w.heap.size + 1, 2, none⟩ (.slice A8 n8 c8) = W3 at *
  obtain ⟨x0, x1, x2⟩ := (H3.out.blk 1 rfl).c3
  obtain ⟨y0, y1, y2⟩ := (H3.out.blk 0 rfl).c3
  by_cases hne : sp = sq
  · subst hne
    have hl1 : wlen p.num.natAbs ≤ 4096 := by unfold sizeQ at hps; omega
    have hl2 : wlen p.den ≤ 4096 := by unfold sizeQ at hps; omega
    have hl3 : wlen q.num.natAbs ≤ 4096 := by unfold sizeQ at hqs; omega
    have hl4 : wlen q.den ≤ 4096 := by unfold sizeQ at hqs; omega
    have R1 := Lib.hid (FQ.parts HP3.out).2.1
    have R2 := Lib.hid (FQ.parts HP3.out).2.2
    have R3 := Lib.hid (FQ.parts HQ3.out).2.1
    have R4 := Lib.hid (FQ.parts HQ3.out).2.2
    have HREF : Hid (refOrd p q = if sp = true then -(cmpI (p.num.natAbs * q.den) (q.num.natAbs * p.den)) else cmpI (p.num.natAbs * q.den) (q.num.natAbs * p.den)) := by
      unfold Hid refOrd
      rw [← HSP.out, ← HSQ.out, if_neg (fun h => h rfl)]
    have m1 := wlen_mul p.num.natAbs q.den
    have m2 := wlen_mul q.num.natAbs p.den
    go_wp2_with fail
    refine wp_chainF (l := [_, _, _, _, _, _, _, _, _, _, _, _]) (S := Below W3.heap.size W3) 11 [([0, 1, 2, 3, 5, 6, 7, 8], 4), ([], 9), ([], 10)] [] (by kernel_rfl) (by kernel_rfl) (by kernel_rfl) rfl (Below.drew (Below.refl _ _)) ?_
    have hlt0 := (H3.out.blk 0 rfl).lt
    have hlt1 := (H3.out.blk 1 rfl).lt
    refine ⟨?_, _, ?_, rfl, ?_⟩
    rotate_left
    · repeat (refine ⟨_, ?_, rfl, Or.inl ⟨by rfl, ?_⟩, ?_⟩; rotate_left; focus (intro W hW; have hcW := (bcell hW).1; clear hW; go_simp; try with_reducible rfl); (try simp only [Act.put, List.setIfInBounds_toArray, List.set_cons_zero, List.set_cons_succ]))
      exact rfl
    have HBd : Hid (Below W3.heap.size W3 W3.drew) := Below.drew (Below.refl _ _)
    clear x0 x1 x2 y0 y1 y2
    go_wp2_with fail
    refine (rtimes_calls _ _ _ p.num.natAbs q.den (R1.out.of_below HBd.out) (R4.out.of_below HBd.out) (by omega) (by omega)).mono ?_
    rintro e w4 ⟨v, rfl, hv, hb⟩
    have HB4 := Lib.hid (below_next HBd.out hb)
    have HV4 := Lib.hid hv
    obtain ⟨B5, d5, l5', rfl, _, _, _⟩ := RN.opened hv
    clear hv hb
    go_wp2_with fail
    refine And.intro HB4.out ⟨_, _, rfl, rfl, ?_⟩
    go_wp2_with fail
    refine (rtimes_calls _ _ _ q.num.natAbs p.den (R3.out.of_below HB4.out) (R2.out.of_below HB4.out) (by omega) (by omega)).mono ?_
    rintro e w5 ⟨v, rfl, hv, hb⟩
    have HB5 := Lib.hid (below_next HB4.out hb)
    have HV5 := Lib.hid (HV4.out.of_below hb)
    have HV6 := Lib.hid hv
    obtain ⟨B6, d6, l6', rfl, _, _, _⟩ := RN.opened hv
    clear hv hb
    go_wp2_with fail
    refine And.intro HB5.out ⟨_, _, rfl, rfl, ?_⟩
    go_wp2_with fail
    refine (rorder_calls _ _ _ _ _ HV5.out HV6.out (by omega) (by omega)).mono ?_
    rintro e w6 ⟨rfl, hb⟩
    have HB6 := Lib.hid (below_next HB5.out hb)
    have H6 := Lib.hid (H3.out.step HB6.out)
    clear hb
    obtain ⟨x0, x1, x2⟩ := (H6.out.blk 1 rfl).c3
    obtain ⟨y0, y1, y2⟩ := (H6.out.blk 0 rfl).c3
    obtain ⟨c, hc⟩ : ∃ c, c = cmpI (p.num.natAbs * q.den) (q.num.natAbs * p.den) := ⟨_, rfl⟩
    rw [← hc] at HREF ⊢
    have hcb : -1 ≤ c ∧ c ≤ 1 := by
      rw [hc]
      unfold cmpI
      split
      · omega
      · split <;> omega
    have hc1 := hcb.1
    have hc2 := hcb.2
    clear hc hcb
    go_wp2_with fail
    refine And.intro HB6.out ⟨_, rfl, ?_⟩
    go_wp2_with fail
    refine NoPanic.normal ?_
    cases sp with
    | true =>
      go_wp2_with fail
      go_ret
      exact ⟨by rw [HREF.out]; rfl, H6.out.2⟩
    | false =>
      go_wp2_with fail
      go_ret
      exact ⟨by rw [HREF.out]; rfl, H6.out.2⟩
  · have t1 : (sp != sq) = true := by simpa using hne
    have hraw : refOrd p q = if sp = true then -1 else 1 := by
      unfold refOrd
      rw [← HSP.out, ← HSQ.out, if_pos hne]
    have HRAW := Lib.hid hraw
    have hq' : sq = !sp := by cases sp <;> cases sq <;> simp_all
    subst hq'
    clear hraw hne t1
    cases sp with
    | true =>
      simp only [Bool.not_true] at *
      go_wp2_with fail
      go_ret
      exact ⟨by rw [HRAW.out]; rfl, H3.out.2⟩
    | false =>
      simp only [Bool.not_false] at *
      go_wp2_with fail
      go_ret
      exact ⟨by rw [HRAW.out]; rfl, H3.out.2⟩
end Go.Proofs.Ytfhambfgjigneaa
set_option linter.unusedVariables false
set_option linter.unusedSimpArgs false
namespace Go.Proofs.Ytfhambfgjigneaa
open Go.RowKit
/-- A number that a function keeps in a block of its own, as a fraction of the interface. -/
def AccF (W : World) (g : Nat) (q : Rat) : Prop := ∃ A1 n1 c1 A2 n2 c2, Blk W g 40 #[.bool (negQ q), .slice A1 n1 c1, .slice A2 n2 c2] ∧ FQ W (.agg #[.bool (negQ q), .slice A1 n1 c1, .slice A2 n2 c2]) q
theorem AccF.step {W W' : World} {g : Nat} {q : Rat} (h : AccF W g q) (hb : Below W.heap.size W W') : AccF W' g q := by
  obtain ⟨A1, n1, c1, A2, n2, c2, h1, h2⟩ := h
  exact ⟨A1, n1, c1, A2, n2, c2, h1.below hb h1.lt, h2.of_below hb⟩
theorem AccF.put {W : World} {g : Nat} {q p : Rat} {A1 A2 : Option Addr} {n1 c1 n2 c2 : Nat} (h : AccF W g q) (hp : FQ W (.agg #[.bool (negQ p), .slice A1 n1 c1, .slice A2 n2 c2]) p) : AccF (((W.setCell ⟨g, 0, none⟩ (.bool (negQ p))).setCell ⟨g, 1, none⟩ (.slice A1 n1 c1)).setCell ⟨g, 2, none⟩ (.slice A2 n2 c2)) g p := by
  obtain ⟨_, _, _, _, _, _, h1, _⟩ := h
  exact ⟨A1, n1, c1, A2, n2, c2, h1.put3 _ _ _, hp.put3 h1 ni_box _ _ _⟩
def dotStep (s p : Rat) : Rat := capQ (s + capQ p)
def rdotQ (a b : List Rat) : Rat := (List.zipWith (· * ·) a b).foldl dotStep 0
theorem capQ_fits {q : Rat} (h : sizeQ q ≤ 4096) : capQ q = q := by unfold capQ; rw [if_pos h]
theorem capQ_capQ (q : Rat) : capQ (capQ q) = capQ q := capQ_fits (capQ_size q)
theorem rdot_cap (l : List Rat) : ∀ s, capQ s = s → capQ (l.foldl dotStep s) = l.foldl dotStep s := by
  induction l with
  | nil => exact fun s h => h
  | cons p l ih => exact fun s h => ih _ (capQ_capQ _)
theorem dotStep_zero {s : Rat} (h : capQ s = s) : dotStep s 0 = s := by unfold dotStep; rw [capQ_zero, Rat.add_zero, h]
theorem fold_snoc (l : List Rat) (q : Rat) (s : Rat) : (l ++ [q]).foldl dotStep s = dotStep (l.foldl dotStep s) q := by rw [List.foldl_append]; rfl
theorem fixQ_empty {f : RawF} (h : f.num = []) : fixQ f = 0 := by
  by_cases hr : RightF f
  · have h1 := right_raw hr
    have h2 : f.num = dg (fixQ f).num.natAbs := congrArg RawF.num h1
    rw [h] at h2
    exact Rat.num_eq_zero.1 (Int.natAbs_eq_zero.1 (dg_nil.1 h2.symm))
  · exact fixQ_wrong hr
theorem FR.lens {w : World} {A1 A2 : Option Addr} {n1 c1 n2 c2 : Nat} {f : RawF} {s : Bool} (h : FR w (.agg #[.bool s, .slice A1 n1 c1, .slice A2 n2 c2]) f) : n1 = f.num.length ∧ n2 = f.den.length := by
  obtain ⟨_, v1, v2, e, h1, h2⟩ := h
  injection e with e
  have e1 : Value.bool s = .bool f.neg ∧ Value.slice A1 n1 c1 = v1 ∧ Value.slice A2 n2 c2 = v2 := by simpa using e
  obtain ⟨_, rfl, rfl⟩ := e1
  obtain ⟨_, _, e2, _⟩ := h1.slice
  obtain ⟨_, _, e3, _⟩ := h2.slice
  injection e2 with _ e2 _
  injection e3 with _ e3 _
  exact ⟨e2, e3⟩
set_option maxHeartbeats 16000000 in
set_option maxRecDepth 100000 in
theorem rdot_calls (w : World) (v v2 : Value) (fs gs : List RawF) (h : FL w v fs) (h2 : FL w v2 gs) (hl : fs.length ≤ 100000) (hl2 : gs.length ≤ 100000) : Calls Try.prog 57 #[v, v2] w fun e w' => FPost w (rdotQ (fs.map fixQ) (gs.map fixQ)) e w' := by
  obtain ⟨A, c, rfl, hc⟩ := h.slice
  obtain ⟨A', c', rfl, hc'⟩ := h2.slice
  have HF := Lib.hid h
  have HG := Lib.hid h2
  obtain ⟨ds, hds⟩ : ∃ ds, ds = List.zipWith (· * ·) (fs.map fixQ) (gs.map fixQ) := ⟨_, rfl⟩
  have HDS := Lib.hid hds
  rw [show rdotQ (fs.map fixQ) (gs.map fixQ) = ds.foldl dotStep 0 from by rw [hds]; rfl]
  clear h h2 hds
  go_enter Try.func57, Try.ntmps57
  go_wp2_with fail
  have H0 := Lib.hid (HS.one (w := w) #[.bool false, .slice none 0 0, .slice none 0 0] 40)
  have hg0 : w.heap.size < (w.alloc (.cells #[.bool false, .slice none 0 0, .slice none 0 0] 40)).heap.size := (H0.out.blk 0 rfl).lt
  generalize w.alloc (.cells #[.bool false, .slice none 0 0, .slice none 0 0] 40) = W0 at *
  refine (rzero_calls W0).mono ?_
  rintro e w1 ⟨v, rfl, hv, hb⟩
  obtain ⟨A5, n5, c5, A6, n6, c6, rfl, HV⟩ := hv.opened
  have H1 := Lib.hid (H0.out.step hb)
  have hs1 := hb.size
  clear hv hb
  go_wp2_with fail
  have HA1 := Lib.hid (show AccF (w1.alloc (.cells #[.bool (negQ 0), .slice A5 n5 c5, .slice A6 n6 c6] 40)) w1.heap.size 0 from ⟨A5, n5, c5, A6, n6, c6, Blk.new _ _ _, HV.out.of_below (below_new _ _)⟩)
  have H2 := Lib.hid (H1.out.more (.cells #[.bool (negQ 0), .slice A5 n5 c5, .slice A6 n6 c6] 40))
  obtain ⟨g3, hg3⟩ : ∃ g3, g3 = w1.heap.size := ⟨_, rfl⟩
  rw [← hg3] at HA1
  have h03 : w.heap.size ≠ g3 := by omega
  have hw3 : w.heap.size ≤ g3 := by omega
  generalize w1.alloc (.cells #[.bool (negQ 0), .slice A5 n5 c5, .slice A6 n6 c6] 40) = W2 at *
  rw [← hg3]
  clear hg3
  go_loopw [6] (fun vi wr => ∃ i : Nat, (i ≤ fs.length ∧ i ≤ gs.length) ∧ vi = .int .i64 (i : Int) ∧ AccF wr g3 ((ds.take i).foldl dotStep 0) ∧ HS w [(w.heap.size, 40, #[.bool false, .slice none 0 0, .slice none 0 0])] wr) (fun vi _ => fs.length - (intOf vi).toNat)
  case atStart => exact ⟨0, ⟨Nat.zero_le _, Nat.zero_le _⟩, rfl, HA1.out, H2.out⟩
  case round =>
    obtain ⟨i, ⟨hi, hi2⟩, rfl, hacc, hs⟩ := hrel
    have HA4 := Lib.hid hacc
    have H4 := Lib.hid hs
    clear hacc hs H0 HA1 H1 H2
    have hcap : capQ ((ds.take i).foldl dotStep 0) = (ds.take i).foldl dotStep 0 := rdot_cap _ _ capQ_zero
    obtain ⟨s, hs⟩ : ∃ s, s = (ds.take i).foldl dotStep 0 := ⟨_, rfl⟩
    rw [← hs] at hcap HA4
    have HS0 := Lib.hid hs
    have HCAP := Lib.hid hcap
    clear hs hcap
    by_cases hlt : i < fs.length
    case neg =>
      obtain rfl : i = fs.length := by omega
      have hzl : ds.take fs.length = ds := List.take_of_length_le (by rw [HDS.out, List.length_zipWith, List.length_map, List.length_map]; omega)
      have HFin : Hid (ds.foldl dotStep 0 = s) := by unfold Hid; rw [HS0.out, hzl]
      clear hzl
      obtain ⟨B1, k1', d1, B2, k2', d2, hk, hR⟩ := HA4.out
      have HR1 := Lib.hid hR
      obtain ⟨a0, a1, a2⟩ := hk.c3
      clear hR hk
      obtain ⟨e0, e1, e2⟩ := (H4.out.blk 0 rfl).c3
      obtain ⟨f0, f1, f2⟩ := (H4.out.blk 0 rfl).f3
      go_wp2_with fail
      rw [HFin.out]
      exact end40 Try.results57 rfl (H4.out.blk 0 rfl) HR1.out (Nat.le_refl _) H4.out.2
    by_cases hlt2 : i < gs.length
    case neg =>
      obtain rfl : i = gs.length := by omega
      have hzl : ds.take gs.length = ds := List.take_of_length_le (by rw [HDS.out, List.length_zipWith, List.length_map, List.length_map]; omega)
      have HFin : Hid (ds.foldl dotStep 0 = s) := by unfold Hid; rw [HS0.out, hzl]
      clear hzl
      obtain ⟨B1, k1', d1, B2, k2', d2, hk, hR⟩ := HA4.out
      have HR1 := Lib.hid hR
      obtain ⟨a0, a1, a2⟩ := hk.c3
      clear hR hk
      obtain ⟨e0, e1, e2⟩ := (H4.out.blk 0 rfl).c3
      obtain ⟨f0, f1, f2⟩ := (H4.out.blk 0 rfl).f3
      go_wp2_with fail
      rw [HFin.out]
      exact end40 Try.results57 rfl (H4.out.blk 0 rfl) HR1.out (Nat.le_refl _) H4.out.2
    obtain ⟨f, hf⟩ : ∃ f, fs[i]? = some f := ⟨fs[i], List.getElem?_eq_getElem hlt⟩
    obtain ⟨g, hg⟩ : ∃ g, gs[i]? = some g := ⟨gs[i], List.getElem?_eq_getElem hlt2⟩
    have hd : ds[i]? = some (fixQ f * fixQ g) := by rw [HDS.out]; simp [List.getElem?_zipWith, hf, hg]
    have HNX : Hid ((ds.take (i + 1)).foldl dotStep 0 = dotStep s (fixQ f * fixQ g)) := by
      unfold Hid
      rw [List.take_add_one, hd]
      rw [show ds.take i ++ (some (fixQ f * fixQ g)).toList = ds.take i ++ [fixQ f * fixQ g] from rfl, fold_snoc, ← HS0.out]
    obtain ⟨p, hp⟩ : ∃ p, p = fixQ f * fixQ g := ⟨_, rfl⟩
    rw [← hp] at HNX
    have HP := Lib.hid hp
    obtain ⟨g1, o1, B1, k1, d1, B2, k2, d2, rfl, hgl1, x0, x1, x2, HFE⟩ := FL.at3 (HF.out.below EF.stays H4.out.2) hf
    obtain ⟨g2, o2, B3, k3, d3, B4, k4, d4, rfl, hgl2, y0, y1, y2, HGE⟩ := FL.at3 (HG.out.below EF.stays H4.out.2) hg
    have hk1 := (FR.lens HFE.out).1
    have hk3 := (FR.lens HGE.out).1
    have m1 : (i : Int) < (fs.length : Int) := by omega
    have m2 : (i : Int) < (gs.length : Int) := by omega
    have m3 : (i : Int).toNat = i := by omega
    have m4 : (0 : Int) ≤ (i : Int) := by omega
    clear hf hg hd hp
    have HRound : Hid (∀ wz, AccF wz g3 (dotStep s p) → HS w [(w.heap.size, 40, #[.bool false, .slice none 0 0, .slice none 0 0])] wz → ∃ i', (i' ≤ fs.length ∧ i' ≤ gs.length) ∧ Value.int .i64 ((i : Int) + 1) = .int .i64 (i' : Int) ∧ AccF wz g3 ((ds.take i').foldl dotStep 0) ∧ HS w [(w.heap.size, 40, #[.bool false, .slice none 0 0, .slice none 0 0])] wz) := by
      intro wz h1 h2
      exact ⟨i + 1, ⟨by omega, by omega⟩, by go_num, by rw [HNX.out]; exact h1, h2⟩
    by_cases z1 : k1 = 0
    · have u1 : decide (0 < k1) = false := decide_eq_false (by omega)
      have hp0 : p = 0 := by rw [HP.out, fixQ_empty (List.eq_nil_of_length_eq_zero (by omega)), Rat.zero_mul]
      have HP0 := Lib.hid hp0
      clear hk1 hk3 z1 hp0
      go_wp2_with fail
      go_roundw
      case rel => exact HRound.out _ (by rw [HP0.out, dotStep_zero HCAP.out]; exact HA4.out) H4.out
      case measure => simp [intOf]; omega
    have u1 : decide (0 < k1) = true := decide_eq_true (by omega)
    by_cases z2 : k3 = 0
    · have u2 : decide (0 < k3) = false := decide_eq_false (by omega)
      have hp0 : p = 0 := by rw [HP.out, fixQ_empty (f := g) (List.eq_nil_of_length_eq_zero (by omega)), Rat.mul_zero]
      have HP0 := Lib.hid hp0
      clear hk1 hk3 z1 z2 hp0
      go_wp2_with fail
      go_roundw
      case rel => exact HRound.out _ (by rw [HP0.out, dotStep_zero HCAP.out]; exact HA4.out) H4.out
      case measure => simp [intOf]; omega
    have u2 : decide (0 < k3) = true := decide_eq_true (by omega)
    clear hk1 hk3 z1 z2
    obtain ⟨B5, k5, d5, B6, k6, d6, hk, hR⟩ := HA4.out
    have HR1 := Lib.hid hR
    have HK := Lib.hid hk
    obtain ⟨a0, a1, a2⟩ := hk.c3
    obtain ⟨f0, f1, f2⟩ := hk.f3
    have hlt3 := hk.lt
    clear hR hk
    go_wp2_with fail
    have HB0 := Lib.hid (Below.refl wr.heap.size wr)
    refine wp_chain (S := Below wr.heap.size wr) 11 [([0, 1, 2, 3, 4, 5, 6, 7, 8], 9), ([], 10), ([], 11)] (by kernel_rfl) (by kernel_rfl) (by kernel_rfl) rfl (Below.drew (Below.refl _ _)) ?_
    refine ⟨?_, _, ?_, rfl, ?_⟩
    rotate_left
    · repeat (refine ⟨_, ?_, rfl, Or.inl ⟨by rfl, ?_⟩, ?_⟩; rotate_left; focus (intro W hW; have hcW := (bcell hW).1; clear hW; go_simp; try with_reducible rfl); (try simp only [Act.put, List.setIfInBounds_toArray, List.set_cons_zero, List.set_cons_succ]))
      exact rfl
    go_wp2_with fail
    refine (rmul_calls _ _ _ f g (HFE.out.of_below (Below.drew (Below.refl _ _))) (HGE.out.of_below (Below.drew (Below.refl _ _)))).mono ?_
    rintro e w7 ⟨v, rfl, hv, hb⟩
    obtain ⟨A7, n7, c7, A8, n8, c8, rfl, HV5⟩ := hv.opened
    have HB7 := Lib.hid (below_next (Below.drew (Below.refl wr.heap.size wr)) hb)
    clear hv hb
    go_wp2_with fail
    refine And.intro HB7.out ⟨_, _, rfl, rfl, ?_⟩
    go_wp2_with fail
    refine (radd_calls _ _ _ _ _ (FR.of_fq (HR1.out.of_below HB7.out) (by rw [← HCAP.out]; exact capQ_size _)) (FR.of_fq HV5.out (capQ_size _))).mono ?_
    rintro e w8 ⟨v, rfl, hv, hb⟩
    have hpost : capQ (fixQ (rawQ s) + fixQ (rawQ (capQ (fixQ f * fixQ g)))) = dotStep s p := by
      rw [fixQ_raw _ (by rw [← HCAP.out]; exact capQ_size _), fixQ_raw _ (capQ_size _), ← HP.out]
      rfl
    rw [hpost] at hv
    obtain ⟨A9, n9, c9, A10, n10, c10, rfl, HV6⟩ := hv.opened
    have HB8 := Lib.hid (below_next HB7.out hb)
    clear hv hb hpost
    go_wp2_with fail
    refine And.intro HB8.out ⟨_, _, rfl, rfl, ?_⟩
    have HA5 := Lib.hid (HA4.out.step HB8.out)
    obtain ⟨_, _, _, _, _, _, hk5, _⟩ := HA5.out
    obtain ⟨y0, y1, y2⟩ := hk5.c3
    obtain ⟨f0, f1, f2⟩ := hk5.f3
    have HK5 := Lib.hid hk5
    clear hk5
    go_wp2_with fail
    refine NoPanic.normal ?_
    go_wp2_with fail
    go_roundw
    case rel => exact HRound.out _ (HA5.out.put HV6.out) ((H4.out.step HB8.out).other3 hw3 (by simp; omega) _ _ _)
    case measure => simp [intOf]; omega
end Go.Proofs.Ytfhambfgjigneaa
set_option linter.unusedVariables false
set_option linter.unusedSimpArgs false
namespace Go.Proofs.Ytfhambfgjigneaa
open Go.RowKit
theorem rwhole0_calls (w : World) : Calls Try.prog 56 #[.int .i64 0] w fun e w' => FPost w 0 e w' := rwhole_calls w 0 (by decide) (by decide)
set_option maxHeartbeats 16000000 in
set_option maxRecDepth 100000 in
theorem r2right_calls (w : World) (v : Value) (p : ProgF) (h : PR w v p) : Calls Try.prog 21 #[v] w fun e w' => IPost w (rightP p) e w' := by
  obtain ⟨A1, c1, A2, c2, A3, c3, rfl, HI, H1, H2, H3⟩ := h.opened
  clear h
  obtain ⟨vars, hv⟩ : ∃ n, n = p.vars := ⟨_, rfl⟩
  rw [← hv]
  have HV := Lib.hid hv
  clear hv
  go_enter Try.func21, Try.ntmps21
  by_cases a1 : vars > 160
  · have t1 : decide (vars > 160) = true := decide_eq_true a1
    have HR := Lib.hid (rightP_a (p := p) (.inl (HV.out ▸ a1)))
    clear a1
    go_wp2_with fail
    go_ret
    exact ⟨by rw [HR.out]; rfl, below_new w _⟩
  have t1 : decide (vars > 160) = false := decide_eq_false a1
  by_cases a2 : p.rows.length > 400
  · have t2 : decide ((p.rows.length : Int) > 400) = true := decide_eq_true (by omega)
    have HR := Lib.hid (rightP_a (p := p) (.inr a2))
    clear a1 a2
    go_wp2_with fail
    go_ret
    exact ⟨by rw [HR.out]; rfl, below_new w _⟩
  have t2 : decide ((p.rows.length : Int) > 400) = false := decide_eq_false (by omega)
  have N1 : Hid (¬ (p.vars > 160 ∨ p.rows.length > 400)) := by unfold Hid; rw [← HV.out]; omega
  by_cases b1 : vars < 1
  · have t3 : decide (vars < 1) = true := decide_eq_true b1
    have HR := Lib.hid (rightP_b N1.out (.inl (HV.out ▸ b1)))
    clear a1 a2 b1
    go_wp2_with fail
    go_ret
    exact ⟨by rw [HR.out]; rfl, below_new w _⟩
  have t3 : decide (vars < 1) = false := decide_eq_false b1
  by_cases b2 : (p.free.length : Int) = vars
  case neg =>
    have t4 : ((p.free.length : Int) != vars) = true := bneI b2
    have HR := Lib.hid (rightP_b N1.out (.inr (.inl (HV.out ▸ b2))))
    clear a1 a2 b1 b2
    go_wp2_with fail
    go_ret
    exact ⟨by rw [HR.out]; rfl, below_new w _⟩
  have t4 : ((p.free.length : Int) != vars) = false := beqI b2
  by_cases b3 : (p.goal.length : Int) = vars
  case neg =>
    have t5 : ((p.goal.length : Int) != vars) = true := bneI b3
    have HR := Lib.hid (rightP_b N1.out (.inr (.inr (HV.out ▸ b3))))
    clear a1 a2 b1 b2 b3
    go_wp2_with fail
    go_ret
    exact ⟨by rw [HR.out]; rfl, below_new w _⟩
  have t5 : ((p.goal.length : Int) != vars) = false := beqI b3
  have N2 : Hid (¬ (p.vars < 1 ∨ (p.free.length : Int) ≠ p.vars ∨ (p.goal.length : Int) ≠ p.vars)) := by unfold Hid; rw [← HV.out]; omega
  clear a1 b1 b2 b3
  go_wp2_with fail
  have hb0 := below_new w (.cells #[.int .i64 vars, .slice A1 p.free.length c1, .slice A2 p.goal.length c2, .slice A3 p.rows.length c3] 26)
  have hk0 := Blk.new w 26 #[.int .i64 vars, .slice A1 p.free.length c1, .slice A2 p.goal.length c2, .slice A3 p.rows.length c3]
  generalize w.alloc (.cells #[.int .i64 vars, .slice A1 p.free.length c1, .slice A2 p.goal.length c2, .slice A3 p.rows.length c3] 26) = W0 at *
  go_loopw [36] (fun vi wr => ∃ i : Nat, i ≤ p.rows.length ∧ vi = .int .i64 (i : Int) ∧ (∀ j r, j < i → p.rows[j]? = some r → rowBad p.vars r = false) ∧ Blk wr w.heap.size 26 #[.int .i64 vars, .slice A1 p.free.length c1, .slice A2 p.goal.length c2, .slice A3 p.rows.length c3] ∧ Below w.heap.size w wr) (fun vi _ => p.rows.length - (intOf vi).toNat)
  case atStart => exact ⟨0, Nat.zero_le _, rfl, fun j r h => absurd h (Nat.not_lt_zero _), hk0, hb0⟩
  case round =>
    obtain ⟨i, hi, rfl, hall, hk, hb⟩ := hrel
    have HA := Lib.hid hall
    have HK := Lib.hid hk
    have HB := Lib.hid hb
    clear hall hb hk hk0 hb0
    by_cases hlt : i < p.rows.length
    · obtain ⟨r, hr⟩ : ∃ r, p.rows[i]? = some r := ⟨p.rows[i], List.getElem?_eq_getElem hlt⟩
      obtain ⟨g, o, B1, d1, B2, n2, d2, B3, n3, d3, rfl, hg, k0, k1, k2, k3, k4, _, _, _⟩ := RL.at5 (H3.out.below ER.stays HB.out) hr
      have HRR := Lib.hid hr
      clear hr
      have m1 : (i : Int) < (p.rows.length : Int) := by omega
      have m3 : (i : Int).toNat = i := by omega
      have m4 : (0 : Int) ≤ (i : Int) := by omega
      have x0 := HK.out.cell (j := 0) rfl
      have hz := HK.out.lt
      by_cases q1 : (r.a.length : Int) = vars
      case neg =>
        have u1 : ((r.a.length : Int) != vars) = true := bneI q1
        have HR := Lib.hid (rightP_c N1.out N2.out HRR.out (by unfold rowBad; rw [← HV.out, decide_eq_true q1]; rfl))
        clear q1
        go_wp2_with fail
        go_ret
        exact ⟨by rw [HR.out]; rfl, below_next HB.out (below_new _ _)⟩
      have u1 : ((r.a.length : Int) != vars) = false := beqI q1
      by_cases q2 : r.s < -1
      · have u2 : decide (r.s < -1) = true := decide_eq_true q2
        have HR := Lib.hid (rightP_c N1.out N2.out HRR.out (by unfold rowBad; rw [decide_eq_true q2]; simp))
        clear q1 q2
        go_wp2_with fail
        go_ret
        exact ⟨by rw [HR.out]; rfl, below_next HB.out (below_new _ _)⟩
      have u2 : decide (r.s < -1) = false := decide_eq_false q2
      by_cases q3 : r.s > 1
      · have u3 : decide (r.s > 1) = true := decide_eq_true q3
        have HR := Lib.hid (rightP_c N1.out N2.out HRR.out (by unfold rowBad; rw [decide_eq_true q3]; simp))
        clear q1 q2 q3
        go_wp2_with fail
        go_ret
        exact ⟨by rw [HR.out]; rfl, below_next HB.out (below_new _ _)⟩
      have u3 : decide (r.s > 1) = false := decide_eq_false q3
      have HGood : Hid (rowBad p.vars r = false) := by unfold Hid rowBad; rw [← HV.out, decide_eq_false q2, decide_eq_false q3, decide_eq_false (by simpa using q1)]; rfl
      clear q1 q2 q3
      go_wp2_with fail
      go_roundw
      case rel =>
        refine ⟨i + 1, by omega, by go_num, fun j r' hj hr' => ?_, HK.out.alloc _, below_next HB.out (below_new _ _)⟩
        by_cases hji : j = i
        · rw [hji, HRR.out] at hr'
          injection hr' with e
          subst e
          exact HGood.out
        · exact HA.out j r' (by omega) hr'
      case measure => simp [intOf]; omega
    · obtain rfl : i = p.rows.length := by omega
      have HR := Lib.hid (rightP_d N1.out N2.out fun j r hr => HA.out j r (List.getElem?_eq_some_iff.1 hr).1 hr)
      go_wp2_with fail
      go_ret
      exact ⟨by rw [HR.out]; rfl, HB.out⟩
noncomputable def rvalueP (p : ProgF) (x : List RawF) : Rat := if rightP p ≠ 0 ∨ (x.length : Int) ≠ p.vars then 0 else rdotQ (p.goal.map fixQ) (x.map fixQ)
set_option maxHeartbeats 16000000 in
set_option maxRecDepth 100000 in
theorem r2value_calls (w : World) (v v2 : Value) (p : ProgF) (x : List RawF) (h : PR w v p) (h2 : FL w v2 x) : Calls Try.prog 24 #[v, v2] w fun e w' => FPost w (rvalueP p x) e w' := by
  have HP := Lib.hid h
  obtain ⟨A1, c1, A2, c2, A3, c3, rfl, HI, H1, H2, H3⟩ := h.opened
  obtain ⟨A4, c4, rfl, hc4⟩ := h2.slice
  have HX := Lib.hid h2
  clear h h2
  obtain ⟨vars, hv⟩ : ∃ n, n = p.vars := ⟨_, rfl⟩
  rw [← hv] at HP ⊢
  have HV := Lib.hid hv
  clear hv
  go_enter Try.func24, Try.ntmps24
  go_wp2_with fail
  have H0 := Lib.hid (HS.two (w := w) #[.int .i64 vars, .slice A1 p.free.length c1, .slice A2 p.goal.length c2, .slice A3 p.rows.length c3] #[.bool false, .slice none 0 0, .slice none 0 0] 26 40)
  generalize (w.alloc (.cells #[.int .i64 vars, .slice A1 p.free.length c1, .slice A2 p.goal.length c2, .slice A3 p.rows.length c3] 26)).alloc (.cells #[.bool false, .slice none 0 0, .slice none 0 0] 40) = W0 at *
  refine (r2right_calls _ _ p (HP.out.of_below H0.out.2)).mono ?_
  rintro e w1 ⟨rfl, hb⟩
  have H1' := Lib.hid (H0.out.step hb)
  obtain ⟨x0, x1, x2, x3⟩ := H1'.out.c4 1 rfl
  clear hb
  by_cases q1 : rightP p = 0
  case neg =>
    have u1 : (rightP p != 0) = true := bneI q1
    have HE := Lib.hid (show rvalueP p x = 0 from if_pos (.inl q1))
    clear q1
    go_wp2_with fail
    refine (rwhole0_calls w1).mono ?_
    rintro e w2 ⟨v, rfl, hv, hb⟩
    obtain ⟨A5, n5, c5, A6, n6, c6, rfl, HV2⟩ := hv.opened
    have H2' := Lib.hid (H1'.out.step hb)
    clear hb hv
    obtain ⟨e0, e1, e2⟩ := (H2'.out.blk 0 rfl).c3
    obtain ⟨f0, f1, f2⟩ := (H2'.out.blk 0 rfl).f3
    go_wp2_with fail
    rw [HE.out]
    exact end40 Try.results24 rfl (H2'.out.blk 0 rfl) HV2.out (by omega) H2'.out.2
  have u1 : (rightP p != 0) = false := beqI q1
  by_cases q2 : (x.length : Int) = vars
  case neg =>
    have u2 : ((x.length : Int) != vars) = true := bneI q2
    have HE := Lib.hid (show rvalueP p x = 0 from if_pos (.inr (by rw [← HV.out]; exact q2)))
    clear q1 q2
    go_wp2_with fail
    refine (rwhole0_calls w1).mono ?_
    rintro e w2 ⟨v, rfl, hv, hb⟩
    obtain ⟨A5, n5, c5, A6, n6, c6, rfl, HV2⟩ := hv.opened
    have H2' := Lib.hid (H1'.out.step hb)
    clear hb hv
    obtain ⟨e0, e1, e2⟩ := (H2'.out.blk 0 rfl).c3
    obtain ⟨f0, f1, f2⟩ := (H2'.out.blk 0 rfl).f3
    go_wp2_with fail
    rw [HE.out]
    exact end40 Try.results24 rfl (H2'.out.blk 0 rfl) HV2.out (by omega) H2'.out.2
  have u2 : ((x.length : Int) != vars) = false := beqI q2
  have HE := Lib.hid (show rvalueP p x = rdotQ (p.goal.map fixQ) (x.map fixQ) from if_neg (by rw [← HV.out]; omega))
  have hrl := rightP_len q1
  have hgl : p.goal.length ≤ 100000 := by omega
  have hxl : x.length ≤ 100000 := by have := HV.out; omega
  clear q1 q2 hrl
  go_wp2_with fail
  refine (rdot_calls w1 _ _ p.goal x (H2.out.below EF.stays H1'.out.2) (HX.out.below EF.stays H1'.out.2) hgl hxl).mono ?_
  rintro e w2 ⟨v, rfl, hv, hb⟩
  obtain ⟨A5, n5, c5, A6, n6, c6, rfl, HV2⟩ := hv.opened
  have H2' := Lib.hid (H1'.out.step hb)
  clear hb hv
  obtain ⟨e0, e1, e2⟩ := (H2'.out.blk 0 rfl).c3
  obtain ⟨f0, f1, f2⟩ := (H2'.out.blk 0 rfl).f3
  go_wp2_with fail
  rw [HE.out]
  exact end40 Try.results24 rfl (H2'.out.blk 0 rfl) HV2.out (by omega) H2'.out.2
def rholdsB (s : Int) (a b : Rat) : Bool := decide (ordQ a b = 0) || decide (ordQ a b = s)
set_option maxHeartbeats 16000000 in
set_option maxRecDepth 100000 in
theorem rholds_calls (w : World) (s : Int) (v v2 : Value) (f g : RawF) (h : FR w v f) (h2 : FR w v2 g) : Calls Try.prog 60 #[v, .int .i64 s, v2] w fun e w' => BPost w (rholdsB s (fixQ f) (fixQ g)) e w' := by
  obtain ⟨A1, n1, c1, A2, n2, c2, rfl, H⟩ := h.opened
  obtain ⟨A3, n3, c3, A4, n4, c4, rfl, G⟩ := h2.opened
  clear h h2
  go_enter Try.func60, Try.ntmps60
  go_wp2_with fail
  have H0 := Lib.hid (HS.two (w := w) #[.bool f.neg, .slice A1 n1 c1, .slice A2 n2 c2] #[.bool g.neg, .slice A3 n3 c3, .slice A4 n4 c4] 40 40)
  generalize (w.alloc (.cells #[.bool f.neg, .slice A1 n1 c1, .slice A2 n2 c2] 40)).alloc (.cells #[.bool g.neg, .slice A3 n3 c3, .slice A4 n4 c4] 40) = W0 at *
  refine (rcmp_calls W0 _ _ f g (H.out.of_below H0.out.2) (G.out.of_below H0.out.2)).mono ?_
  rintro e w1 ⟨rfl, hb⟩
  have H1 := Lib.hid (H0.out.step hb)
  clear hb
  obtain ⟨c, hc⟩ : ∃ c, c = ordQ (fixQ f) (fixQ g) := ⟨_, rfl⟩
  have HE : Hid (rholdsB s (fixQ f) (fixQ g) = (decide (c = 0) || decide (c = s))) := by unfold Hid rholdsB; rw [hc]
  rw [← hc]
  clear hc
  by_cases q1 : c = 0
  · have u1 : (c == 0) = true := by simpa using q1
    have HE2 : Hid (rholdsB s (fixQ f) (fixQ g) = true) := by unfold Hid; rw [HE.out, decide_eq_true q1]; rfl
    clear q1
    go_wp2_with fail
    go_ret
    exact ⟨by rw [HE2.out]; rfl, H1.out.2⟩
  have u1 : (c == 0) = false := by simpa using q1
  by_cases q3 : c = s
  · have u3 : (c == s) = true := by simpa using q3
    have HE2 : Hid (rholdsB s (fixQ f) (fixQ g) = true) := by unfold Hid; rw [HE.out, decide_eq_true q3]; simp
    clear q1 q3
    go_wp2_with fail
    go_ret
    exact ⟨by rw [HE2.out]; rfl, H1.out.2⟩
  · have u3 : (c == s) = false := by simpa using q3
    have HE2 : Hid (rholdsB s (fixQ f) (fixQ g) = false) := by unfold Hid; rw [HE.out, decide_eq_false q1, decide_eq_false q3]; simp
    clear q1 q3
    go_wp2_with fail
    go_ret
    exact ⟨by rw [HE2.out]; rfl, H1.out.2⟩
end Go.Proofs.Ytfhambfgjigneaa
set_option linter.unusedVariables false
set_option linter.unusedSimpArgs false
namespace Go.Proofs.Ytfhambfgjigneaa
open Go.RowKit
noncomputable def rrowHolds (x : List Rat) (r : RowF) : Bool := rholdsB r.s (rdotQ (r.a.map fixQ) x) (fixQ r.b)
noncomputable def rfitsB (p : ProgF) (x : List RawF) : Bool := decide ((x.length : Int) = p.vars) && (signedB p.free (x.map fixQ) && p.rows.all (rrowHolds (x.map fixQ)))
noncomputable def rfitsP (p : ProgF) (x : List RawF) : Bool := decide (rightP p = 0) && rfitsB p x
theorem rdotQ_size (a b : List Rat) : sizeQ (rdotQ a b) ≤ 4096 := by
  have h := rdot_cap (List.zipWith (· * ·) a b) 0 capQ_zero
  unfold rdotQ
  rw [← h]
  exact capQ_size _
theorem fix_rdot (a b : List Rat) : fixQ (rawQ (rdotQ a b)) = rdotQ a b := fixQ_raw _ (rdotQ_size a b)
set_option maxHeartbeats 16000000 in
set_option maxRecDepth 100000 in
theorem rfits_calls (w : World) (v v2 : Value) (p : ProgF) (x : List RawF) (h : PR w v p) (h2 : FL w v2 x) : Calls Try.prog 26 #[v, v2] w fun e w' => BPost w (rfitsP p x) e w' := by
  have HP := Lib.hid h
  obtain ⟨A1, c1, A2, c2, A3, c3, rfl, HI, H1, H2, H3⟩ := h.opened
  obtain ⟨A4, c4, rfl, hc4⟩ := h2.slice
  have HX := Lib.hid h2
  clear h h2
  obtain ⟨vars, hv⟩ : ∃ n, n = p.vars := ⟨_, rfl⟩
  rw [← hv] at HP ⊢
  have HV := Lib.hid hv
  clear hv
  go_enter Try.func26, Try.ntmps26
  go_wp2_with fail
  have H0 := Lib.hid (HS.one (w := w) #[.int .i64 vars, .slice A1 p.free.length c1, .slice A2 p.goal.length c2, .slice A3 p.rows.length c3] 26)
  generalize w.alloc (.cells #[.int .i64 vars, .slice A1 p.free.length c1, .slice A2 p.goal.length c2, .slice A3 p.rows.length c3] 26) = W0 at *
  refine (r2right_calls W0 _ p (HP.out.of_below H0.out.2)).mono ?_
  rintro e w1 ⟨rfl, hb⟩
  have H1' := Lib.hid (H0.out.step hb)
  obtain ⟨x0, x1, x2, x3⟩ := H1'.out.c4 0 rfl
  clear hb
  by_cases q1 : rightP p = 0
  case neg =>
    have u1 : (rightP p != 0) = true := bneI q1
    have HE : Hid (rfitsP p x = false) := by unfold Hid rfitsP; rw [decide_eq_false q1]; rfl
    clear q1
    go_wp2_with fail
    go_ret
    exact ⟨by rw [HE.out]; rfl, H1'.out.2⟩
  have u1 : (rightP p != 0) = false := beqI q1
  have hrl := rightP_len q1
  have HE0 : Hid (rfitsP p x = rfitsB p x) := by unfold Hid rfitsP; rw [decide_eq_true q1]; rfl
  clear q1
  have hfl : (p.free.length : Int) = vars := by rw [HV.out]; exact hrl.1
  have hvl : vars ≤ 160 := by rw [HV.out]; exact hrl.2.2.2.1
  have hrw : p.rows.length ≤ 400 := hrl.2.2.2.2.1
  have HROW : Hid (∀ (r : RowF), r ∈ p.rows → (r.a.length : Int) = vars) := by unfold Hid; rw [HV.out]; exact fun r hm => (hrl.2.2.2.2.2 r hm).1
  clear hrl
  by_cases q2 : (x.length : Int) = vars
  case neg =>
    have u2 : ((x.length : Int) != vars) = true := bneI q2
    have HE : Hid (rfitsP p x = false) := by unfold Hid; rw [HE0.out]; unfold rfitsB; rw [decide_eq_false (by rw [← HV.out]; exact q2)]; rfl
    clear q2 hfl
    go_wp2_with fail
    go_ret
    exact ⟨by rw [HE.out]; rfl, H1'.out.2⟩
  have u2 : ((x.length : Int) != vars) = false := beqI q2
  have HE1 : Hid (rfitsP p x = (signedB p.free (x.map fixQ) && p.rows.all (rrowHolds (x.map fixQ)))) := by unfold Hid; rw [HE0.out]; unfold rfitsB; rw [decide_eq_true (by rw [← HV.out]; exact q2)]; rfl
  have hxl : x.length ≤ 100000 := by omega
  have hl : x.length = p.free.length := by omega
  have HXF := Lib.hid hl
  clear q2 hfl hl
  go_wp2_with fail
  clear x0 x1 x2 x3
  go_loopw [21] (fun vi wr => ∃ i : Nat, i ≤ x.length ∧ vi = .int .i64 (i : Int) ∧ (∀ (j : Nat) (b : Bool) (q : Rat), j < i → p.free[j]? = some b → (x.map fixQ)[j]? = some q → (b || !decide (signQ q < 0)) = true) ∧ HS w [(w.heap.size, 26, #[.int .i64 vars, .slice A1 p.free.length c1, .slice A2 p.goal.length c2, .slice A3 p.rows.length c3])] wr) (fun vi _ => x.length - (intOf vi).toNat)
  case atStart => exact ⟨0, Nat.zero_le _, rfl, fun j _ _ h => absurd h (Nat.not_lt_zero _), H1'.out⟩
  case round =>
    obtain ⟨i, hi, rfl, hall, hk⟩ := hrel
    have HA := Lib.hid hall
    have HK := Lib.hid hk
    clear hall hk
    by_cases hlt : i < x.length
    · obtain ⟨f, hf⟩ : ∃ f, x[i]? = some f := ⟨x[i], List.getElem?_eq_getElem hlt⟩
      obtain ⟨b, hbf⟩ : ∃ b, p.free[i]? = some b := ⟨p.free[i], List.getElem?_eq_getElem (by have := HXF.out; omega)⟩
      obtain ⟨g, o, B1, n1, d1, B2, n2, d2, rfl, hg, k0, k1, k2, HE⟩ := FL.at3 (HX.out.below EF.stays HK.out.2) hf
      obtain ⟨g2, o2, rfl, hg2, kb⟩ := BL.at1 (H1.out.below EB.stays HK.out.2) hbf
      have HXI : Hid ((x.map fixQ)[i]? = some (fixQ f)) := by unfold Hid; rw [List.getElem?_map, hf]; rfl
      have HFI := Lib.hid hbf
      clear hf hbf
      have m1 : (i : Int) < (x.length : Int) := by omega
      have m2 : (i : Int) < (p.free.length : Int) := by have := HXF.out; omega
      have m3 : (i : Int).toNat = i := by omega
      have m4 : (0 : Int) ≤ (i : Int) := by omega
      obtain ⟨x0, x1, x2, x3⟩ := HK.out.c4 0 rfl
      have hz := (HK.out.blk 0 rfl).lt
      have fin : ∀ wz, Below wr.heap.size wr wz → (b || !decide (signQ (fixQ f) < 0)) = true → (∃ i', i' ≤ x.length ∧ Value.int .i64 ((i : Int) + 1) = .int .i64 (i' : Int) ∧ (∀ (j : Nat) (b : Bool) (q : Rat), j < i' → p.free[j]? = some b → (x.map fixQ)[j]? = some q → (b || !decide (signQ q < 0)) = true) ∧ HS w [(w.heap.size, 26, #[.int .i64 vars, .slice (some ⟨g2, o2, none⟩) p.free.length c1, .slice A2 p.goal.length c2, .slice A3 p.rows.length c3])] wz) := fun wz hbz hgood => by
        refine ⟨i + 1, by omega, by go_num, fun j b' q' hj hb' hq' => ?_, HK.out.step hbz⟩
        by_cases hji : j = i
        · subst hji
          rw [HFI.out] at hb'
          rw [HXI.out] at hq'
          injection hb' with e1
          injection hq' with e2
          rw [← e1, ← e2]
          exact hgood
        · exact HA.out j b' q' (by omega) hb' hq'
      have HFin := Lib.hid fin
      clear fin
      cases b with
      | true =>
        go_wp2_with fail
        go_roundw
        case rel => exact HFin.out _ (below_new _ _) rfl
        case measure => simp [intOf]; omega
      | false =>
        go_wp2_with fail
        have hb1 := below_new wr (.cells #[.bool f.neg, .slice B1 n1 d1, .slice B2 n2 d2] 40)
        refine (rsign_calls _ _ f (HE.out.of_below hb1)).mono ?_
        rintro e w2 ⟨rfl, hb2⟩
        have HB := Lib.hid (below_next hb1 hb2)
        clear hb1 hb2
        by_cases q1 : signQ (fixQ f) < 0
        · have u1 : decide (signQ (fixQ f) < 0) = true := decide_eq_true q1
          have HE2 : Hid (rfitsP p x = false) := by unfold Hid; rw [HE1.out, signedB_false HFI.out HXI.out (by rw [decide_eq_true q1]; rfl)]; rfl
          clear q1
          go_wp2_with fail
          go_ret
          exact ⟨by rw [HE2.out]; rfl, (HK.out.step HB.out).2⟩
        · have u1 : decide (signQ (fixQ f) < 0) = false := decide_eq_false q1
          have HG : Hid ((false || !decide (signQ (fixQ f) < 0)) = true) := by unfold Hid; rw [decide_eq_false q1]; rfl
          clear q1
          go_wp2_with fail
          go_roundw
          case rel => exact HFin.out _ HB.out HG.out
          case measure => simp [intOf]; omega
    · obtain rfl : i = x.length := by omega
      have HE2 : Hid (rfitsP p x = p.rows.all (rrowHolds (x.map fixQ))) := by unfold Hid; rw [HE1.out, signedB_true (free := p.free) (x := x.map fixQ) fun j b q h1 h2 => HA.out j b q (by have := (List.getElem?_eq_some_iff.1 h2).1; simpa using this) h1 h2]; rfl
      obtain ⟨wo, hwo⟩ : ∃ wo, wo = wr := ⟨_, rfl⟩
      rw [← hwo] at HK ⊢
      obtain ⟨x0, x1, x2, x3⟩ := HK.out.c4 0 rfl
      clear hwo HA H0 H1'
      go_wp2_with fail
      clear x0 x1 x2 x3
      go_loopw [41] (fun vi wr => ∃ i : Nat, i ≤ p.rows.length ∧ vi = .int .i64 (i : Int) ∧ (∀ (j : Nat) (r : RowF), j < i → p.rows[j]? = some r → rrowHolds (x.map fixQ) r = true) ∧ HS w [(w.heap.size, 26, #[.int .i64 vars, .slice A1 p.free.length c1, .slice A2 p.goal.length c2, .slice A3 p.rows.length c3])] wr) (fun vi _ => p.rows.length - (intOf vi).toNat)
      case atStart => exact ⟨0, Nat.zero_le _, rfl, fun j _ h => absurd h (Nat.not_lt_zero _), HK.out⟩
      case round =>
        obtain ⟨i, hi, rfl, hall, hk⟩ := hrel
        have HA := Lib.hid hall
        have HK := Lib.hid hk
        clear hall hk
        by_cases hlt : i < p.rows.length
        · obtain ⟨r, hr⟩ : ∃ r, p.rows[i]? = some r := ⟨p.rows[i], List.getElem?_eq_getElem hlt⟩
          obtain ⟨g, o, B1, d1, B2, n2, d2, B3, n3, d3, rfl, hg, k0, k1, k2, k3, k4, HI', HA', HB'⟩ := RL.at5 (H3.out.below ER.stays HK.out.2) hr
          have hrl : r.a.length ≤ 100000 := by have := HROW.out r (List.mem_of_getElem? hr); omega
          have HRR := Lib.hid hr
          clear hr
          have m1 : (i : Int) < (p.rows.length : Int) := by omega
          have m3 : (i : Int).toNat = i := by omega
          have m4 : (0 : Int) ≤ (i : Int) := by omega
          obtain ⟨s, hs⟩ : ∃ s, s = r.s := ⟨_, rfl⟩
          rw [← hs] at k1
          have HSE := Lib.hid hs
          clear hs
          go_wp2_with fail
          have hb1 := below_new wr (.cells #[.slice B1 r.a.length d1, .int .i64 s, .bool r.b.neg, .slice B2 n2 d2, .slice B3 n3 d3] 65)
          have hk1 := Blk.new wr 65 #[.slice B1 r.a.length d1, .int .i64 s, .bool r.b.neg, .slice B2 n2 d2, .slice B3 n3 d3]
          have HB1 := Lib.hid hb1
          have z0 := hk1.cell (j := 0) rfl
          have z1 := hk1.cell (j := 1) rfl
          have z2 := hk1.cell (j := 2) rfl
          have z3 := hk1.cell (j := 3) rfl
          have z4 := hk1.cell (j := 4) rfl
          have hz := hk1.lt
          generalize wr.alloc (.cells #[.slice B1 r.a.length d1, .int .i64 s, .bool r.b.neg, .slice B2 n2 d2, .slice B3 n3 d3] 65) = W1 at *
          clear hk1 hb1
          refine wp_chainS (S := Below W1.heap.size W1) [([0, 1, 2, 4, 5, 6, 7], 3), ([], 8)] [9] (by kernel_rfl) (by kernel_rfl) (by kernel_rfl) rfl (Below.drew (Below.refl _ _)) ?_
          refine ⟨?_, _, ?_, rfl, ?_⟩
          rotate_left
          · repeat (refine ⟨_, ?_, rfl, Or.inl ⟨by rfl, ?_⟩, ?_⟩; rotate_left; focus (intro W hW; have hcW := (bcell hW).1; clear hW; go_simp; try with_reducible rfl); (try simp only [Act.put, List.setIfInBounds_toArray, List.set_cons_zero, List.set_cons_succ]))
            exact rfl
          have hbd : Below W1.heap.size W1 W1.drew := Below.drew (Below.refl _ _)
          have hbx := below_next HB1.out hbd
          have HBX := Lib.hid hbx
          go_wp2_with fail
          refine (rdot_calls _ _ _ r.a x (HA'.out.below EF.stays HBX.out) (HX.out.below EF.stays (HK.out.step HBX.out).2) hrl hxl).mono ?_
          rintro e w7 ⟨v, rfl, hv, hb⟩
          obtain ⟨A5, n5, c5, A6, n6, c6, rfl, HV5⟩ := hv.opened
          have HB7 := Lib.hid (below_next hbd hb)
          have HB17 := Lib.hid (below_next HB1.out HB7.out)
          clear hv hb hbd hbx
          go_wp2_with fail
          refine And.intro HB7.out ⟨_, _, rfl, rfl, ?_⟩
          go_wp2_with fail
          refine (rholds_calls _ s _ _ _ r.b (FR.of_fq HV5.out (rdotQ_size _ _)) (HB'.out.of_below HB17.out)).mono ?_
          rintro e w8 ⟨rfl, hb⟩
          have HB8 := Lib.hid (below_next HB7.out hb)
          have HB18 := Lib.hid (below_next HB1.out HB8.out)
          have HH : Hid (rholdsB s (fixQ (rawQ (rdotQ (r.a.map fixQ) (x.map fixQ)))) (fixQ r.b) = rrowHolds (x.map fixQ) r) := by unfold Hid rrowHolds; rw [fix_rdot, HSE.out]
          rw [HH.out]
          clear hb
          go_wp2_with fail
          refine And.intro HB8.out ⟨?_, ?_, ?_⟩
          rotate_left
          · repeat (refine ⟨_, ?_, rfl, Or.inl ⟨by rfl, ?_⟩, ?_⟩; rotate_left; focus (intro W hW; have hcW := (bcell hW).1; clear hW; go_simp; try with_reducible rfl); (try simp only [Act.put, List.setIfInBounds_toArray, List.set_cons_zero, List.set_cons_succ]))
            exact rfl
          refine NoPanic.normal ?_
          cases hb : rrowHolds (x.map fixQ) r with
          | false =>
            have HE3 : Hid (rfitsP p x = false) := by unfold Hid; rw [HE2.out]; exact all_false HRR.out hb
            clear hb
            go_wp2_with fail
            go_ret
            exact ⟨by rw [HE3.out]; rfl, (HK.out.step HB18.out).2⟩
          | true =>
            have HG := Lib.hid hb
            clear hb
            go_wp2_with fail
            go_roundw
            case rel =>
              refine ⟨i + 1, by omega, by go_num, fun j r' hj hr' => ?_, HK.out.step HB18.out⟩
              by_cases hji : j = i
              · rw [hji, HRR.out] at hr'
                injection hr' with e
                rw [← e]
                exact HG.out
              · exact HA.out j r' (by omega) hr'
            case measure => simp [intOf]; omega
        · obtain rfl : i = p.rows.length := by omega
          have HE3 : Hid (rfitsP p x = true) := by unfold Hid; rw [HE2.out]; exact all_true fun j r hr => HA.out j r (List.getElem?_eq_some_iff.1 hr).1 hr
          go_wp2_with fail
          go_ret
          exact ⟨by rw [HE3.out]; rfl, HK.out.2⟩
end Go.Proofs.Ytfhambfgjigneaa
set_option linter.unusedVariables false
set_option linter.unusedSimpArgs false
namespace Go.Proofs.Ytfhambfgjigneaa
open Go.RowKit
/-- As they come in: nothing is known of the lengths but that memory holds them. -/
def FR0 (w : World) (v : Value) (f : RawF) : Prop := (f.num.length ≤ 9223372036854775807 ∧ f.den.length ≤ 9223372036854775807) ∧ ∃ v1 v2, v = .agg #[.bool f.neg, v1, v2] ∧ Rd w v1 f.num ∧ Rd w v2 f.den
def EF0 (w : World) (vs : Array Value) (f : RawF) : Prop := FR0 w (.agg vs) f
abbrev FL0 (w : World) (v : Value) (fs : List RawF) : Prop := SL 3 EF0 w v fs
theorem FR0.of_below {w w1 : World} {v : Value} {f : RawF} (h : FR0 w v f) (hb : Below w.heap.size w w1) : FR0 w1 v f := by
  obtain ⟨hl, v1, v2, e, h1, h2⟩ := h
  exact ⟨hl, v1, v2, e, h1.below hb, h2.below hb⟩
theorem EF0.stays : Stays EF0 := fun _ _ _ _ h hb => FR0.of_below h hb
theorem FR0.opened {w : World} {v : Value} {f : RawF} (h : FR0 w v f) : ∃ A1 c1 A2 c2, v = .agg #[.bool f.neg, .slice A1 f.num.length c1, .slice A2 f.den.length c2] ∧ Hid (FR0 w (.agg #[.bool f.neg, .slice A1 f.num.length c1, .slice A2 f.den.length c2]) f) := by
  have h0 := h
  obtain ⟨hl, v1, v2, rfl, h1, h2⟩ := h
  obtain ⟨A1, c1, rfl, _⟩ := h1.slice
  obtain ⟨A2, c2, rfl, _⟩ := h2.slice
  exact ⟨A1, c1, A2, c2, rfl, h0⟩
theorem FL0.at3 {w : World} {A : Option Addr} {n c : Nat} {fs : List RawF} (h : FL0 w (.slice A n c) fs) {j : Nat} {f : RawF} (hj : fs[j]? = some f) :
    ∃ g o A1 c1 A2 c2, A = some ⟨g, o, none⟩ ∧ g < w.heap.size ∧ w.cell? ⟨g, o + j * 3, none⟩ = some (.bool f.neg) ∧ w.cell? ⟨g, o + j * 3 + 1, none⟩ = some (.slice A1 f.num.length c1) ∧ w.cell? ⟨g, o + j * 3 + 2, none⟩ = some (.slice A2 f.den.length c2) ∧ Hid (FR0 w (.agg #[.bool f.neg, .slice A1 f.num.length c1, .slice A2 f.den.length c2]) f) := by
  obtain ⟨g, o, vs, hA, hg, hs, hc, he⟩ := h.at_ hj
  obtain ⟨A1, c1, A2, c2, e, hF⟩ := FR0.opened he
  injection e with e
  subst e
  exact ⟨g, o, A1, c1, A2, c2, hA, hg, hc 0 _ rfl, hc 1 _ rfl, hc 2 _ rfl, hF⟩
theorem FR0.lens {w : World} {v : Value} {f : RawF} (h : FR0 w v f) : f.num.length ≤ 9223372036854775807 ∧ f.den.length ≤ 9223372036854775807 := h.1
theorem FR0.full {w : World} {v : Value} {f : RawF} (h : FR0 w v f) (hl : f.num.length ≤ 1000000000 ∧ f.den.length ≤ 1000000000) : FR w v f := ⟨hl, h.2⟩
def wordF (n : Nat) (f : RawF) : Bool := decide (f.num.length ≤ n) && decide (f.den.length ≤ n)
def wordsB (fs : List RawF) (n : Nat) : Bool := fs.all (wordF n)
theorem wordF_ok {n : Nat} {f : RawF} (h : wordF n f = true) : f.num.length ≤ n ∧ f.den.length ≤ n := by
  unfold wordF at h
  simpa using h
theorem wordsB_ok {n : Nat} {fs : List RawF} (h : wordsB fs n = true) : ∀ f ∈ fs, f.num.length ≤ n ∧ f.den.length ≤ n := fun f hf => wordF_ok (List.all_eq_true.1 h f hf)
theorem FL0.full {w : World} {v : Value} {fs : List RawF} (h : FL0 w v fs) {n : Nat} (hn : n ≤ 1000000000) (hl : wordsB fs n = true) : FL w v fs := by
  obtain ⟨A, c, e, hc, hr⟩ := h
  refine ⟨A, c, e, hc, fun hp => ?_⟩
  obtain ⟨g, o, hA, hg, he⟩ := hr hp
  refine ⟨g, o, hA, hg, fun j x hx => ?_⟩
  obtain ⟨vs, h1, h2, h3⟩ := he j x hx
  have := wordsB_ok hl x (List.mem_of_getElem? hx)
  exact ⟨vs, h1, h2, FR0.full h3 ⟨by omega, by omega⟩⟩
set_option maxHeartbeats 16000000 in
set_option maxRecDepth 100000 in
theorem words_calls (w : World) (v : Value) (fs : List RawF) (n : Nat) (h : FL0 w v fs) (hl : fs.length ≤ 9223372036854775807) (hn : n ≤ 1000) : Calls Try.prog 19 #[v, .int .i64 (n : Int)] w fun e w' => BPost w (wordsB fs n) e w' := by
  obtain ⟨A, c, rfl, hc⟩ := h.slice
  have HF := Lib.hid h
  clear h
  go_enter Try.func19, Try.ntmps19
  go_wp2_with fail
  go_loopw [9] (fun vi wr => ∃ i : Nat, i ≤ fs.length ∧ vi = .int .i64 (i : Int) ∧ (∀ (j : Nat) (f : RawF), j < i → fs[j]? = some f → wordF n f = true) ∧ Below w.heap.size w wr) (fun vi _ => fs.length - (intOf vi).toNat)
  case atStart => exact ⟨0, Nat.zero_le _, rfl, fun j _ h => absurd h (Nat.not_lt_zero _), Below.refl _ _⟩
  case round =>
    obtain ⟨i, hi, rfl, hall, hb⟩ := hrel
    have HA := Lib.hid hall
    have HB := Lib.hid hb
    clear hall hb
    by_cases hlt : i < fs.length
    · obtain ⟨f, hf⟩ : ∃ f, fs[i]? = some f := ⟨fs[i], List.getElem?_eq_getElem hlt⟩
      obtain ⟨g, o, B1, d1, B2, d2, rfl, hg, k0, k1, k2, HE⟩ := FL0.at3 (HF.out.below EF0.stays HB.out) hf
      have HFI := Lib.hid hf
      have hl1 := HE.out.lens.1
      have hl2 := HE.out.lens.2
      clear hf
      obtain ⟨l1, e1⟩ : ∃ l, l = f.num.length := ⟨_, rfl⟩
      obtain ⟨l2, e2⟩ : ∃ l, l = f.den.length := ⟨_, rfl⟩
      rw [← e1] at hl1 HE k1
      rw [← e2] at hl2 HE k2
      have E1 := Lib.hid e1
      have E2 := Lib.hid e2
      have m1 : (i : Int) < (fs.length : Int) := by omega
      have m3 : (i : Int).toNat = i := by omega
      have m4 : (0 : Int) ≤ (i : Int) := by omega
      clear e1 e2
      by_cases q1 : n < l1
      · have u1 : decide (n < l1) = true := decide_eq_true q1
        have HE2 : Hid (wordsB fs n = false) := by
          unfold Hid wordsB
          refine all_false HFI.out ?_
          unfold wordF
          rw [← E1.out, decide_eq_false (by omega)]
          rfl
        clear q1
        go_wp2_with fail
        go_ret
        exact ⟨by rw [HE2.out]; rfl, below_next HB.out (below_new _ _)⟩
      have u1 : decide (n < l1) = false := decide_eq_false q1
      by_cases q2 : n < l2
      · have u2 : decide (n < l2) = true := decide_eq_true q2
        have HE2 : Hid (wordsB fs n = false) := by
          unfold Hid wordsB
          refine all_false HFI.out ?_
          unfold wordF
          rw [← E2.out, decide_eq_false (show ¬ l2 ≤ n by omega), Bool.and_false]
        clear q1 q2
        go_wp2_with fail
        go_ret
        exact ⟨by rw [HE2.out]; rfl, below_next HB.out (below_new _ _)⟩
      have u2 : decide (n < l2) = false := decide_eq_false q2
      have HG : Hid (wordF n f = true) := by
        unfold Hid wordF
        rw [← E1.out, ← E2.out, decide_eq_true (show l1 ≤ n by omega), decide_eq_true (show l2 ≤ n by omega)]
        rfl
      clear q1 q2
      go_wp2_with fail
      go_roundw
      case rel =>
        refine ⟨i + 1, by omega, by go_num, fun j f' hj hf' => ?_, below_next HB.out (below_new _ _)⟩
        by_cases hji : j = i
        · rw [hji, HFI.out] at hf'
          injection hf' with e
          rw [← e]
          exact HG.out
        · exact HA.out j f' (by omega) hf'
      case measure => simp [intOf]; omega
    · obtain rfl : i = fs.length := by omega
      have HE2 : Hid (wordsB fs n = true) := by
        unfold Hid wordsB
        exact all_true fun j f hf => HA.out j f (List.getElem?_eq_some_iff.1 hf).1 hf
      go_wp2_with fail
      go_ret
      exact ⟨by rw [HE2.out]; rfl, HB.out⟩
end Go.Proofs.Ytfhambfgjigneaa
set_option linter.unusedVariables false
set_option linter.unusedSimpArgs false
namespace Go.Proofs.Ytfhambfgjigneaa
open Go.RowKit
def ER0 (w : World) (vs : Array Value) (r : RowF) : Prop := r.a.length ≤ 9223372036854775807 ∧ ∃ v A1 n1 c1 A2 n2 c2, vs = #[v, .int .i64 r.s, .bool r.b.neg, .slice A1 n1 c1, .slice A2 n2 c2] ∧ I64 r.s ∧ FL0 w v r.a ∧ FR0 w (.agg #[.bool r.b.neg, .slice A1 n1 c1, .slice A2 n2 c2]) r.b
abbrev RL0 (w : World) (v : Value) (rs : List RowF) : Prop := SL 5 ER0 w v rs
def PG0 (w : World) (v : Value) (p : ProgF) : Prop := (p.free.length ≤ 9223372036854775807 ∧ p.goal.length ≤ 9223372036854775807 ∧ p.rows.length ≤ 9223372036854775807) ∧ ∃ v1 v2 v3, v = .agg #[.int .i64 p.vars, v1, v2, v3] ∧ I64 p.vars ∧ BL w v1 p.free ∧ FL0 w v2 p.goal ∧ RL0 w v3 p.rows
theorem ER0.stays : Stays ER0 := fun _ _ _ _ h hb => by
  obtain ⟨hl, v, A1, n1, c1, A2, n2, c2, e, hs, h1, h2⟩ := h
  exact ⟨hl, v, A1, n1, c1, A2, n2, c2, e, hs, h1.below EF0.stays hb, h2.of_below hb⟩
theorem PG0.of_below {w w1 : World} {v : Value} {p : ProgF} (h : PG0 w v p) (hb : Below w.heap.size w w1) : PG0 w1 v p := by
  obtain ⟨hl, v1, v2, v3, e, hv, h1, h2, h3⟩ := h
  exact ⟨hl, v1, v2, v3, e, hv, h1.below EB.stays hb, h2.below EF0.stays hb, h3.below ER0.stays hb⟩
theorem PG0.opened {w : World} {v : Value} {p : ProgF} (h : PG0 w v p) : ∃ A1 c1 A2 c2 A3 c3, v = .agg #[.int .i64 p.vars, .slice A1 p.free.length c1, .slice A2 p.goal.length c2, .slice A3 p.rows.length c3] ∧ Hid (I64 p.vars) ∧ Hid (BL w (.slice A1 p.free.length c1) p.free) ∧ Hid (FL0 w (.slice A2 p.goal.length c2) p.goal) ∧ Hid (RL0 w (.slice A3 p.rows.length c3) p.rows) := by
  obtain ⟨_, v1, v2, v3, rfl, hv, h1, h2, h3⟩ := h
  obtain ⟨A1, c1, rfl, _⟩ := h1.slice
  obtain ⟨A2, c2, rfl, _⟩ := h2.slice
  obtain ⟨A3, c3, rfl, _⟩ := h3.slice
  exact ⟨A1, c1, A2, c2, A3, c3, rfl, hv, h1, h2, h3⟩
theorem RL0.at5 {w : World} {A : Option Addr} {n c : Nat} {rs : List RowF} (h : RL0 w (.slice A n c) rs) {j : Nat} {r : RowF} (hj : rs[j]? = some r) :
    ∃ g o A1 c1 A2 c2 A3 c3, A = some ⟨g, o, none⟩ ∧ g < w.heap.size ∧ w.cell? ⟨g, o + j * 5, none⟩ = some (.slice A1 r.a.length c1) ∧ w.cell? ⟨g, o + j * 5 + 1, none⟩ = some (.int .i64 r.s) ∧ w.cell? ⟨g, o + j * 5 + 2, none⟩ = some (.bool r.b.neg) ∧
      w.cell? ⟨g, o + j * 5 + 3, none⟩ = some (.slice A2 r.b.num.length c2) ∧ w.cell? ⟨g, o + j * 5 + 4, none⟩ = some (.slice A3 r.b.den.length c3) ∧ Hid (r.a.length ≤ 9223372036854775807) ∧ Hid (I64 r.s) ∧ Hid (FL0 w (.slice A1 r.a.length c1) r.a) ∧ Hid (FR0 w (.agg #[.bool r.b.neg, .slice A2 r.b.num.length c2, .slice A3 r.b.den.length c3]) r.b) := by
  obtain ⟨g, o, vs, hA, hg, hs, hc, hl, v, A2, n2, c2, A3, n3, c3, rfl, hI, h1, h2⟩ := h.at_ hj
  obtain ⟨A1, c1, rfl, _⟩ := h1.slice
  obtain ⟨B1, d1, B2, d2, e, h2'⟩ := h2.opened
  have e' : (A2 = B1 ∧ n2 = r.b.num.length ∧ c2 = d1) ∧ A3 = B2 ∧ n3 = r.b.den.length ∧ c3 = d2 := by simpa using e
  obtain ⟨⟨rfl, rfl, rfl⟩, rfl, rfl, rfl⟩ := e'
  exact ⟨g, o, A1, c1, A2, c2, A3, c3, hA, hg, hc 0 _ rfl, hc 1 _ rfl, hc 2 _ rfl, hc 3 _ rfl, hc 4 _ rfl, hl, hI, h1, h2⟩
def rowIn (vars : Nat) (r : RowF) : Bool := decide (r.a.length ≤ vars) && (wordsB r.a 6 && wordsB [r.b] 6)
def withinB (p : ProgF) (vars rows : Nat) : Bool := decide (p.vars ≤ (vars : Int)) && (decide (p.rows.length ≤ rows) && (decide (p.free.length ≤ vars) && (decide (p.goal.length ≤ vars) && (wordsB p.goal 6 && p.rows.all (rowIn vars)))))
theorem withinB_ok {p : ProgF} {vars rows : Nat} (h : withinB p vars rows = true) : p.vars ≤ vars ∧ p.rows.length ≤ rows ∧ p.free.length ≤ vars ∧ p.goal.length ≤ vars ∧ wordsB p.goal 6 = true ∧ ∀ r ∈ p.rows, r.a.length ≤ vars ∧ wordsB r.a 6 = true ∧ wordF 6 r.b = true := by
  unfold withinB at h
  simp only [Bool.and_eq_true, decide_eq_true_eq] at h
  obtain ⟨h1, h2, h3, h4, h5, h6⟩ := h
  refine ⟨h1, h2, h3, h4, h5, fun r hr => ?_⟩
  have := List.all_eq_true.1 h6 r hr
  unfold rowIn at this
  simp only [Bool.and_eq_true, decide_eq_true_eq] at this
  obtain ⟨a, b, c⟩ := this
  refine ⟨a, b, ?_⟩
  unfold wordsB at c
  simpa using c
theorem PG0.full {w : World} {v : Value} {p : ProgF} (h : PG0 w v p) {vars rows : Nat} (hw : withinB p vars rows = true) : PR w v p := by
  obtain ⟨_, v1, v2, v3, e, hv, h1, h2, h3⟩ := h
  obtain ⟨_, _, _, _, h5, h6⟩ := withinB_ok hw
  refine ⟨v1, v2, v3, e, hv, h1, h2.full (by decide) h5, ?_⟩
  obtain ⟨A, c, e, hc, hr⟩ := h3
  refine ⟨A, c, e, hc, fun hp => ?_⟩
  obtain ⟨g, o, hA, hg, he⟩ := hr hp
  refine ⟨g, o, hA, hg, fun j x hx => ?_⟩
  obtain ⟨vs, g1, g2, _, v, A1, n1, c1, A2, n2, c2, e, hI, g3, g4⟩ := he j x hx
  obtain ⟨_, b, c⟩ := h6 x (List.mem_of_getElem? hx)
  have := wordF_ok c
  exact ⟨vs, g1, g2, v, A1, n1, c1, A2, n2, c2, e, hI, g3.full (by decide) b, g4.full ⟨by omega, by omega⟩⟩
theorem FL0.one {w : World} {x y z : Value} {f : RawF} (h : FR0 w (.agg #[x, y, z]) f) (t : Nat) : FL0 (w.alloc (.cells #[x, y, z] t)) (.slice (some ⟨w.heap.size, 0, none⟩) 1 1) [f] := by
  refine ⟨_, _, rfl, Nat.le_refl _, fun _ => ⟨w.heap.size, 0, rfl, (Blk.new w t #[x, y, z]).lt, fun j f' hj => ?_⟩⟩
  obtain ⟨hlt, e⟩ := List.getElem?_eq_some_iff.1 hj
  obtain rfl : j = 0 := by simpa using hlt
  obtain rfl : f = f' := by simpa using e
  refine ⟨#[x, y, z], rfl, fun i v hv => ?_, h.of_below (below_new w _)⟩
  have := (Blk.new w t #[x, y, z]).cell hv
  simpa using this
set_option maxHeartbeats 16000000 in
set_option maxRecDepth 100000 in
theorem within_calls (w : World) (v : Value) (p : ProgF) (vars rows : Nat) (h : PG0 w v p) (hv1 : vars ≤ 1000) (hr1 : rows ≤ 1000) : Calls Try.prog 11 #[v, .int .i64 (vars : Int), .int .i64 (rows : Int)] w fun e w' => BPost w (withinB p vars rows) e w' := by
  have hl := h.1
  obtain ⟨A1, c1, A2, c2, A3, c3, rfl, HI, H1, H2, H3⟩ := h.opened
  have hl1 := hl.1
  have hl2 := hl.2.1
  have hl3 := hl.2.2
  clear h hl
  obtain ⟨pv, hv⟩ : ∃ n, n = p.vars := ⟨_, rfl⟩
  rw [← hv]
  have HV := Lib.hid hv
  clear hv
  go_enter Try.func11, Try.ntmps11
  by_cases a1 : pv > (vars : Int)
  · have t1 : decide (pv > (vars : Int)) = true := decide_eq_true a1
    have HR : Hid (withinB p vars rows = false) := by unfold Hid withinB; rw [← HV.out, decide_eq_false (by omega)]; rfl
    clear a1
    go_wp2_with fail
    go_ret
    exact ⟨by rw [HR.out]; rfl, below_new w _⟩
  have t1 : decide (pv > (vars : Int)) = false := decide_eq_false a1
  by_cases a2 : p.rows.length > rows
  · have t2 : decide (rows < p.rows.length) = true := decide_eq_true (by omega)
    have HR : Hid (withinB p vars rows = false) := by unfold Hid withinB; rw [decide_eq_false (show ¬ p.rows.length ≤ rows by omega), Bool.false_and, Bool.and_false]
    clear a1 a2
    go_wp2_with fail
    go_ret
    exact ⟨by rw [HR.out]; rfl, below_new w _⟩
  have t2 : decide (rows < p.rows.length) = false := decide_eq_false (by omega)
  by_cases a3 : p.free.length > vars
  · have t3 : decide (vars < p.free.length) = true := decide_eq_true (by omega)
    have HR : Hid (withinB p vars rows = false) := by unfold Hid withinB; rw [decide_eq_false (show ¬ p.free.length ≤ vars by omega), Bool.false_and, Bool.and_false, Bool.and_false]
    clear a1 a2 a3
    go_wp2_with fail
    go_ret
    exact ⟨by rw [HR.out]; rfl, below_new w _⟩
  have t3 : decide (vars < p.free.length) = false := decide_eq_false (by omega)
  by_cases a4 : p.goal.length > vars
  · have t4 : decide (vars < p.goal.length) = true := decide_eq_true (by omega)
    have HR : Hid (withinB p vars rows = false) := by unfold Hid withinB; rw [decide_eq_false (show ¬ p.goal.length ≤ vars by omega), Bool.false_and, Bool.and_false, Bool.and_false, Bool.and_false]
    clear a1 a2 a3 a4
    go_wp2_with fail
    go_ret
    exact ⟨by rw [HR.out]; rfl, below_new w _⟩
  have t4 : decide (vars < p.goal.length) = false := decide_eq_false (by omega)
  have HHEAD : Hid (withinB p vars rows = (wordsB p.goal 6 && p.rows.all (rowIn vars))) := by
    unfold Hid withinB
    rw [← HV.out, decide_eq_true (show pv ≤ (vars : Int) by omega), decide_eq_true (show p.rows.length ≤ rows by omega), decide_eq_true (show p.free.length ≤ vars by omega), decide_eq_true (show p.goal.length ≤ vars by omega)]
    rfl
  clear a1 a2 a3 a4
  go_wp2_with fail
  have H0 := Lib.hid (HS.one (w := w) #[.int .i64 pv, .slice A1 p.free.length c1, .slice A2 p.goal.length c2, .slice A3 p.rows.length c3] 26)
  generalize w.alloc (.cells #[.int .i64 pv, .slice A1 p.free.length c1, .slice A2 p.goal.length c2, .slice A3 p.rows.length c3] 26) = W0 at *
  refine (words_calls W0 _ p.goal 6 (H2.out.below EF0.stays H0.out.2) hl2 (by decide)).mono ?_
  rintro e w1 ⟨rfl, hb⟩
  have H1' := Lib.hid (H0.out.step hb)
  obtain ⟨x0, x1, x2, x3⟩ := H1'.out.c4 0 rfl
  clear hb
  cases hg : wordsB p.goal 6 with
  | false =>
    have HR : Hid (withinB p vars rows = false) := by unfold Hid; rw [HHEAD.out, hg]; rfl
    clear hg
    go_wp2_with fail
    go_ret
    exact ⟨by rw [HR.out]; rfl, H1'.out.2⟩
  | true =>
    have HE : Hid (withinB p vars rows = p.rows.all (rowIn vars)) := by unfold Hid; rw [HHEAD.out, hg]; rfl
    clear hg
    go_wp2_with fail
    clear x0 x1 x2 x3
    go_loopw [43] (fun vi wr => ∃ i : Nat, i ≤ p.rows.length ∧ vi = .int .i64 (i : Int) ∧ (∀ (j : Nat) (r : RowF), j < i → p.rows[j]? = some r → rowIn vars r = true) ∧ HS w [(w.heap.size, 26, #[.int .i64 pv, .slice A1 p.free.length c1, .slice A2 p.goal.length c2, .slice A3 p.rows.length c3])] wr) (fun vi _ => p.rows.length - (intOf vi).toNat)
    case atStart => exact ⟨0, Nat.zero_le _, rfl, fun j _ h => absurd h (Nat.not_lt_zero _), H1'.out⟩
    case round =>
      obtain ⟨i, hi, rfl, hall, hk⟩ := hrel
      have HA := Lib.hid hall
      have HK := Lib.hid hk
      clear hall hk
      by_cases hlt : i < p.rows.length
      · obtain ⟨r, hr⟩ : ∃ r, p.rows[i]? = some r := ⟨p.rows[i], List.getElem?_eq_getElem hlt⟩
        obtain ⟨g, o, B1, d1, B2, d2, B3, d3, rfl, hg, k0, k1, k2, k3, k4, hla, HI', HA', HB'⟩ := RL0.at5 (H3.out.below ER0.stays HK.out.2) hr
        have hrl := hla.out
        have HRR := Lib.hid hr
        clear hr hla
        have m1 : (i : Int) < (p.rows.length : Int) := by omega
        have m3 : (i : Int).toNat = i := by omega
        have m4 : (0 : Int) ≤ (i : Int) := by omega
        obtain ⟨s, hs⟩ : ∃ s, s = r.s := ⟨_, rfl⟩
        rw [← hs] at k1
        obtain ⟨la, hla⟩ : ∃ l, l = r.a.length := ⟨_, rfl⟩
        rw [← hla] at hrl HA' k0
        have HLA := Lib.hid hla
        obtain ⟨lb1, hlb1⟩ : ∃ l, l = r.b.num.length := ⟨_, rfl⟩
        obtain ⟨lb2, hlb2⟩ : ∃ l, l = r.b.den.length := ⟨_, rfl⟩
        rw [← hlb1] at HB' k3
        rw [← hlb2] at HB' k4
        clear hs hla hlb1 hlb2
        by_cases q1 : la > vars
        · have u1 : decide (vars < la) = true := decide_eq_true (by omega)
          have HR : Hid (withinB p vars rows = false) := by
            unfold Hid
            rw [HE.out]
            refine all_false HRR.out ?_
            unfold rowIn
            rw [← HLA.out, decide_eq_false (by omega)]
            rfl
          clear q1
          go_wp2_with fail
          go_ret
          exact ⟨by rw [HR.out]; rfl, (HK.out.step (below_new _ _)).2⟩
        have u1 : decide (vars < la) = false := decide_eq_false (by omega)
        have HLE : Hid (la ≤ vars) := Nat.le_of_not_lt q1
        clear q1
        go_wp2_with fail
        have HB1 := Lib.hid (below_new wr (.cells #[.slice B1 la d1, .int .i64 s, .bool r.b.neg, .slice B2 lb1 d2, .slice B3 lb2 d3] 65))
        have HKB1 := Lib.hid (Blk.new wr 65 #[.slice B1 la d1, .int .i64 s, .bool r.b.neg, .slice B2 lb1 d2, .slice B3 lb2 d3])
        generalize wr.alloc (.cells #[.slice B1 la d1, .int .i64 s, .bool r.b.neg, .slice B2 lb1 d2, .slice B3 lb2 d3] 65) = W1 at *
        refine (words_calls W1 _ r.a 6 (HA'.out.below EF0.stays HB1.out) (by rw [← HLA.out]; exact hrl) (by decide)).mono ?_
        rintro e w2 ⟨rfl, hb⟩
        have HB2 := Lib.hid (below_next HB1.out hb)
        have HKB2 := Lib.hid (HKB1.out.below hb HKB1.out.lt)
        have z2 := HKB2.out.cell (j := 2) rfl
        have z3 := HKB2.out.cell (j := 3) rfl
        have z4 := HKB2.out.cell (j := 4) rfl
        have hz := HKB2.out.lt
        clear hb
        cases hwa : wordsB r.a 6 with
        | false =>
          have HR : Hid (withinB p vars rows = false) := by
            unfold Hid
            rw [HE.out]
            refine all_false HRR.out ?_
            unfold rowIn
            rw [hwa, Bool.false_and, Bool.and_false]
          clear hwa
          go_wp2_with fail
          go_ret
          exact ⟨by rw [HR.out]; rfl, (HK.out.step HB2.out).2⟩
        | true =>
          have HWA := Lib.hid hwa
          clear hwa
          go_wp2_with fail
          refine (words_calls _ _ [r.b] 6 (FL0.one (HB'.out.of_below HB2.out) 40) (by simp) (by decide)).mono ?_
          rintro e w3 ⟨rfl, hb⟩
          have HB3 := Lib.hid (below_next (below_next HB2.out (below_new w2 _)) hb)
          clear hb
          cases hwb : wordsB [r.b] 6 with
          | false =>
            have HR : Hid (withinB p vars rows = false) := by
              unfold Hid
              rw [HE.out]
              refine all_false HRR.out ?_
              unfold rowIn
              rw [hwb, Bool.and_false, Bool.and_false]
            clear hwb
            go_wp2_with fail
            go_ret
            exact ⟨by rw [HR.out]; rfl, (HK.out.step HB3.out).2⟩
          | true =>
            have HG : Hid (rowIn vars r = true) := by
              unfold Hid rowIn
              rw [← HLA.out, HWA.out, hwb, decide_eq_true HLE.out]
              rfl
            clear hwb
            go_wp2_with fail
            go_roundw
            case rel =>
              refine ⟨i + 1, by omega, by go_num, fun j r' hj hr' => ?_, HK.out.step HB3.out⟩
              by_cases hji : j = i
              · rw [hji, HRR.out] at hr'
                injection hr' with e
                rw [← e]
                exact HG.out
              · exact HA.out j r' (by omega) hr'
            case measure => simp [intOf]; omega
      · obtain rfl : i = p.rows.length := by omega
        have HE2 : Hid (withinB p vars rows = true) := by unfold Hid; rw [HE.out]; exact all_true fun j r hr => HA.out j r (List.getElem?_eq_some_iff.1 hr).1 hr
        go_wp2_with fail
        go_ret
        exact ⟨by rw [HE2.out]; rfl, HK.out.2⟩
end Go.Proofs.Ytfhambfgjigneaa
set_option linter.unusedVariables false
set_option linter.unusedSimpArgs false
namespace Go.Proofs.Ytfhambfgjigneaa
open Go.RowKit
theorem fit_words {n : Nat} {f : RawF} (h : wordF n f = true) (hn : 1 ≤ n) : FitQ n (fixQ f) := by
  obtain ⟨h1, h2⟩ := wordF_ok h
  by_cases hr : RightF f
  · have h3 := right_raw hr
    have e1 : f.num = dg (fixQ f).num.natAbs := congrArg RawF.num h3
    have e2 : f.den = dg (fixQ f).den := congrArg RawF.den h3
    exact ⟨by unfold wlen; rw [← e1]; exact h1, by unfold wlen; rw [← e2]; exact h2⟩
  · rw [fixQ_wrong hr]
    exact fit_mono fit_zero hn
theorem fold_fits (k : Nat) : ∀ (l : List Rat) (c : Nat) (a : Rat), FitQ c a → (∀ q ∈ l, FitQ k q) → 2 * (l.length * (k + 1) + c) ≤ 4096 → l.foldl dotStep a = l.foldl (· + ·) a
  | [], _, _, _, _, _ => rfl
  | q :: l, c, a, ha, h, hk => by
    rw [List.length_cons, Nat.add_mul] at hk
    have hq := h q (by simp)
    have hs := fit_add ha hq (Nat.le_refl _)
    have e : dotStep a q = a + q := by
      unfold dotStep
      rw [capQ_fits (Nat.le_trans hq.size (by omega)), capQ_fits (Nat.le_trans hs.size (by omega))]
    rw [List.foldl_cons, List.foldl_cons, e]
    exact fold_fits k l _ _ hs (fun x hx => h x (List.mem_cons_of_mem _ hx)) (by omega)
theorem fit_zip {k1 k2 : Nat} : ∀ (a b : List Rat), (∀ q ∈ a, FitQ k1 q) → (∀ q ∈ b, FitQ k2 q) → ∀ q ∈ List.zipWith (· * ·) a b, FitQ (k1 + k2) q
  | [], _, _, _, q, hq => by simp at hq
  | _ :: _, [], _, _, q, hq => by simp at hq
  | x :: a, y :: b, ha, hb, q, hq => by
    rw [List.zipWith_cons_cons, List.mem_cons] at hq
    rcases hq with rfl | hq
    · exact fit_mul (ha x (by simp)) (hb y (by simp)) (Nat.le_refl _)
    · exact fit_zip a b (fun z hz => ha z (List.mem_cons_of_mem _ hz)) (fun z hz => hb z (List.mem_cons_of_mem _ hz)) q hq
theorem rdotQ_fits {k1 k2 n : Nat} {a b : List Rat} (ha : ∀ q ∈ a, FitQ k1 q) (hb : ∀ q ∈ b, FitQ k2 q) (hn : a.length ≤ n) (hk : 2 * (n * (k1 + k2 + 1) + 1) ≤ 4096) : rdotQ a b = dotQ a b := by
  unfold rdotQ dotQ sumQ
  refine fold_fits (k1 + k2) _ 1 0 fit_zero (fit_zip a b ha hb) ?_
  have h1 : (List.zipWith (· * ·) a b).length ≤ n := by rw [List.length_zipWith]; omega
  have h2 := Nat.mul_le_mul_right (k1 + k2 + 1) h1
  omega
theorem dotQ_fits {k1 k2 n : Nat} {a b : List Rat} (ha : ∀ q ∈ a, FitQ k1 q) (hb : ∀ q ∈ b, FitQ k2 q) (hn : a.length ≤ n) : FitQ (n * (k1 + k2 + 1) + 1) (dotQ a b) := by
  have h1 : (List.zipWith (· * ·) a b).length ≤ n := by rw [List.length_zipWith]; omega
  have h2 := Nat.mul_le_mul_right (k1 + k2 + 1) h1
  exact fit_mono (fit_sum (List.zipWith (· * ·) a b) (k1 + k2) (fit_zip a b ha hb)) (by omega)
theorem cap_dotQ {k1 k2 n : Nat} {a b : List Rat} (ha : ∀ q ∈ a, FitQ k1 q) (hb : ∀ q ∈ b, FitQ k2 q) (hn : a.length ≤ n) (hk : 2 * (n * (k1 + k2 + 1) + 1) ≤ 4096) : capQ (dotQ a b) = dotQ a b :=
  capQ_fits (Nat.le_trans (dotQ_fits ha hb hn).size hk)
theorem fit_list {n : Nat} {fs : List RawF} (h : wordsB fs n = true) (hn : 1 ≤ n) : ∀ q ∈ fs.map fixQ, FitQ n q := fun q hq => by
  obtain ⟨f, hf, rfl⟩ := List.mem_map.1 hq
  exact fit_words (List.all_eq_true.1 h f hf) hn
theorem holds_same (s : Int) (a b : Rat) : holdsB s a b = rholdsB s a b := by
  unfold holdsB rholdsB
  by_cases h : s = 0
  · subst h
    cases decide (ordQ a b = 0) <;> rfl
  · rw [decide_eq_true (show s ≠ 0 from h), Bool.true_and]
theorem all_congr {α : Type} {l : List α} {f g : α → Bool} (h : ∀ a ∈ l, f a = g a) : l.all f = l.all g := by
  induction l with
  | nil => rfl
  | cons a l ih => rw [List.all_cons, List.all_cons, h a (by simp), ih fun b hb => h b (List.mem_cons_of_mem _ hb)]
theorem value_same {p : ProgF} {x : List RawF} {vars rows k : Nat} (hp : withinB p vars rows = true) (hx : wordsB x k = true) (hk1 : 1 ≤ k) (hk : 2 * (vars * (6 + k + 1) + 1) ≤ 4096) : valueP p x = rvalueP p x := by
  obtain ⟨_, _, _, hg, hgw, _⟩ := withinB_ok hp
  have h1 := fit_list hgw (by decide)
  have h2 := fit_list hx hk1
  unfold valueP rvalueP
  split
  · rfl
  · rw [cap_dotQ h1 h2 (by rw [List.length_map]; exact hg) hk, rdotQ_fits h1 h2 (by rw [List.length_map]; exact hg) hk]
theorem fits_same {p : ProgF} {x : List RawF} {vars rows k : Nat} (hp : withinB p vars rows = true) (hx : wordsB x k = true) (hk1 : 1 ≤ k) (hk : 2 * (vars * (6 + k + 1) + 1) ≤ 4096) : fitsP p x = rfitsP p x := by
  obtain ⟨_, _, _, _, _, hr⟩ := withinB_ok hp
  have h2 := fit_list hx hk1
  have e : p.rows.all (rowHolds (x.map fixQ)) = p.rows.all (rrowHolds (x.map fixQ)) := all_congr fun r hm => by
    obtain ⟨h3, h4, _⟩ := hr r hm
    have h1 := fit_list h4 (by decide)
    unfold rowHolds rrowHolds
    rw [cap_dotQ h1 h2 (by rw [List.length_map]; exact h3) hk, rdotQ_fits h1 h2 (by rw [List.length_map]; exact h3) hk, holds_same]
  unfold fitsP rfitsP fitsB rfitsB
  rw [e, Bool.and_assoc]
theorem ordQ_self (a : Rat) : ordQ a a = 0 := by unfold ordQ; rw [if_pos rfl]
end Go.Proofs.Ytfhambfgjigneaa

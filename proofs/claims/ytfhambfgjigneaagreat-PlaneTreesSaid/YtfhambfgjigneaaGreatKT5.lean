/- Contracts of Go functions that the statement reaches, proved by walking their text, and plain laws over them (texts put together). -/
import Derived.Test.YtfhambfgjigneaaGreatKT4
import Derived.Test.YtfhambfgjigneaaGreatKT1
import Derived.Test.YtfhambfgjigneaaGreatKT2
import Derived.Test.YtfhambfgjigneaaGreatKT3
set_option linter.unusedVariables false
set_option linter.unusedSimpArgs false
namespace Go.Proofs.YtfhambfgjigneaaGreat
open Go.RowKit
theorem sg_self (p : Int) : sg (decide (p < 0)) p.natAbs = p := by
 unfold sg
 by_cases h : p < 0
 ·rw [decide_eq_true h, if_pos rfl]; omega
 ·rw [decide_eq_false h, if_neg (by decide)]; omega
theorem mk_num_le (p : Int) (n : Nat) : (mkRat p n).num.natAbs ≤ p.natAbs := by
 by_cases hn : n = 0
 ·rw [hn, Rat.mkRat_zero]; exact Nat.zero_le _
 ·rw [← sg_self p, mk_num _ _ _ hn, sg_natAbs, sg_natAbs]
  exact Nat.div_le_self _ _
theorem mk_den_le (p : Int) (n : Nat) (hn : n ≠ 0) : (mkRat p n).den ≤ n := by
 rw [← sg_self p, mk_den _ _ _ hn]
 exact Nat.div_le_self _ _
theorem fit_mk {k : Nat} {p : Int} {n : Nat} (hn : n ≠ 0) (h1 : wlen p.natAbs ≤ k) (h2 : wlen n ≤ k) : FitQ k (mkRat p n) :=
 ⟨Nat.le_trans (wlen_mono (mk_num_le p n)) h1, Nat.le_trans (wlen_mono (mk_den_le p n hn)) h2⟩
theorem wlen_add_le {a b m n : Nat} (h : wlen m ≤ a) (h2 : wlen n ≤ a) (hb : a + 1 ≤ b) : wlen (m + n) ≤ b := by have := wlen_add m n; omega
theorem fit_add {a b c : Nat} {p q : Rat} (h : FitQ a p) (h2 : FitQ b q) (hc : a + b + 1 ≤ c) : FitQ c (p + q) := by
 rw [Rat.add_def']
 refine fit_mk (Nat.mul_ne_zero p.den_nz q.den_nz) ?_ ?_
 ·refine Nat.le_trans (wlen_mono (Int.natAbs_add_le _ _)) ?_
  rw [Int.natAbs_mul, Int.natAbs_mul, Int.natAbs_natCast, Int.natAbs_natCast]
  have m1 := wlen_mul p.num.natAbs q.den
  have m2 := wlen_mul q.num.natAbs p.den
  have := h.1; have := h.2; have := h2.1; have := h2.2
  exact wlen_add_le (a := a + b) (by omega) (by omega) hc
 ·have m1 := wlen_mul p.den q.den
  have := h.2; have := h2.2
  omega
theorem fit_mul {a b c : Nat} {p q : Rat} (h : FitQ a p) (h2 : FitQ b q) (hc : a + b ≤ c) : FitQ c (p * q) := by
 rw [Rat.mul_def']
 refine fit_mk (Nat.mul_ne_zero p.den_nz q.den_nz) ?_ ?_
 ·rw [Int.natAbs_mul]
  have m1 := wlen_mul p.num.natAbs q.num.natAbs
  have := h.1; have := h2.1
  omega
 ·have m1 := wlen_mul p.den q.den
  have := h.2; have := h2.2
  omega
theorem fit_neg {a : Nat} {p : Rat} (h : FitQ a p) : FitQ a (-p) := by
 refine ⟨?_, ?_⟩
 ·rw [Rat.neg_num, Int.natAbs_neg]; exact h.1
 ·rw [Rat.neg_den]; exact h.2
theorem fit_mono {a b : Nat} {p : Rat} (h : FitQ a p) (hab : a ≤ b) : FitQ b p := ⟨Nat.le_trans h.1 hab, Nat.le_trans h.2 hab⟩
theorem fit_cap {a : Nat} {p : Rat} (h : FitQ a p) (ha : a ≤ 2048) : capQ p = p := by unfold capQ; rw [if_pos (by have := h.size; omega)]
theorem size_sum (f g : RawF) : sizeQ (fixQ f + fixQ g) ≤ 4000000000 := by
 have := (fit_add (fit_fix f) (fit_fix g) (Nat.le_refl _)).size
 omega
theorem size_prod (f g : RawF) : sizeQ (fixQ f * fixQ g) ≤ 4000000000 := by
 have := (fit_mul (fit_fix f) (fit_fix g) (Nat.le_refl _)).size
 omega
theorem size_neg (f : RawF) : sizeQ (-(fixQ f)) ≤ 4000000000 := by
 have := (fit_neg (fit_fix f)).size
 omega
theorem size_diff (f g : RawF) : sizeQ (fixQ f + -(fixQ g)) ≤ 4000000000 := by
 have := (fit_add (fit_fix f) (fit_neg (fit_fix g)) (Nat.le_refl _)).size
 omega
theorem capQ_fix (f : RawF) : capQ (fixQ f) = fixQ f := by unfold capQ; rw [if_pos (sizeQ_fix f)]
theorem capQ_size (q : Rat) : sizeQ (capQ q) ≤ 4096 := by
 unfold capQ
 split
 ·assumption
 ·rw [sizeQ_zero]; decide
theorem FPost.q {w : World} {q q' : Rat} {e : Ending} {w' : World} (h : FPost w q e w') (e' : q = q') : FPost w q' e w' := e' ▸ h
set_option maxHeartbeats 16000000 in
set_option maxRecDepth 100000 in
theorem fix_calls (w : World) (v : Value) (f : RawF) (h : FR w v f) : Calls Tryz.prog 104 #[v] w fun e w' => FPost w (fixQ f) e w' := by
 obtain ⟨A1, n1, c1, A2, n2, c2, rfl, H⟩ := h.opened
 clear h
 go_enter Tryz.func104, Tryz.ntmps104
 go_wp2_with fail
 have H0 := Hd (HS.two (w := w) #[.bool f.neg, .slice A1 n1 c1, .slice A2 n2 c2] #[.bool false, .slice none 0 0, .slice none 0 0] 46 46)
 generalize (w.alloc (.cells #[.bool f.neg, .slice A1 n1 c1, .slice A2 n2 c2] 46)).alloc (.cells #[.bool false, .slice none 0 0, .slice none 0 0] 46) = W0 at *
 refine (taken_calls _ _ f (H.out.of_below H0.out.2)).mono ?_
 rintro e w1 ⟨v, rfl, hv, hb⟩
 obtain ⟨A5, n5, c5, A6, n6, c6, rfl, HV⟩ := hv.opened'
 have H1 := Hd (H0.out.step hb)
 clear hb hv
 go_wp2_with fail
 refine (told_calls _ _ _ HV.out (by have := sizeQ_fix f; omega)).mono ?_
 rintro e w2 ⟨v, rfl, hv, hb⟩
 rw [capQ_fix] at hv
 obtain ⟨A5, n5, c5, A6, n6, c6, rfl, HV⟩ := hv.opened
 have H2 := Hd (H1.out.step hb)
 clear hb hv
 obtain ⟨e0, e1, e2⟩ := (H2.out.blk 0 rfl).c3
 obtain ⟨f0, f1, f2⟩ := (H2.out.blk 0 rfl).f3
 go_wp2_with fail
 exact end40 Tryz.results104 rfl (H2.out.blk 0 rfl) HV.out (by omega) H2.out.2
set_option maxHeartbeats 16000000 in
set_option maxRecDepth 100000 in
theorem sgn_calls (w : World) (v : Value) (f : RawF) (h : FR w v f) : Calls Tryz.prog 43 #[v] w fun e w' => IPost w (signQ (fixQ f)) e w' := by
 obtain ⟨A1, n1, c1, A2, n2, c2, rfl, H⟩ := h.opened
 clear h
 go_enter Tryz.func43, Tryz.ntmps43
 go_wp2_with fail
 have H0 := Hd (HS.one (w := w) #[.bool f.neg, .slice A1 n1 c1, .slice A2 n2 c2] 46)
 generalize w.alloc (.cells #[.bool f.neg, .slice A1 n1 c1, .slice A2 n2 c2] 46) = W0 at *
 refine (taken_calls _ _ f (H.out.of_below H0.out.2)).mono ?_
 rintro e w1 ⟨v, rfl, hv, hb⟩
 obtain ⟨A5, n5, c5, A6, n6, c6, rfl, HV⟩ := hv.opened'
 have H1 := Hd (H0.out.step hb)
 clear hb hv
 go_wp2_with fail
 refine (sign_calls _ _ _ HV.out).mono ?_
 rintro e w2 ⟨rfl, hb⟩
 have H2 := Hd (H1.out.step hb)
 clear hb
 go_wp2_with fail
 go_ret
 exact ⟨rfl, H2.out.2⟩
def HR (w : World) (bs : List (Nat × Nat × Array Value)) (g t : Nat) (W : World) : Prop := HS w bs W ∧ ∃ x y z, (∀ u ∈ #[x, y, z], notInt u = true) ∧ Blk W g t #[x, y, z]
theorem HR.step {w W W' : World} {bs : List (Nat × Nat × Array Value)} {g t : Nat} (h : HR w bs g t W) (hb : Below W.heap.size W W') : HR w bs g t W' := by
 obtain ⟨h1, x, y, z, hn, hk⟩ := h
 exact ⟨h1.step hb, x, y, z, hn, hk.below hb hk.lt⟩
theorem HR.drew {w W : World} {bs : List (Nat × Nat × Array Value)} {g t : Nat} (h : HR w bs g t W) : HR w bs g t W.drew := h.step (Below.drew (Below.refl _ _))
theorem HR.put {w W : World} {bs : List (Nat × Nat × Array Value)} {g t : Nat} (h : HR w bs g t W) (hg : w.heap.size ≤ g) (hne : ∀ b ∈ bs, b.1 ≠ g) (x y z : Value) (hn : ∀ u ∈ #[x, y, z], notInt u = true) :
  HR w bs g t (((W.setCell ⟨g, 0, none⟩ x).setCell ⟨g, 1, none⟩ y).setCell ⟨g, 2, none⟩ z) := by
 obtain ⟨h1, a, b, c, _, hk⟩ := h
 refine ⟨⟨fun b hm => ?_, below_put3 h1.2 hg x y z⟩, x, y, z, hn, hk.put3 x y z⟩
 exact (((h1.1 b hm).other (a := ⟨g, 0, none⟩) (hne b hm) x).other (a := ⟨g, 1, none⟩) (hne b hm) y).other (a := ⟨g, 2, none⟩) (hne b hm) z
theorem HR.of {w W : World} {bs : List (Nat × Nat × Array Value)} {g t : Nat} {x y z : Value} (h : HS w ((g, t, #[x, y, z]) :: bs) W) (hn : ∀ u ∈ #[x, y, z], notInt u = true) : HR w bs g t W :=
 ⟨⟨fun b hm => h.1 b (List.mem_cons_of_mem _ hm), h.2⟩, x, y, z, hn, h.blk 0 rfl⟩
theorem HR.at_ {w W : World} {bs : List (Nat × Nat × Array Value)} {g t : Nat} (h : HR w bs g t W) : ∃ x y z, (∀ u ∈ #[x, y, z], notInt u = true) ∧ Blk W g t #[x, y, z] := h.2
theorem HR.c2 {w W : World} {g t : Nat} {x y z x' y' z' : Value} {g1 g2 t1 t2 : Nat} (h : HR w [(g2, t2, #[x', y', z']), (g1, t1, #[x, y, z])] g t W) :
  W.cell? ⟨g1, 0, none⟩ = some x ∧ W.cell? ⟨g1, 1, none⟩ = some y ∧ W.cell? ⟨g1, 2, none⟩ = some z ∧ W.cell? ⟨g2, 0, none⟩ = some x' ∧ W.cell? ⟨g2, 1, none⟩ = some y' ∧ W.cell? ⟨g2, 2, none⟩ = some z' :=
 ⟨(h.1.blk 1 rfl).cell rfl, (h.1.blk 1 rfl).cell rfl, (h.1.blk 1 rfl).cell rfl, (h.1.blk 0 rfl).cell rfl, (h.1.blk 0 rfl).cell rfl, (h.1.blk 0 rfl).cell rfl⟩
theorem end40r {fn : Func} {p : Tmp} {tmps : Array Value} {w W : World} {g : Nat} {x y z a b c : Value} {q : Rat} (hres : fn.results = #[.cell p 46]) (hp : tmps.getD p undef = .pointer (some ⟨g, 0, none⟩)) (hb : Blk W g 46 #[a, b, c]) (hn : ∀ u ∈ #[a, b, c], notInt u = true)
  (hq : FQ W (.agg #[x, y, z]) q) (hg : w.heap.size ≤ g) (hbl : Below w.heap.size w W) : bodyPost Tryz.prog fn (fun e w' => FPost w q e w') Exit.ret { tmps := tmps, defers := [] } (((W.setCell ⟨g, 0, none⟩ x).setCell ⟨g, 1, none⟩ y).setCell ⟨g, 2, none⟩ z) :=
 ret40 hres hp (hb.put3 x y z) ⟨_, rfl, hq.put3 hb hn x y z, below_put3 hbl hg x y z⟩
set_option maxHeartbeats 16000000 in
set_option maxRecDepth 100000 in
theorem fadd_calls (w : World) (v v2 : Value) (f g : RawF) (h : FR w v f) (h2 : FR w v2 g) : Calls Tryz.prog 105 #[v, v2] w fun e w' => FPost w (capQ (fixQ f + fixQ g)) e w' := by
 obtain ⟨A1, n1, c1, A2, n2, c2, rfl, H⟩ := h.opened
 obtain ⟨A3, n3, c3, A4, n4, c4, rfl, G⟩ := h2.opened
 clear h h2
 go_enter Tryz.func105, Tryz.ntmps105
 go_wp2_with fail
 have H0 : HR w [(w.heap.size + 1, 46, #[.bool g.neg, .slice A3 n3 c3, .slice A4 n4 c4]), (w.heap.size, 46, #[.bool f.neg, .slice A1 n1 c1, .slice A2 n2 c2])] (w.heap.size + 1 + 1) 46 _ := HR.of (HS.three (w := w) #[.bool f.neg, .slice A1 n1 c1, .slice A2 n2 c2] #[.bool g.neg, .slice A3 n3 c3, .slice A4 n4 c4] #[.bool false, .slice none 0 0, .slice none 0 0] 46 46 46) ni40
 generalize ((w.alloc (.cells #[.bool f.neg, .slice A1 n1 c1, .slice A2 n2 c2] 46)).alloc (.cells #[.bool g.neg, .slice A3 n3 c3, .slice A4 n4 c4] 46)).alloc (.cells #[.bool false, .slice none 0 0, .slice none 0 0] 46) = W0 at *
 have hne : ∀ b ∈ ([(w.heap.size + 1, 46, #[.bool g.neg, .slice A3 n3 c3, .slice A4 n4 c4]), (w.heap.size, 46, #[.bool f.neg, .slice A1 n1 c1, .slice A2 n2 c2])] : List (Nat × Nat × Array Value)), b.1 ≠ w.heap.size + 1 + 1 := by simp; omega
 have HNE := Hd hne
 clear hne
 go_region_held3 (fun W => (W.cell? ⟨w.heap.size, 0, none⟩ = some (.bool f.neg) ∧ W.cell? ⟨w.heap.size, 1, none⟩ = some (.slice A1 n1 c1) ∧ W.cell? ⟨w.heap.size, 2, none⟩ = some (.slice A2 n2 c2) ∧
   W.cell? ⟨w.heap.size + 1, 0, none⟩ = some (.bool g.neg) ∧ W.cell? ⟨w.heap.size + 1, 1, none⟩ = some (.slice A3 n3 c3) ∧ W.cell? ⟨w.heap.size + 1, 2, none⟩ = some (.slice A4 n4 c4)) ∧ HR w [(w.heap.size + 1, 46, #[.bool g.neg, .slice A3 n3 c3, .slice A4 n4 c4]), (w.heap.size, 46, #[.bool f.neg, .slice A1 n1 c1, .slice A2 n2 c2])] (w.heap.size + 1 + 1) 46 W)
  (first
   | exact ⟨HR.c2 H0.drew, H0.drew⟩
   | (have hk9 := HR.step (And.right ‹_ ∧ HR _ _ _ _ _›) ‹_›; exact ⟨HR.c2 hk9, hk9⟩)
   | (have hk9 := (And.right ‹_ ∧ HR _ _ _ _ _›); exact ⟨HR.c2 (HR.put hk9 (by omega) HNE.out _ _ _ (by simp [notInt])), HR.put hk9 (by omega) HNE.out _ _ _ (by simp [notInt])⟩))
  (first
   | (go_at_call_of 87 (Value.agg #[.bool f.neg, .slice A1 n1 c1, .slice A2 n2 c2]); refine (taken_calls _ _ f (H.out.of_below (And.right ‹_ ∧ HR _ _ _ _ _›).1.2)).mono ?_; rintro e w' ⟨v, rfl, hv, hb⟩; obtain ⟨A5, n5, c5, A6, n6, c6, rfl, HV⟩ := hv.opened'; clear hv)
   | (go_at_call_of 87 (Value.agg #[.bool g.neg, .slice A3 n3 c3, .slice A4 n4 c4]); refine (taken_calls _ _ g (G.out.of_below (And.right ‹_ ∧ HR _ _ _ _ _›).1.2)).mono ?_; rintro e w' ⟨v, rfl, hv2, hb2⟩; obtain ⟨A7, n7, c7, A8, n8, c8, rfl, HV2⟩ := hv2.opened'; have HV1 := Hd (HV.out.of_below hb2); clear hv2)
   | (go_at_call 110; refine (plus_calls _ _ _ _ _ HV1.out HV2.out (by have := sizeQ_fix f; omega) (by have := sizeQ_fix g; omega)).mono ?_; rintro e w' ⟨v, rfl, hv3, hb3⟩; obtain ⟨A9, n9, c9, A10, n10, c10, rfl, HV3⟩ := hv3.opened'; clear hv3)
   | (go_at_call 112; refine (told_calls _ _ _ HV3.out (size_sum f g)).mono ?_; rintro e w' ⟨v, rfl, hv4, hb4⟩; obtain ⟨A11, n11, c11, A12, n12, c12, rfl, HV4⟩ := hv4.opened; obtain ⟨x3, y3, z3, hni3, hk3⟩ := HR.at_ (HR.step (And.right ‹_ ∧ HR _ _ _ _ _›) hb4); have e0 := hk3.cell (j := 0) rfl; have e1 := hk3.cell (j := 1) rfl; have e2 := hk3.cell (j := 2) rfl; have f0 := hk3.frozen 0; have f1 := hk3.frozen 1; have f2 := hk3.frozen 2; have hb7 := (HR.step (And.right ‹_ ∧ HR _ _ _ _ _›) hb4).1.2; clear hv4))
 go_wp2_with fail
 exact end40r Tryz.results105 rfl hk3 hni3 HV4.out (by omega) hb7
set_option maxHeartbeats 16000000 in
set_option maxRecDepth 100000 in
theorem fmul_calls (w : World) (v v2 : Value) (f g : RawF) (h : FR w v f) (h2 : FR w v2 g) : Calls Tryz.prog 106 #[v, v2] w fun e w' => FPost w (capQ (fixQ f * fixQ g)) e w' := by
 obtain ⟨A1, n1, c1, A2, n2, c2, rfl, H⟩ := h.opened
 obtain ⟨A3, n3, c3, A4, n4, c4, rfl, G⟩ := h2.opened
 clear h h2
 go_enter Tryz.func106, Tryz.ntmps106
 go_wp2_with fail
 have H0 : HR w [(w.heap.size + 1, 46, #[.bool g.neg, .slice A3 n3 c3, .slice A4 n4 c4]), (w.heap.size, 46, #[.bool f.neg, .slice A1 n1 c1, .slice A2 n2 c2])] (w.heap.size + 1 + 1) 46 _ := HR.of (HS.three (w := w) #[.bool f.neg, .slice A1 n1 c1, .slice A2 n2 c2] #[.bool g.neg, .slice A3 n3 c3, .slice A4 n4 c4] #[.bool false, .slice none 0 0, .slice none 0 0] 46 46 46) ni40
 generalize ((w.alloc (.cells #[.bool f.neg, .slice A1 n1 c1, .slice A2 n2 c2] 46)).alloc (.cells #[.bool g.neg, .slice A3 n3 c3, .slice A4 n4 c4] 46)).alloc (.cells #[.bool false, .slice none 0 0, .slice none 0 0] 46) = W0 at *
 have hne : ∀ b ∈ ([(w.heap.size + 1, 46, #[.bool g.neg, .slice A3 n3 c3, .slice A4 n4 c4]), (w.heap.size, 46, #[.bool f.neg, .slice A1 n1 c1, .slice A2 n2 c2])] : List (Nat × Nat × Array Value)), b.1 ≠ w.heap.size + 1 + 1 := by simp; omega
 have HNE := Hd hne
 clear hne
 go_region_held3 (fun W => (W.cell? ⟨w.heap.size, 0, none⟩ = some (.bool f.neg) ∧ W.cell? ⟨w.heap.size, 1, none⟩ = some (.slice A1 n1 c1) ∧ W.cell? ⟨w.heap.size, 2, none⟩ = some (.slice A2 n2 c2) ∧
   W.cell? ⟨w.heap.size + 1, 0, none⟩ = some (.bool g.neg) ∧ W.cell? ⟨w.heap.size + 1, 1, none⟩ = some (.slice A3 n3 c3) ∧ W.cell? ⟨w.heap.size + 1, 2, none⟩ = some (.slice A4 n4 c4)) ∧ HR w [(w.heap.size + 1, 46, #[.bool g.neg, .slice A3 n3 c3, .slice A4 n4 c4]), (w.heap.size, 46, #[.bool f.neg, .slice A1 n1 c1, .slice A2 n2 c2])] (w.heap.size + 1 + 1) 46 W)
  (first
   | exact ⟨HR.c2 H0.drew, H0.drew⟩
   | (have hk9 := HR.step (And.right ‹_ ∧ HR _ _ _ _ _›) ‹_›; exact ⟨HR.c2 hk9, hk9⟩)
   | (have hk9 := (And.right ‹_ ∧ HR _ _ _ _ _›); exact ⟨HR.c2 (HR.put hk9 (by omega) HNE.out _ _ _ (by simp [notInt])), HR.put hk9 (by omega) HNE.out _ _ _ (by simp [notInt])⟩))
  (first
   | (go_at_call_of 87 (Value.agg #[.bool f.neg, .slice A1 n1 c1, .slice A2 n2 c2]); refine (taken_calls _ _ f (H.out.of_below (And.right ‹_ ∧ HR _ _ _ _ _›).1.2)).mono ?_; rintro e w' ⟨v, rfl, hv, hb⟩; obtain ⟨A5, n5, c5, A6, n6, c6, rfl, HV⟩ := hv.opened'; clear hv)
   | (go_at_call_of 87 (Value.agg #[.bool g.neg, .slice A3 n3 c3, .slice A4 n4 c4]); refine (taken_calls _ _ g (G.out.of_below (And.right ‹_ ∧ HR _ _ _ _ _›).1.2)).mono ?_; rintro e w' ⟨v, rfl, hv2, hb2⟩; obtain ⟨A7, n7, c7, A8, n8, c8, rfl, HV2⟩ := hv2.opened'; have HV1 := Hd (HV.out.of_below hb2); clear hv2)
   | (go_at_call 111; refine (times_calls _ _ _ _ _ HV1.out HV2.out (by have := sizeQ_fix f; omega) (by have := sizeQ_fix g; omega)).mono ?_; rintro e w' ⟨v, rfl, hv3, hb3⟩; obtain ⟨A9, n9, c9, A10, n10, c10, rfl, HV3⟩ := hv3.opened'; clear hv3)
   | (go_at_call 112; refine (told_calls _ _ _ HV3.out (size_prod f g)).mono ?_; rintro e w' ⟨v, rfl, hv4, hb4⟩; obtain ⟨A11, n11, c11, A12, n12, c12, rfl, HV4⟩ := hv4.opened; obtain ⟨x3, y3, z3, hni3, hk3⟩ := HR.at_ (HR.step (And.right ‹_ ∧ HR _ _ _ _ _›) hb4); have e0 := hk3.cell (j := 0) rfl; have e1 := hk3.cell (j := 1) rfl; have e2 := hk3.cell (j := 2) rfl; have f0 := hk3.frozen 0; have f1 := hk3.frozen 1; have f2 := hk3.frozen 2; have hb7 := (HR.step (And.right ‹_ ∧ HR _ _ _ _ _›) hb4).1.2; clear hv4))
 go_wp2_with fail
 exact end40r Tryz.results106 rfl hk3 hni3 HV4.out (by omega) hb7
set_option maxHeartbeats 16000000 in
set_option maxRecDepth 100000 in
theorem fsub_calls (w : World) (v v2 : Value) (f g : RawF) (h : FR w v f) (h2 : FR w v2 g) : Calls Tryz.prog 107 #[v, v2] w fun e w' => FPost w (capQ (fixQ f + -(fixQ g))) e w' := by
 obtain ⟨A1, n1, c1, A2, n2, c2, rfl, H⟩ := h.opened
 obtain ⟨A3, n3, c3, A4, n4, c4, rfl, G⟩ := h2.opened
 clear h h2
 go_enter Tryz.func107, Tryz.ntmps107
 go_wp2_with fail
 have H0 : HR w [(w.heap.size + 1, 46, #[.bool g.neg, .slice A3 n3 c3, .slice A4 n4 c4]), (w.heap.size, 46, #[.bool f.neg, .slice A1 n1 c1, .slice A2 n2 c2])] (w.heap.size + 1 + 1) 46 _ := HR.of (HS.three (w := w) #[.bool f.neg, .slice A1 n1 c1, .slice A2 n2 c2] #[.bool g.neg, .slice A3 n3 c3, .slice A4 n4 c4] #[.bool false, .slice none 0 0, .slice none 0 0] 46 46 46) ni40
 generalize ((w.alloc (.cells #[.bool f.neg, .slice A1 n1 c1, .slice A2 n2 c2] 46)).alloc (.cells #[.bool g.neg, .slice A3 n3 c3, .slice A4 n4 c4] 46)).alloc (.cells #[.bool false, .slice none 0 0, .slice none 0 0] 46) = W0 at *
 have hne : ∀ b ∈ ([(w.heap.size + 1, 46, #[.bool g.neg, .slice A3 n3 c3, .slice A4 n4 c4]), (w.heap.size, 46, #[.bool f.neg, .slice A1 n1 c1, .slice A2 n2 c2])] : List (Nat × Nat × Array Value)), b.1 ≠ w.heap.size + 1 + 1 := by simp; omega
 have HNE := Hd hne
 clear hne
 go_region_held3 (fun W => (W.cell? ⟨w.heap.size, 0, none⟩ = some (.bool f.neg) ∧ W.cell? ⟨w.heap.size, 1, none⟩ = some (.slice A1 n1 c1) ∧ W.cell? ⟨w.heap.size, 2, none⟩ = some (.slice A2 n2 c2) ∧
   W.cell? ⟨w.heap.size + 1, 0, none⟩ = some (.bool g.neg) ∧ W.cell? ⟨w.heap.size + 1, 1, none⟩ = some (.slice A3 n3 c3) ∧ W.cell? ⟨w.heap.size + 1, 2, none⟩ = some (.slice A4 n4 c4)) ∧ HR w [(w.heap.size + 1, 46, #[.bool g.neg, .slice A3 n3 c3, .slice A4 n4 c4]), (w.heap.size, 46, #[.bool f.neg, .slice A1 n1 c1, .slice A2 n2 c2])] (w.heap.size + 1 + 1) 46 W)
  (first
   | exact ⟨HR.c2 H0.drew, H0.drew⟩
   | (have hk9 := HR.step (And.right ‹_ ∧ HR _ _ _ _ _›) ‹_›; exact ⟨HR.c2 hk9, hk9⟩)
   | (have hk9 := (And.right ‹_ ∧ HR _ _ _ _ _›); exact ⟨HR.c2 (HR.put hk9 (by omega) HNE.out _ _ _ (by simp [notInt])), HR.put hk9 (by omega) HNE.out _ _ _ (by simp [notInt])⟩))
  (first
   | (go_at_call_of 87 (Value.agg #[.bool f.neg, .slice A1 n1 c1, .slice A2 n2 c2]); refine (taken_calls _ _ f (H.out.of_below (And.right ‹_ ∧ HR _ _ _ _ _›).1.2)).mono ?_; rintro e w' ⟨v, rfl, hv, hb⟩; obtain ⟨A5, n5, c5, A6, n6, c6, rfl, HV⟩ := hv.opened'; clear hv)
   | (go_at_call_of 87 (Value.agg #[.bool g.neg, .slice A3 n3 c3, .slice A4 n4 c4]); refine (taken_calls _ _ g (G.out.of_below (And.right ‹_ ∧ HR _ _ _ _ _›).1.2)).mono ?_; rintro e w' ⟨v, rfl, hv2, hb2⟩; obtain ⟨A7, n7, c7, A8, n8, c8, rfl, HV2⟩ := hv2.opened'; have HV1 := Hd (HV.out.of_below hb2); clear hv2)
   | (go_at_call 125; refine (minus_calls _ _ _ HV2.out).mono ?_; rintro e w' ⟨v, rfl, hv5, hb5⟩; obtain ⟨A13, n13, c13, A14, n14, c14, rfl, HV5⟩ := hv5.opened'; have HV6 := Hd (HV1.out.of_below hb5); clear hv5)
   | (go_at_call 110; refine (plus_calls _ _ _ _ _ HV6.out HV5.out (by have := sizeQ_fix f; omega) (by have := size_neg g; omega)).mono ?_; rintro e w' ⟨v, rfl, hv3, hb3⟩; obtain ⟨A9, n9, c9, A10, n10, c10, rfl, HV3⟩ := hv3.opened'; clear hv3)
   | (go_at_call 112; refine (told_calls _ _ _ HV3.out (size_diff f g)).mono ?_; rintro e w' ⟨v, rfl, hv4, hb4⟩; obtain ⟨A11, n11, c11, A12, n12, c12, rfl, HV4⟩ := hv4.opened; obtain ⟨x3, y3, z3, hni3, hk3⟩ := HR.at_ (HR.step (And.right ‹_ ∧ HR _ _ _ _ _›) hb4); have e0 := hk3.cell (j := 0) rfl; have e1 := hk3.cell (j := 1) rfl; have e2 := hk3.cell (j := 2) rfl; have f0 := hk3.frozen 0; have f1 := hk3.frozen 1; have f2 := hk3.frozen 2; have hb7 := (HR.step (And.right ‹_ ∧ HR _ _ _ _ _›) hb4).1.2; clear hv4))
 go_wp2_with fail
 exact end40r Tryz.results107 rfl hk3 hni3 HV4.out (by omega) hb7
theorem HS.c2 {w W : World} {g t : Nat} {x y z x' y' z' : Value} {g1 g2 t1 t2 : Nat} (h : HS w [(g2, t2, #[x', y', z']), (g1, t1, #[x, y, z])] W) :
  W.cell? ⟨g1, 0, none⟩ = some x ∧ W.cell? ⟨g1, 1, none⟩ = some y ∧ W.cell? ⟨g1, 2, none⟩ = some z ∧ W.cell? ⟨g2, 0, none⟩ = some x' ∧ W.cell? ⟨g2, 1, none⟩ = some y' ∧ W.cell? ⟨g2, 2, none⟩ = some z' :=
 ⟨(h.blk 1 rfl).cell rfl, (h.blk 1 rfl).cell rfl, (h.blk 1 rfl).cell rfl, (h.blk 0 rfl).cell rfl, (h.blk 0 rfl).cell rfl, (h.blk 0 rfl).cell rfl⟩
set_option maxHeartbeats 16000000 in
set_option maxRecDepth 100000 in
theorem fcmp_calls (w : World) (v v2 : Value) (f g : RawF) (h : FR w v f) (h2 : FR w v2 g) : Calls Tryz.prog 44 #[v, v2] w fun e w' => IPost w (ordQ (fixQ f) (fixQ g)) e w' := by
 obtain ⟨A1, n1, c1, A2, n2, c2, rfl, H⟩ := h.opened
 obtain ⟨A3, n3, c3, A4, n4, c4, rfl, G⟩ := h2.opened
 clear h h2
 go_enter Tryz.func44, Tryz.ntmps44
 go_wp2_with fail
 have H0 := HS.two (w := w) #[.bool f.neg, .slice A1 n1 c1, .slice A2 n2 c2] #[.bool g.neg, .slice A3 n3 c3, .slice A4 n4 c4] 46 46
 generalize (w.alloc (.cells #[.bool f.neg, .slice A1 n1 c1, .slice A2 n2 c2] 46)).alloc (.cells #[.bool g.neg, .slice A3 n3 c3, .slice A4 n4 c4] 46) = W0 at *
 go_region_held3 (fun W => (W.cell? ⟨w.heap.size, 0, none⟩ = some (.bool f.neg) ∧ W.cell? ⟨w.heap.size, 1, none⟩ = some (.slice A1 n1 c1) ∧ W.cell? ⟨w.heap.size, 2, none⟩ = some (.slice A2 n2 c2) ∧
   W.cell? ⟨w.heap.size + 1, 0, none⟩ = some (.bool g.neg) ∧ W.cell? ⟨w.heap.size + 1, 1, none⟩ = some (.slice A3 n3 c3) ∧ W.cell? ⟨w.heap.size + 1, 2, none⟩ = some (.slice A4 n4 c4)) ∧ HS w [(w.heap.size + 1, 46, #[.bool g.neg, .slice A3 n3 c3, .slice A4 n4 c4]), (w.heap.size, 46, #[.bool f.neg, .slice A1 n1 c1, .slice A2 n2 c2])] W)
  (first
   | exact ⟨HS.c2 (g := 0) (t := 0) H0.drew, H0.drew⟩
   | (have hk9 := HS.step (And.right ‹_ ∧ HS _ _ _›) ‹_›; exact ⟨HS.c2 (g := 0) (t := 0) hk9, hk9⟩))
  (first
   | (go_at_call_of 87 (Value.agg #[.bool f.neg, .slice A1 n1 c1, .slice A2 n2 c2]); refine (taken_calls _ _ f (H.out.of_below (And.right ‹_ ∧ HS _ _ _›).2)).mono ?_; rintro e w' ⟨v, rfl, hv, hb⟩; obtain ⟨A5, n5, c5, A6, n6, c6, rfl, HV⟩ := hv.opened'; clear hv)
   | (go_at_call_of 87 (Value.agg #[.bool g.neg, .slice A3 n3 c3, .slice A4 n4 c4]); refine (taken_calls _ _ g (G.out.of_below (And.right ‹_ ∧ HS _ _ _›).2)).mono ?_; rintro e w' ⟨v, rfl, hv2, hb2⟩; obtain ⟨A7, n7, c7, A8, n8, c8, rfl, HV2⟩ := hv2.opened'; have HV1 := Hd (HV.out.of_below hb2); clear hv2)
   | (go_at_call 89; refine (order_calls _ _ _ _ _ HV1.out HV2.out (by have := sizeQ_fix f; omega) (by have := sizeQ_fix g; omega)).mono ?_; rintro e w' ⟨rfl, hb3⟩; have hb7 := (HS.step (And.right ‹_ ∧ HS _ _ _›) hb3).2))
 go_wp2_with fail
 go_ret
 exact ⟨by rw [← rawOrd_eq]; rfl, hb7⟩
def Elems {α : Type} (k : Nat) (E : World → Array Value → α → Prop) (w : World) (g o : Nat) (xs : List α) : Prop :=
 ∀ j x, xs[j]? = some x → ∃ vs : Array Value, vs.size = k ∧ (∀ i v, vs[i]? = some v → w.cell? ⟨g, o + j * k + i, none⟩ = some v) ∧ E w vs x
def SL {α : Type} (k : Nat) (E : World → Array Value → α → Prop) (w : World) (v : Value) (xs : List α) : Prop :=
 ∃ A c, v = .slice A xs.length c ∧ xs.length ≤ c ∧ (0 < xs.length → ∃ g o, A = some ⟨g, o, none⟩ ∧ g < w.heap.size ∧ Elems k E w g o xs)
def Stays {α : Type} (E : World → Array Value → α → Prop) : Prop := ∀ w w1 vs x, E w vs x → Below w.heap.size w w1 → E w1 vs x
theorem Elems.below {α : Type} {k : Nat} {E : World → Array Value → α → Prop} {w w1 : World} {g o : Nat} {xs : List α} (hE : Stays E) (h : Elems k E w g o xs) (hg : g < w.heap.size) (hb : Below w.heap.size w w1) : Elems k E w1 g o xs := fun j x hx => by
 obtain ⟨vs, hs, hc, he⟩ := h j x hx
 exact ⟨vs, hs, fun i v hv => ((bcell hb).1 g _ hg).trans (hc i v hv), hE _ _ _ _ he hb⟩
theorem SL.below {α : Type} {k : Nat} {E : World → Array Value → α → Prop} {w w1 : World} {v : Value} {xs : List α} (hE : Stays E) (h : SL k E w v xs) (hb : Below w.heap.size w w1) : SL k E w1 v xs := by
 obtain ⟨A, c, rfl, hc, hr⟩ := h
 refine ⟨A, c, rfl, hc, fun hp => ?_⟩
 obtain ⟨g, o, rfl, hg, he⟩ := hr hp
 exact ⟨g, o, rfl, Nat.lt_of_lt_of_le hg hb.size, he.below hE hg hb⟩
theorem SL.slice {α : Type} {k : Nat} {E : World → Array Value → α → Prop} {w : World} {v : Value} {xs : List α} (h : SL k E w v xs) : ∃ A c, v = .slice A xs.length c ∧ xs.length ≤ c := by
 obtain ⟨A, c, rfl, hc, _⟩ := h
 exact ⟨A, c, rfl, hc⟩
theorem SL.at_ {α : Type} {k : Nat} {E : World → Array Value → α → Prop} {w : World} {A : Option Addr} {n c : Nat} {xs : List α} (h : SL k E w (.slice A n c) xs) {j : Nat} {x : α} (hj : xs[j]? = some x) :
  ∃ g o vs, A = some ⟨g, o, none⟩ ∧ g < w.heap.size ∧ vs.size = k ∧ (∀ i v, vs[i]? = some v → w.cell? ⟨g, o + j * k + i, none⟩ = some v) ∧ E w vs x := by
 obtain ⟨A', c', e, hc, hr⟩ := h
 injection e with e1 e2 e3
 subst e1
 obtain ⟨g, o, rfl, hg, he⟩ := hr (by have := (List.getElem?_eq_some_iff.1 hj).1; omega)
 obtain ⟨vs, h1, h2, h3⟩ := he j x hj
 exact ⟨g, o, vs, rfl, hg, h1, h2, h3⟩
theorem SL.take {α : Type} {k : Nat} {E : World → Array Value → α → Prop} {w : World} {A : Option Addr} {c c' : Nat} {xs : List α} (h : SL k E w (.slice A xs.length c) xs) (n : Nat) (hn : n ≤ xs.length) (hc : n ≤ c') : SL k E w (.slice A n c') (xs.take n) := by
 obtain ⟨A', c1, e, _, hr⟩ := h
 injection e with e1 e2 e3
 subst e1
 have hl : (xs.take n).length = n := by rw [List.length_take, Nat.min_eq_left hn]
 refine ⟨A, c', by rw [hl], by rw [hl]; exact hc, fun hp => ?_⟩
 rw [hl] at hp
 obtain ⟨g, o, rfl, hg, he⟩ := hr (by omega)
 refine ⟨g, o, rfl, hg, fun j x hx => he j x ?_⟩
 rw [List.getElem?_take] at hx
 split at hx
 ·exact hx
 ·cases hx
def EF (w : World) (vs : Array Value) (f : RawF) : Prop := FR w (.agg vs) f
def EQ (w : World) (vs : Array Value) (q : Rat) : Prop := RQ w (.agg vs) q
theorem EF.stays : Stays EF := fun _ _ _ _ h hb => FR.of_below h hb
theorem EQ.stays : Stays EQ := fun _ _ _ _ h hb => RQ.of_below h hb
abbrev FL (w : World) (v : Value) (fs : List RawF) : Prop := SL 3 EF w v fs
abbrev QL (w : World) (v : Value) (qs : List Rat) : Prop := SL 3 EQ w v qs
theorem FL.at3 {w : World} {A : Option Addr} {n c : Nat} {fs : List RawF} (h : FL w (.slice A n c) fs) {j : Nat} {f : RawF} (hj : fs[j]? = some f) :
  ∃ g o A1 n1 c1 A2 n2 c2, A = some ⟨g, o, none⟩ ∧ g < w.heap.size ∧ w.cell? ⟨g, o + j * 3, none⟩ = some (.bool f.neg) ∧ w.cell? ⟨g, o + j * 3 + 1, none⟩ = some (.slice A1 n1 c1) ∧ w.cell? ⟨g, o + j * 3 + 2, none⟩ = some (.slice A2 n2 c2) ∧ Hid (FR w (.agg #[.bool f.neg, .slice A1 n1 c1, .slice A2 n2 c2]) f) := by
 obtain ⟨g, o, vs, hA, hg, hs, hc, he⟩ := h.at_ hj
 obtain ⟨A1, n1, c1, A2, n2, c2, e, hF⟩ := FR.opened he
 injection e with e
 subst e
 exact ⟨g, o, A1, n1, c1, A2, n2, c2, hA, hg, hc 0 _ rfl, hc 1 _ rfl, hc 2 _ rfl, hF⟩
theorem QL.at3 {w : World} {A : Option Addr} {n c : Nat} {qs : List Rat} (h : QL w (.slice A n c) qs) {j : Nat} {q : Rat} (hj : qs[j]? = some q) :
  ∃ g o A1 n1 c1 A2 n2 c2, A = some ⟨g, o, none⟩ ∧ g < w.heap.size ∧ w.cell? ⟨g, o + j * 3, none⟩ = some (.slice A1 n1 c1) ∧ w.cell? ⟨g, o + j * 3 + 1, none⟩ = some (.slice A2 n2 c2) ∧ w.cell? ⟨g, o + j * 3 + 2, none⟩ = some (.bool (negQ q)) ∧ Hid (RQ w (.agg #[.slice A1 n1 c1, .slice A2 n2 c2, .bool (negQ q)]) q) := by
 obtain ⟨g, o, vs, hA, hg, hs, hc, he⟩ := h.at_ hj
 obtain ⟨A1, n1, c1, A2, n2, c2, e, hF⟩ := RQ.opened' he
 injection e with e
 subst e
 exact ⟨g, o, A1, n1, c1, A2, n2, c2, hA, hg, hc 0 _ rfl, hc 1 _ rfl, hc 2 _ rfl, hF⟩
theorem info85m : (Tryz.prog.info? 113).map (fun i => (i.zero, i.size, i.bytes)) = some (some (.agg #[.slice none 0 0, .slice none 0 0, .bool false]), 3, 56) := by kernel_rfl
theorem info40m : (Tryz.prog.info? 46).map (fun i => (i.zero, i.size, i.bytes)) = some (some (.agg #[.bool false, .slice none 0 0, .slice none 0 0]), 3, 56) := by kernel_rfl
def Far {α : Type} (E : World → Array Value → α → Prop) : Prop := ∀ w w1 vs x g t cs, E w vs x → Blk w g t cs → (∀ x ∈ cs, notInt x = true) → w.heap.size ≤ w1.heap.size → (∀ k, k < w.heap.size → k ≠ g → w1.heap[k]? = w.heap[k]?) → E w1 vs x
theorem EF.far : Far EF := fun w w1 vs x g t cs h hb hn hs hk => by
 obtain ⟨hl, v1, v2, e, h1, h2⟩ := h
 exact ⟨hl, v1, v2, e, h1.apart hb hn hs hk, h2.apart hb hn hs hk⟩
theorem EQ.far : Far EQ := fun w w1 vs x g t cs h hb hn hs hk => by
 obtain ⟨v1, v2, e, h1, h2⟩ := h
 exact ⟨v1, v2, e, Rd.apart h1 hb hn hs hk, Rd.apart h2 hb hn hs hk⟩
def Row3 {α : Type} (t : Nat) (E : World → Array Value → α → Prop) (w : World) (g n : Nat) (xs : List α) : Prop :=
 ∃ cs : Array Value, Blk w g t cs ∧ cs.size = n * 3 ∧ (∀ x ∈ cs, notInt x = true) ∧ xs.length ≤ n ∧ ∀ j x, xs[j]? = some x → ∃ a b c, cs[j * 3]? = some a ∧ cs[j * 3 + 1]? = some b ∧ cs[j * 3 + 2]? = some c ∧ E w #[a, b, c] x
section
variable {α : Type} {E : World → Array Value → α → Prop} {w w1 : World} {g t n : Nat} {xs : List α}
theorem Row3.below (hE : Stays E) (h : Row3 t E w g n xs) (hb : Below w.heap.size w w1) : Row3 t E w1 g n xs := by
 obtain ⟨cs, hk, hs, hn, hl, he⟩ := h
 refine ⟨cs, hk.below hb hk.lt, hs, hn, hl, fun j x hx => ?_⟩
 obtain ⟨a, b, c, h0, h1, h2, h3⟩ := he j x hx
 exact ⟨a, b, c, h0, h1, h2, hE _ _ _ _ h3 hb⟩
theorem Row3.lt (h : Row3 t E w g n xs) : g < w.heap.size := by
 obtain ⟨cs, hk, _⟩ := h
 exact hk.lt
theorem Row3.cells (h : Row3 t E w g n xs) (i : Nat) (hi : i < n) : ∃ a b c, w.cell? ⟨g, i * 3, none⟩ = some a ∧ w.cell? ⟨g, i * 3 + 1, none⟩ = some b ∧ w.cell? ⟨g, i * 3 + 2, none⟩ = some c ∧ w.frozen? ⟨g, i * 3, none⟩ = false ∧ w.frozen? ⟨g, i * 3 + 1, none⟩ = false ∧ w.frozen? ⟨g, i * 3 + 2, none⟩ = false := by
 obtain ⟨cs, hk, hs, _⟩ := h
 exact ⟨cs[i * 3], cs[i * 3 + 1], cs[i * 3 + 2], hk.cell (Array.getElem?_eq_getElem (by omega)), hk.cell (Array.getElem?_eq_getElem (by omega)), hk.cell (Array.getElem?_eq_getElem (by omega)), hk.frozen _, hk.frozen _, hk.frozen _⟩
theorem Row3.push (hE : Far E) (h : Row3 t E w g n xs) {x : α} {a b c : Value} (hi : xs.length < n) (hx : E w #[a, b, c] x) (hn : ∀ u ∈ #[a, b, c], notInt u = true) :
  Row3 t E (((w.setCell ⟨g, xs.length * 3, none⟩ a).setCell ⟨g, xs.length * 3 + 1, none⟩ b).setCell ⟨g, xs.length * 3 + 2, none⟩ c) g n (xs ++ [x]) := by
 obtain ⟨cs, hk, hs, hcn, hl, he⟩ := h
 have hsz : w.heap.size ≤ (((w.setCell ⟨g, xs.length * 3, none⟩ a).setCell ⟨g, xs.length * 3 + 1, none⟩ b).setCell ⟨g, xs.length * 3 + 2, none⟩ c).heap.size := by simp [World.setCell]
 have hot : ∀ k, k < w.heap.size → k ≠ g → (((w.setCell ⟨g, xs.length * 3, none⟩ a).setCell ⟨g, xs.length * 3 + 1, none⟩ b).setCell ⟨g, xs.length * 3 + 2, none⟩ c).heap[k]? = w.heap[k]? := fun k _ hkg => by
  rw [Below.heap_setCell _ _ _ k hkg, Below.heap_setCell _ _ _ k hkg, Below.heap_setCell _ _ _ k hkg]
 have hset : ∀ {xs : Array Value} {i : Nat} {v : Value}, (∀ x ∈ xs, notInt x = true) → notInt v = true → ∀ x ∈ xs.setIfInBounds i v, notInt x = true := fun {xs i v} h1 h2 x hx => by
  rcases Array.mem_or_eq_of_mem_setIfInBounds hx with h | h
  ·exact h1 x h
  ·rw [h]; exact h2
 refine ⟨_, ((hk.put (xs.length * 3) a).put (xs.length * 3 + 1) b).put (xs.length * 3 + 2) c, by simp [hs], hset (hset (hset hcn (hn _ (by simp))) (hn _ (by simp))) (hn _ (by simp)), by simp; omega, fun j y hy => ?_⟩
 rw [List.getElem?_append] at hy
 split at hy
 ·rename_i hj
  obtain ⟨a', b', c', h0, h1, h2, h3⟩ := he j y hy
  refine ⟨a', b', c', ?_, ?_, ?_, hE _ _ _ _ _ _ _ h3 hk hcn hsz hot⟩
  ·rw [Array.getElem?_setIfInBounds_ne (by omega), Array.getElem?_setIfInBounds_ne (by omega), Array.getElem?_setIfInBounds_ne (by omega)]; exact h0
  ·rw [Array.getElem?_setIfInBounds_ne (by omega), Array.getElem?_setIfInBounds_ne (by omega), Array.getElem?_setIfInBounds_ne (by omega)]; exact h1
  ·rw [Array.getElem?_setIfInBounds_ne (by omega), Array.getElem?_setIfInBounds_ne (by omega), Array.getElem?_setIfInBounds_ne (by omega)]; exact h2
 ·rename_i hj
  have h0 : j - xs.length = 0 := by
   have := (List.getElem?_eq_some_iff.1 hy).1
   simp at this
   omega
  rw [h0] at hy
  have hxy : x = y := by simpa using hy
  subst hxy
  obtain rfl : j = xs.length := by omega
  refine ⟨a, b, c, ?_, ?_, ?_, hE _ _ _ _ _ _ _ hx hk hcn hsz hot⟩
  ·rw [Array.getElem?_setIfInBounds_ne (by omega), Array.getElem?_setIfInBounds_ne (by omega), Array.getElem?_setIfInBounds_self]; rw [if_pos (by omega)]
  ·rw [Array.getElem?_setIfInBounds_ne (by omega), Array.getElem?_setIfInBounds_self]; rw [if_pos (by simp; omega)]
  ·rw [Array.getElem?_setIfInBounds_self]; rw [if_pos (by simp; omega)]
theorem Row3.done (h : Row3 t E w g n xs) (hn : xs.length = n) : SL 3 E w (.slice (some ⟨g, 0, none⟩) n n) xs := by
 obtain ⟨cs, hk, hs, hcn, hl, he⟩ := h
 refine ⟨_, _, by rw [hn], by omega, fun _ => ⟨g, 0, rfl, hk.lt, fun j x hx => ?_⟩⟩
 obtain ⟨a, b, c, h0, h1, h2, h3⟩ := he j x hx
 refine ⟨#[a, b, c], rfl, fun i v hv => ?_, h3⟩
 have hi : i < 3 := (Array.getElem?_eq_some_iff.1 hv).1
 match i, hi with
 | 0, _ => rw [show v = a by simpa using hv.symm]; exact hk.cell (by rw [Nat.zero_add]; exact h0)
 | 1, _ => rw [show v = b by simpa using hv.symm]; exact hk.cell (by rw [Nat.zero_add]; exact h1)
 | 2, _ => rw [show v = c by simpa using hv.symm]; exact hk.cell (by rw [Nat.zero_add]; exact h2)
theorem Row3.made (w : World) (t n : Nat) (z : Array Value) (hz : z.size = 3) (hn : ∀ u ∈ z, notInt u = true) : Row3 t E (w.alloc (.cells (madeCells z (n * 3)) t)) w.heap.size n ([] : List α) := by
 refine ⟨_, Blk.new w t _, by simp [size_madeCells], fun x hx => ?_, by simp, fun j x hx => by simp at hx⟩
 obtain ⟨i, hi, rfl⟩ := Array.getElem_of_mem hx
 have hp : i % z.size < z.size := Nat.mod_lt _ (by omega)
 simp only [madeCells, Array.getElem_map, Array.getElem_range]
 rw [getElem!_pos z _ hp]
 exact hn _ (Array.getElem_mem hp)
end
theorem run_make3 (t e : TypeId) (z : Value) (ht : Tryz.prog.underlying t = some (.slice e)) (hinfo : (Tryz.prog.info? e).map (fun i => (i.zero, i.size, i.bytes)) = some (some z, 3, 56)) (n : Nat) (hn : n ≤ 1000000000000) (w : World) :
  Sem.run Tryz.prog (Instr.makeSlice t (.int .i64 (n : Int)) (.int .i64 (n : Int))) w = .ok (.slice (some ⟨w.heap.size, 0, none⟩) n n) (w.alloc (.cells (madeCells z.cells (n * 3)) e)) := by
 obtain ⟨i, hi, hzz⟩ := Option.map_eq_some_iff.1 hinfo
 simp only [Prod.mk.injEq] at hzz
 obtain ⟨hz, hsz, hby⟩ := hzz
 have := run_make (P := Tryz.prog) w t e i _ ht hi hz .i64 .i64 (n : Int) (n : Int) (by omega) (Int.le_refl _) (by rw [hby]; omega) (by omega)
 rw [hsz, Int.toNat_natCast] at this
 exact this
def AllPost (w : World) (fs : List RawF) (e : Ending) (w' : World) : Prop := ∃ g, e = .returned (.slice (some ⟨g, 0, none⟩) fs.length fs.length) ∧ w.heap.size ≤ g ∧ g < w'.heap.size ∧ QL w' (.slice (some ⟨g, 0, none⟩) fs.length fs.length) (fs.map fixQ) ∧ Below w.heap.size w w'
theorem SL.put3 {α : Type} {E : World → Array Value → α → Prop} {w : World} {gq o n c : Nat} {xs : List α} {g t : Nat} {x y z a b d : Value} (hE : Far E) (h : SL 3 E w (.slice (some ⟨gq, o, none⟩) n c) xs) (hb : Blk w g t #[x, y, z]) (hn : ∀ u ∈ #[x, y, z], notInt u = true) (hne : gq ≠ g) :
  SL 3 E (((w.setCell ⟨g, 0, none⟩ a).setCell ⟨g, 1, none⟩ b).setCell ⟨g, 2, none⟩ d) (.slice (some ⟨gq, o, none⟩) n c) xs := by
 have hot : ∀ k, k ≠ g → (((w.setCell ⟨g, 0, none⟩ a).setCell ⟨g, 1, none⟩ b).setCell ⟨g, 2, none⟩ d).heap[k]? = w.heap[k]? := fun k hkg => by
  rw [Below.heap_setCell _ _ _ k hkg, Below.heap_setCell _ _ _ k hkg, Below.heap_setCell _ _ _ k hkg]
 have hsz : w.heap.size ≤ (((w.setCell ⟨g, 0, none⟩ a).setCell ⟨g, 1, none⟩ b).setCell ⟨g, 2, none⟩ d).heap.size := by simp [World.setCell]
 obtain ⟨A, c', e, hc, hr⟩ := h
 refine ⟨A, c', e, hc, fun hp => ?_⟩
 obtain ⟨g', o', rfl, hg, he⟩ := hr hp
 have hgq : gq = g' := by injection e with e1; injection e1 with e1; injection e1
 subst hgq
 refine ⟨gq, o', rfl, by omega, fun j y hy => ?_⟩
 obtain ⟨vs, h1, h2, h3⟩ := he j y hy
 exact ⟨vs, h1, fun i v hv => (World.cell?_of_block (a := ⟨gq, _, none⟩) (hot gq hne)).trans (h2 i v hv), hE _ _ _ _ _ _ _ h3 hb hn hsz fun k _ hk => hot k hk⟩
set_option maxHeartbeats 16000000 in
set_option maxRecDepth 100000 in
theorem all_calls (w : World) (v : Value) (fs : List RawF) (h : FL w v fs) (hl : fs.length ≤ 1000000000) : Calls Tryz.prog 108 #[v] w fun e w' => AllPost w fs e w' := by
 obtain ⟨A, c, rfl, hc⟩ := h.slice
 have HF := Hd h
 clear h
 go_enter Tryz.func108, Tryz.ntmps108
 have hmk := run_make3 131 113 _ Tryz.underlying131 info85m fs.length (by omega)
 go_wp2_with fail
 clear hmk
 have hr0 := Row3.made (E := EQ) w 113 fs.length #[.slice none 0 0, .slice none 0 0, .bool false] rfl ni85
 have hb0 := below_new w (.cells (madeCells #[.slice none 0 0, .slice none 0 0, .bool false] (fs.length * 3)) 113)
 generalize w.alloc (.cells (madeCells #[.slice none 0 0, .slice none 0 0, .bool false] (fs.length * 3)) 113) = W0 at *
 go_loopw [11] (fun vi wr => ∃ i : Nat, i ≤ fs.length ∧ vi = .int .i64 (i : Int) ∧ Row3 113 EQ wr w.heap.size fs.length ((fs.take i).map fixQ) ∧ Below w.heap.size w wr) (fun vi _ => fs.length - (intOf vi).toNat)
 case atStart => exact ⟨0, Nat.zero_le _, rfl, hr0, hb0⟩
 case round =>
  obtain ⟨i, hi, rfl, hrow, hb⟩ := hrel
  have HRW := Hd hrow
  have HB := Hd hb
  clear hrow hb hr0 hb0
  by_cases hlt : i < fs.length
  ·obtain ⟨f, hf⟩ : ∃ f, fs[i]? = some f := ⟨fs[i], List.getElem?_eq_getElem hlt⟩
   obtain ⟨g, o, A1, n1, c1, A2, n2, c2, rfl, hg, k0, k1, k2, HE⟩ := FL.at3 (HF.out.below EF.stays HB.out) hf
   have HFI := Hd hf
   clear hf
   have m1 : (i : Int) < (fs.length : Int) := by omega
   have m3 : (i : Int).toNat = i := by omega
   have m4 : (0 : Int) ≤ (i : Int) := by omega
   go_wp2_with fail
   have hb1 := below_new wr (.cells #[.bool f.neg, .slice A1 n1 c1, .slice A2 n2 c2] 46)
   refine (taken_calls _ _ f (HE.out.of_below hb1)).mono ?_
   rintro e w2 ⟨v, rfl, hv, hb2⟩
   obtain ⟨A5, n5, c5, A6, n6, c6, rfl, HV⟩ := hv.opened'
   have HRW2 := Hd (HRW.out.below EQ.stays (below_next hb1 hb2))
   have HB2 := Hd (below_next HB.out (below_next hb1 hb2))
   clear hv hb1 hb2
   obtain ⟨a, b, d, e0, e1, e2, f0, f1, f2⟩ := HRW2.out.cells i hlt
   go_wp2_with fail
   go_roundw
   case rel =>
    have hlen : ((fs.take i).map fixQ).length = i := by rw [List.length_map, List.length_take, Nat.min_eq_left hi]
    refine ⟨i + 1, by omega, by go_num, ?_, ?_⟩
    ·have := HRW2.out.push EQ.far (by rw [hlen]; exact hlt) HV.out (by simp [notInt])
     rw [hlen] at this
     rw [List.take_add_one, HFI.out, List.map_append]
     exact this
    ·exact Below.setCell (Below.setCell (Below.setCell HB2.out (Nat.le_refl _) _) (Nat.le_refl _) _) (Nat.le_refl _) _
   case measure => simp [intOf]; omega
  ·obtain rfl : i = fs.length := by omega
   go_wp2_with fail
   go_ret
   refine ⟨w.heap.size, rfl, Nat.le_refl _, HRW.out.lt, ?_, HB.out⟩
   have := HRW.out.done (by simp)
   rw [List.take_length] at this
   exact this
def notWord : Value → Bool | .int .u32 _ => false | _ => true
def Keeps (w w1 : World) : Prop := w.heap.size ≤ w1.heap.size ∧ ∀ (g o : Nat) (n : Int), w.cell? ⟨g, o, none⟩ = some (.int .u32 n) → w1.cell? ⟨g, o, none⟩ = some (.int .u32 n)
theorem Keeps.refl (w : World) : Keeps w w := ⟨Nat.le_refl _, fun _ _ _ h => h⟩
theorem Keeps.trans {a b c : World} (h : Keeps a b) (h2 : Keeps b c) : Keeps a c := ⟨Nat.le_trans h.1 h2.1, fun g o n h3 => h2.2 g o n (h.2 g o n h3)⟩
theorem Keeps.of_below {w w1 : World} (h : Below w.heap.size w w1) : Keeps w w1 := ⟨h.size, fun g o n hc => by
 have hlt := World.block_lt_of_cell? w _ hc
 rw [(bcell h).1 g o hlt]
 exact hc⟩
theorem Keeps.set {w : World} {a : Addr} {v u : Value} (hu : w.cell? a = some u) (hn : notWord u = true) : Keeps w (w.setCell a v) := ⟨by simp [World.setCell], fun g o n hc => by
 rw [World.cell?_setCell_other _ _ _ _ (by
  rintro rfl
  rw [hu] at hc
  injection hc with hc
  rw [hc] at hn
  cases hn)]
 exact hc⟩
theorem Keeps.apart {w w1 : World} {g t : Nat} {cs : Array Value} (hb : Blk w g t cs) (hn : ∀ x ∈ cs, notWord x = true) (hs : w.heap.size ≤ w1.heap.size) (hk : ∀ k, k < w.heap.size → k ≠ g → w1.heap[k]? = w.heap[k]?) : Keeps w w1 :=
 ⟨hs, fun g' o n hc => by
  have hlt := World.block_lt_of_cell? w _ hc
  have hne : g' ≠ g := by
   rintro rfl
   simp only [World.cell?] at hc
   rw [show w.heap[g']? = some (.cells cs t (0, 0)) from hb] at hc
   simp at hc
   obtain ⟨hl, he⟩ := Array.getElem?_eq_some_iff.1 hc
   have := hn _ (Array.getElem_mem hl)
   rw [he] at this
   cases this
  rw [World.cell?_of_block (a := ⟨g', o, none⟩) (hk g' hlt hne)]
  exact hc⟩
theorem Rd.keeps {w w1 : World} {v : Value} {xs : List Nat} (h : Rd w v xs) (hk : Keeps w w1) : Rd w1 v xs := by
 obtain ⟨hw, A, c, rfl, hc, hr⟩ := h
 refine ⟨hw, A, c, rfl, hc, fun hp => ?_⟩
 obtain ⟨g, o, rfl, hg, hj⟩ := hr hp
 exact ⟨g, o, rfl, Nat.lt_of_lt_of_le hg hk.1, fun j hjl => hk.2 _ _ _ (hj j hjl)⟩
theorem FQ.keeps {w w1 : World} {v : Value} {q : Rat} (h : FQ w v q) (hk : Keeps w w1) : FQ w1 v q := by
 obtain ⟨v1, v2, e, h1, h2⟩ := h
 exact ⟨v1, v2, e, Rd.keeps h1 hk, Rd.keeps h2 hk⟩
theorem FR.keeps {w w1 : World} {v : Value} {f : RawF} (h : FR w v f) (hk : Keeps w w1) : FR w1 v f := by
 obtain ⟨hl, v1, v2, e, h1, h2⟩ := h
 exact ⟨hl, v1, v2, e, h1.keeps hk, h2.keeps hk⟩
def Leans {α : Type} (E : World → Array Value → α → Prop) : Prop := ∀ w w1 vs x, E w vs x → Keeps w w1 → E w1 vs x
theorem EF.leans : Leans EF := fun _ _ _ _ h hk => FR.keeps h hk
def OwnR (w : World) (base e k : Nat) (v : Value) (n : Nat) (xs : List Value) : Prop :=
 xs.length = n * k ∧ ((v = .slice none 0 0 ∧ n = 0) ∨ ∃ g cap cur, v = .slice (some ⟨g, 0, none⟩) n cap ∧ base ≤ g ∧ Blk w g e cur ∧ n ≤ cap ∧ cap ≤ maxLen ∧ cur.size = cap * k ∧ cur.toList.take (n * k) = xs ∧ ∀ u ∈ cur, notWord u = true)
theorem OwnR.nil (w : World) (base e k : Nat) : OwnR w base e k (.slice none 0 0) 0 [] := ⟨by simp, .inl ⟨rfl, rfl⟩⟩
theorem OwnR.move {w w1 : World} {base e k : Nat} {v : Value} {n : Nat} {xs : List Value} (h : OwnR w base e k v n xs) (hb : ∀ g, v.ownBlock = some g → w1.heap[g]? = w.heap[g]?) : OwnR w1 base e k v n xs := by
 obtain ⟨hl, h⟩ := h
 refine ⟨hl, ?_⟩
 rcases h with h | ⟨g, cap, cur, rfl, h1, h2, h3⟩
 ·exact .inl h
 ·exact .inr ⟨g, cap, cur, rfl, h1, (hb g rfl).trans h2, h3⟩
theorem OwnR.lt {w : World} {base e k : Nat} {v : Value} {n : Nat} {xs : List Value} (h : OwnR w base e k v n xs) : ∀ g, v.ownBlock = some g → base ≤ g ∧ g < w.heap.size := by
 rcases h.2 with ⟨rfl, _⟩ | ⟨g, cap, cur, rfl, h1, h2, h3⟩
 ·intro g hg; simp [Value.ownBlock] at hg
 ·intro g' hg
  simp [Value.ownBlock] at hg
  subst hg
  exact ⟨h1, h2.lt⟩
theorem OwnR.below {w w1 : World} {base e k : Nat} {v : Value} {n : Nat} {xs : List Value} (h : OwnR w base e k v n xs) (hb : Below w.heap.size w w1) : OwnR w1 base e k v n xs := h.move fun g hg => hb.block g (h.lt g hg).2
theorem OwnR.slice {w : World} {base e k : Nat} {v : Value} {n : Nat} {xs : List Value} (h : OwnR w base e k v n xs) : ∃ A c, v = .slice A n c ∧ n ≤ c := by
 rcases h.2 with ⟨rfl, rfl⟩ | ⟨g, cap, cur, rfl, _, _, h3, _⟩
 ·exact ⟨none, 0, rfl, Nat.le_refl _⟩
 ·exact ⟨_, _, rfl, h3⟩
theorem notWord_zeros {z : Array Value} (hz : ∀ u ∈ z, notWord u = true) (n : Nat) : ∀ u ∈ Builtin.zeroCells z n, notWord u = true := fun u hu => by
 simp only [Builtin.zeroCells] at hu
 obtain ⟨i, hi, rfl⟩ := Array.getElem_of_mem hu
 simp at hi
 by_cases h0 : z.size = 0
 ·simp [h0] at hi
 ·have hp : i % z.size < z.size := Nat.mod_lt _ (by omega)
  simp only [Array.getElem_map, Array.getElem_range]
  rw [getElem!_pos z _ hp]
  exact hz _ (Array.getElem_mem hp)
section
variable {P : Program}
theorem OwnR.append {w : World} {base e k : Nat} {v : Value} {n : Nat} {xs : List Value} (h : OwnR w base e k v n xs) (t ty : TypeId) (z : Value) (bytes : Nat) (ht : P.underlying t = some (.slice e))
  (hinfo : (P.info? e).map (fun i => (i.zero, i.size, i.bytes)) = some (some z, k, bytes)) (hzs : z.cells.size = k) (hzw : ∀ u ∈ z.cells, notWord u = true)
  (a : Addr) (m c : Nat) (news : List Value) (hl : news.length = m * k) (hnews : ∀ j u, news[j]? = some u → w.cell? (a.add j) = some u) (h1 : ∀ u ∈ news, u.oneCell' = true) (hnw : ∀ u ∈ news, notWord u = true)
  (hm : 0 < m) (h63 : n + m ≤ 140737488355328) (hbytes : (n + m) * bytes ≤ 140737488355328) (hbase : base ≤ w.heap.size) :
  ∃ v' w', (Builtin.append_ #[t, t] ty #[v, .slice (some a) m c]).run P w = .ok v' w' ∧ OwnR w' base e k v' (n + m) (xs ++ news) ∧ w.grownBy w' v.ownBlock ∧ Keeps w w' ∧ (∀ g, v'.ownBlock = some g → v.ownBlock = some g ∨ w.heap.size ≤ g) := by
 obtain ⟨i, hi, hzz⟩ := Option.map_eq_some_iff.1 hinfo
 simp only [Prod.mk.injEq] at hzz
 obtain ⟨hz, hsz, hby⟩ := hzz
 subst hsz
 subst hby
 have hlen : (xs ++ news).length = (n + m) * i.size := by rw [List.length_append, h.1, hl, Nat.add_mul]
 have grown : ∀ (old : Nat), old < n + m → (∀ u ∈ xs, notWord u = true) → ∀ (row : Option Nat),
   OwnR (w.drew.alloc (.cells (xs.toArray ++ news.toArray ++ Builtin.zeroCells z.cells (grownCap w (n + m) old e - (n + m))) e)) base e i.size
    (.slice (some ⟨w.heap.size, 0, none⟩) (n + m) (grownCap w (n + m) old e)) (n + m) (xs ++ news) ∧
   w.grownBy (w.drew.alloc (.cells (xs.toArray ++ news.toArray ++ Builtin.zeroCells z.cells (grownCap w (n + m) old e - (n + m))) e)) row ∧ Keeps w (w.drew.alloc (.cells (xs.toArray ++ news.toArray ++ Builtin.zeroCells z.cells (grownCap w (n + m) old e - (n + m))) e)) := by
  intro old ho hxw row
  have hge := grownCap_ge w (n + m) old e
  have hcm : grownCap w (n + m) old e ≤ maxLen := grownCap_le_maxLen w (n + m) old e (by unfold maxLen; omega)
  refine ⟨⟨hlen, .inr ⟨w.heap.size, _, _, rfl, hbase, heap_alloc_new w.drew _, hge, hcm, ?_, ?_, fun u hu => ?_⟩⟩, ⟨rfl, rfl, rfl, by simp, fun j hj _ => heap_alloc_old w.drew _ hj⟩, Keeps.of_below (Below.alloc (Below.drew (Below.refl _ _)) (Nat.le_refl _) _)⟩
  ·simp only [Array.size_append, List.size_toArray, size_zeroCells, hzs, h.1, hl, ← Nat.add_mul]
   congr 1
   omega
  ·simp only [Array.toList_append, List.append_assoc]
   rw [← List.append_assoc, ← hlen]
   exact List.take_left
  ·simp only [Array.mem_append, List.mem_toArray] at hu
   rcases hu with (hu | hu) | hu
   ·exact hxw u hu
   ·exact hnw u hu
   ·exact notWord_zeros hzw _ u hu
 rcases h.2 with ⟨rfl, rfl⟩ | ⟨g, cap, cur, rfl, hbg, hg, hnc, hcm, hcs, htake, hcw⟩
 ·have hx : xs = [] := List.eq_nil_of_length_eq_zero (by simpa using h.1)
  subst hx
  have hr := run_append_nil (P := P) w t ty e i z ht hi hz a m c news hl hnews hm (by omega) (by have hb := hbytes; simp only [Nat.zero_add] at hb; omega)
  have hgr := grown 0 (by omega) (by simp) (Value.ownBlock (.slice none 0 0))
  simp only [Nat.zero_add, List.nil_append, Array.empty_append] at hgr ⊢
  exact ⟨_, _, hr, hgr.1, hgr.2.1, hgr.2.2, fun g hg => .inr (by simp [Value.ownBlock] at hg; omega)⟩
 ·by_cases hroom : n + m ≤ cap
  ·have hfit : n * i.size + news.length ≤ cur.size := by rw [hl, hcs, ← Nat.add_mul]; exact Nat.mul_le_mul_right _ hroom
   have hr := run_append_room (P := P) w t ty e i ht hi g n cap cur hg a m c news hl hnews h1 hroom hfit
   have hother : ∀ k, k < w.heap.size → k ≠ g → (w.setRow g (cur.toList.take (n * i.size) ++ news ++ cur.toList.drop (n * i.size + news.length)).toArray).heap[k]? = w.heap[k]? := fun k _ hk => setRow_other w g k _ hk
   refine ⟨_, _, hr, ⟨hlen, .inr ⟨g, cap, _, rfl, hbg, setRow_heap w g cur _ e _ hg, hroom, hcm, ?_, ?_, fun u hu => ?_⟩⟩, ⟨rfl, rfl, rfl, by simp, fun k hk hne => hother k hk (fun e => hne (by simp [Value.ownBlock, e]))⟩, Keeps.apart hg hcw (by simp) hother, fun q hq => .inl hq⟩
   ·simp only [List.size_toArray, List.length_append, List.length_take, List.length_drop, Array.length_toList]
    omega
   ·rw [htake, ← hlen]
    exact List.take_left
   ·simp only [List.mem_toArray, List.mem_append] at hu
    rcases hu with (hu | hu) | hu
    ·exact hcw u (by simpa using List.mem_of_mem_take hu)
    ·exact hnw u hu
    ·exact hcw u (by simpa using List.mem_of_mem_drop hu)
  ·have holds : ∀ j u, xs[j]? = some u → w.cell? ((⟨g, 0, none⟩ : Addr).add j) = some u := fun j u hj => by
    rw [add_zero']
    refine hg.cell ?_
    rw [← htake, List.getElem?_take] at hj
    split at hj
    ·simpa using hj
    ·cases hj
   have hxw : ∀ u ∈ xs, notWord u = true := fun u hu => by
    rw [← htake] at hu
    exact hcw u (by simpa using List.mem_of_mem_take hu)
   have hr := run_append_grow (P := P) w t ty e i z ht hi hz ⟨g, 0, none⟩ n cap xs h.1 holds a m c news hl hnews (by omega) (by omega) (growslice_fits (by omega) hbytes)
   have hgr := grown cap (by omega) hxw (Value.ownBlock (.slice (some ⟨g, 0, none⟩) n cap))
   exact ⟨_, _, hr, hgr.1, hgr.2.1, hgr.2.2, fun q hq => .inr (by simp [Value.ownBlock] at hq; omega)⟩
variable {ops : Array Oper} {rest : List Oper} {o : Oper} {a : Act} {Q : Exit → Act → World → Prop}
theorem wpl_appendR {W : World} (hgd : o.guard = none) (s x : Operand) (t : TypeId) (ho : o.op = .call { callee := .builtin .append, args := #[s, x], argTypes := #[t, t] }) {base e k : Nat} (z : Value) (bytes : Nat)
  (ht : P.underlying t = some (.slice e)) (hinfo : (P.info? e).map (fun i => (i.zero, i.size, i.bytes)) = some (some z, k, bytes)) (hzs : z.cells.size = k) (hzw : ∀ u ∈ z.cells, notWord u = true)
  (v : Value) (n : Nat) (xs : List Value) (hs : a.eval s = v) (hown : OwnR W base e k v n xs)
  (ad : Addr) (m c : Nat) (news : List Value) (hx : a.eval x = .slice (some ad) m c) (hl : news.length = m * k) (hnews : ∀ j u, news[j]? = some u → W.cell? (ad.add j) = some u) (h1 : ∀ u ∈ news, u.oneCell' = true) (hnw : ∀ u ∈ news, notWord u = true)
  (hm : 0 < m) (h63 : n + m ≤ 140737488355328) (hbytes : (n + m) * bytes ≤ 140737488355328) (hbase : base ≤ W.heap.size)
  (h : ∀ v' w', OwnR w' base e k v' (n + m) (xs ++ news) → W.grownBy w' v.ownBlock → Keeps W w' → (∀ g, v'.ownBlock = some g → v.ownBlock = some g ∨ W.heap.size ≤ g) → wpList P ops Q rest (a.put o.dst v') w') : wpList P ops Q (o :: rest) a W :=
 wpList_plain hgd fun K hK => by
  obtain ⟨v', w', hr, h2, h3, h4, h5⟩ := hown.append (P := P) t o.type z bytes ht hinfo hzs hzw ad m c news hl hnews h1 hnw hm h63 hbytes hbase
  unfold Oper.wp execOp
  simp only [ho, resolve, invoke, builtin, Sem.run_bind, Sem.run_pure, Result.andThen_ok, List.map_toArray, List.map_cons, List.map_nil, hs, hx, hr]
  exact hK _ _ (h v' w' h2 h3 h4 h5)
end
def OL {α : Type} (k e : Nat) (E : World → Array Value → α → Prop) (base : Nat) (w : World) (v : Value) (ys : List α) : Prop :=
 ∃ xs, OwnR w base e k v ys.length xs ∧ ∀ j a, ys[j]? = some a → ∃ vs : Array Value, vs.size = k ∧ (∀ i u, vs[i]? = some u → xs[j * k + i]? = some u) ∧ E w vs a
section
variable {α : Type} {k e : Nat} {E : World → Array Value → α → Prop} {base : Nat} {w w1 : World} {v : Value} {ys : List α}
theorem OL.nil (k e : Nat) (E : World → Array Value → α → Prop) (base : Nat) (w : World) : OL k e E base w (.slice none 0 0) [] := ⟨[], OwnR.nil _ _ _ _, fun j a h => by simp at h⟩
theorem OL.below (hE : Stays E) (h : OL k e E base w v ys) (hb : Below w.heap.size w w1) : OL k e E base w1 v ys := by
 obtain ⟨xs, h1, h2⟩ := h
 refine ⟨xs, h1.below hb, fun j a hj => ?_⟩
 obtain ⟨vs, h3, h4, h5⟩ := h2 j a hj
 exact ⟨vs, h3, h4, hE _ _ _ _ h5 hb⟩
theorem OL.slice (h : OL k e E base w v ys) : ∃ A c, v = .slice A ys.length c ∧ ys.length ≤ c := by
 obtain ⟨xs, h1, _⟩ := h
 exact h1.slice
theorem OL.lt (h : OL k e E base w v ys) : ∀ g, v.ownBlock = some g → base ≤ g ∧ g < w.heap.size := by
 obtain ⟨xs, h1, _⟩ := h
 exact h1.lt
theorem OL.sl (h : OL k e E base w v ys) : SL k E w v ys := by
 obtain ⟨xs, ⟨hl, h1⟩, h2⟩ := h
 rcases h1 with ⟨rfl, h0⟩ | ⟨g, cap, cur, rfl, hb, hk, hnc, hcm, hcs, htake, hw⟩
 ·exact ⟨none, 0, by rw [h0], by omega, fun hp => by omega⟩
 ·refine ⟨_, cap, rfl, hnc, fun hp => ⟨g, 0, rfl, hk.lt, fun j x hj => ?_⟩⟩
  obtain ⟨vs, h3, h4, h5⟩ := h2 j x hj
  refine ⟨vs, h3, fun i u hi => ?_, h5⟩
  have h6 := h4 i u hi
  rw [Nat.zero_add]
  refine hk.cell ?_
  rw [← htake, List.getElem?_take] at h6
  split at h6
  ·simpa using h6
  ·cases h6
theorem OL.push (hE : Leans E) {v' : Value} {vs : Array Value} {b : α} (h : OL k e E base w v ys) (hv : vs.size = k) (hb : E w vs b) (hk : Keeps w w1) (hown : ∀ xs, OwnR w base e k v ys.length xs → OwnR w1 base e k v' (ys.length + 1) (xs ++ vs.toList)) : OL k e E base w1 v' (ys ++ [b]) := by
 obtain ⟨xs, h1, h2⟩ := h
 refine ⟨xs ++ vs.toList, by rw [List.length_append]; exact hown xs h1, fun j a hj => ?_⟩
 rw [List.getElem?_append] at hj
 split at hj
 ·rename_i hlt
  obtain ⟨us, h3, h4, h5⟩ := h2 j a hj
  refine ⟨us, h3, fun i u hi => ?_, hE _ _ _ _ h5 hk⟩
  have h6 := h4 i u hi
  rw [List.getElem?_append_left (List.getElem?_eq_some_iff.1 h6).1]
  exact h6
 ·rename_i hge
  have h0 : j - ys.length = 0 := by
   have := (List.getElem?_eq_some_iff.1 hj).1
   simp at this
   omega
  rw [h0] at hj
  have hba : b = a := by simpa using hj
  subst hba
  obtain rfl : j = ys.length := by omega
  refine ⟨vs, hv, fun i u hi => ?_, hE _ _ _ _ hb hk⟩
  rw [← h1.1, List.getElem?_append_right (by omega), Nat.add_sub_cancel_left]
  simpa using hi
end
def sumQ (l : List Rat) : Rat := l.foldl (· + ·) 0
theorem sumQ_snoc (l : List Rat) (q : Rat) : sumQ (l ++ [q]) = sumQ l + q := by unfold sumQ; rw [List.foldl_append]; rfl
theorem fit_zero : FitQ 1 0 := by unfold FitQ; decide +kernel
theorem fit_fold (k : Nat) : ∀ (l : List Rat) (c : Nat) (a : Rat), FitQ c a → (∀ q ∈ l, FitQ k q) → FitQ (l.length * (k + 1) + c) (l.foldl (· + ·) a)
 | [], c, a, ha, _ => by simpa using ha
 | q :: l, c, a, ha, h => by
  have := fit_fold k l (c + k + 1) (a + q) (fit_add ha (h q (by simp)) (Nat.le_refl _)) fun x hx => h x (List.mem_cons_of_mem _ hx)
  rw [List.foldl_cons]
  refine fit_mono this ?_
  rw [List.length_cons, Nat.add_mul]
  omega
theorem fit_sum (l : List Rat) (k : Nat) (h : ∀ q ∈ l, FitQ k q) : FitQ (l.length * (k + 1) + 1) (sumQ l) := fit_fold k l 1 0 fit_zero h
def Acc (W : World) (g : Nat) (q : Rat) : Prop := ∃ A1 n1 c1 A2 n2 c2, Blk W g 113 #[.slice A1 n1 c1, .slice A2 n2 c2, .bool (negQ q)] ∧ RQ W (.agg #[.slice A1 n1 c1, .slice A2 n2 c2, .bool (negQ q)]) q
theorem Acc.step {W W' : World} {g : Nat} {q : Rat} (h : Acc W g q) (hb : Below W.heap.size W W') : Acc W' g q := by
 obtain ⟨A1, n1, c1, A2, n2, c2, h1, h2⟩ := h
 exact ⟨A1, n1, c1, A2, n2, c2, h1.below hb h1.lt, h2.of_below hb⟩
theorem ni_acc {A1 A2 : Option Addr} {n1 c1 n2 c2 : Nat} {s : Bool} : ∀ u ∈ #[Value.slice A1 n1 c1, .slice A2 n2 c2, .bool s], notInt u = true := by simp [notInt]
theorem Acc.put {W : World} {g : Nat} {q p : Rat} {A1 A2 : Option Addr} {n1 c1 n2 c2 : Nat} (h : Acc W g q) (hp : RQ W (.agg #[.slice A1 n1 c1, .slice A2 n2 c2, .bool (negQ p)]) p) : Acc (((W.setCell ⟨g, 0, none⟩ (.slice A1 n1 c1)).setCell ⟨g, 1, none⟩ (.slice A2 n2 c2)).setCell ⟨g, 2, none⟩ (.bool (negQ p))) g p := by
 obtain ⟨_, _, _, _, _, _, h1, _⟩ := h
 exact ⟨A1, n1, c1, A2, n2, c2, h1.put3 _ _ _, hp.put3 h1 ni_acc _ _ _⟩
theorem HS.other3 {w W : World} {bs : List (Nat × Nat × Array Value)} {g : Nat} (h : HS w bs W) (hg : w.heap.size ≤ g) (hne : ∀ b ∈ bs, b.1 ≠ g) (x y z : Value) : HS w bs (((W.setCell ⟨g, 0, none⟩ x).setCell ⟨g, 1, none⟩ y).setCell ⟨g, 2, none⟩ z) := by
 refine ⟨fun b hm => ?_, below_put3 h.2 hg x y z⟩
 exact (((h.1 b hm).other (a := ⟨g, 0, none⟩) (hne b hm) x).other (a := ⟨g, 1, none⟩) (hne b hm) y).other (a := ⟨g, 2, none⟩) (hne b hm) z
theorem fit_all (fs : List RawF) : ∀ q ∈ fs.map fixQ, FitQ 4096 q := fun q hq => by
 obtain ⟨f, _, rfl⟩ := List.mem_map.1 hq
 exact fit_fix f
theorem size_sums (fs : List RawF) (i : Nat) (hl : fs.length ≤ 100000) : sizeQ (sumQ ((fs.map fixQ).take i)) ≤ 4000000000 := by
 have := (fit_sum ((fs.map fixQ).take i) 4096 fun q hq => fit_all fs q (List.mem_of_mem_take hq)).size
 have h2 : ((fs.map fixQ).take i).length ≤ 100000 := by rw [List.length_take, List.length_map]; omega
 have h3 := Nat.mul_le_mul_right 4097 h2
 omega
set_option maxHeartbeats 16000000 in
set_option maxRecDepth 100000 in
theorem fsum_calls (w : World) (v : Value) (fs : List RawF) (h : FL w v fs) (hl : fs.length ≤ 100000) : Calls Tryz.prog 77 #[v] w fun e w' => FPost w (capQ (sumQ (fs.map fixQ))) e w' := by
 obtain ⟨A, c, rfl, hc⟩ := h.slice
 have HF := Hd h
 clear h
 go_enter Tryz.func77, Tryz.ntmps77
 go_wp2_with fail
 have H0 := Hd (HS.one (w := w) #[.bool false, .slice none 0 0, .slice none 0 0] 46)
 generalize w.alloc (.cells #[.bool false, .slice none 0 0, .slice none 0 0] 46) = W0 at *
 refine (whole_calls W0 0 (by decide) (by decide)).mono ?_
 rintro e w1 ⟨v, rfl, hv, hb⟩
 obtain ⟨A5, n5, c5, A6, n6, c6, rfl, HV⟩ := hv.opened'
 have H1 := Hd (H0.out.step hb)
 clear hb hv
 go_wp2_with fail
 have HA0 := Hd (show Acc (w1.alloc (.cells #[.slice A5 n5 c5, .slice A6 n6 c6, .bool (negQ 0)] 113)) w1.heap.size 0 from ⟨A5, n5, c5, A6, n6, c6, Blk.new _ _ _, HV.out.of_below (below_new _ _)⟩)
 have H2 := Hd (H1.out.more (.cells #[.slice A5 n5 c5, .slice A6 n6 c6, .bool (negQ 0)] 113))
 have hg0 := (H1.out.blk 0 rfl).lt
 have hw0 := H1.out.2.size
 have HF2 := Hd (HF.out.below EF.stays H2.out.2)
 obtain ⟨g3, hg3⟩ : ∃ g3, g3 = w1.heap.size := ⟨_, rfl⟩
 rw [← hg3] at HA0 hg0 hw0
 have HG3 := Hd hg3
 generalize w1.alloc (.cells #[.slice A5 n5 c5, .slice A6 n6 c6, .bool (negQ 0)] 113) = W2 at *
 rw [← hg3]
 clear hg3
 refine (all_calls _ _ fs HF2.out (by omega)).mono ?_
 rintro e w3 ⟨gq, rfl, hgq, hgq2, hql, hb⟩
 have HA3 := Hd (HA0.out.step hb)
 have hgq3 : g3 < gq := by obtain ⟨_, _, _, _, _, _, h1, _⟩ := HA0.out; have := h1.lt; omega
 have H3 := Hd (H2.out.step hb)
 have HQL := Hd hql
 clear hb hql
 go_wp2_with fail
 go_loopw [10] (fun vi wr => ∃ i : Nat, i ≤ fs.length ∧ vi = .int .i64 (i : Int) ∧ Acc wr g3 (sumQ ((fs.map fixQ).take i)) ∧ QL wr (.slice (some ⟨gq, 0, none⟩) fs.length fs.length) (fs.map fixQ) ∧ HS w [(w.heap.size, 46, #[.bool false, .slice none 0 0, .slice none 0 0])] wr) (fun vi _ => fs.length - (intOf vi).toNat)
 case atStart => exact ⟨0, Nat.zero_le _, rfl, HA3.out, HQL.out, H3.out⟩
 case round =>
  obtain ⟨i, hi, rfl, hacc, hq, hs⟩ := hrel
  have HA4 := Hd hacc
  have HQ4 := Hd hq
  have H4 := Hd hs
  clear hacc hq hs
  by_cases hlt : i < fs.length
  ·obtain ⟨q, hqi⟩ : ∃ q, (fs.map fixQ)[i]? = some q := ⟨(fs.map fixQ)[i]'(by simpa using hlt), List.getElem?_eq_getElem (by simpa using hlt)⟩
   obtain ⟨g', o', A1, n1, c1, A2, n2, c2, eA, hg, k0, k1, k2, HE⟩ := QL.at3 HQ4.out hqi
   injection eA with eA
   injection eA with eA1 eA2
   subst eA1 eA2
   rw [Nat.zero_add] at k0 k1 k2
   have HQI := Hd hqi
   have hsq : sizeQ q ≤ 4000000000 := by
    have := (fit_all fs q (List.mem_of_getElem? hqi)).size
    omega
   clear hqi
   have m1 : (i : Int) < (fs.length : Int) := by omega
   have m3 : (i : Int).toNat = i := by omega
   have m4 : (0 : Int) ≤ (i : Int) := by omega
   have hsz := size_sums fs i hl
   obtain ⟨B1, k1', d1, B2, k2', d2, hk, hR⟩ := HA4.out
   have HR1 := Hd hR
   have HK := Hd hk
   obtain ⟨a0, a1, a2⟩ := hk.c3
   have hlt3 := hk.lt
   clear hR hk
   go_wp2_with fail
   have hb1 := below_new wr (.cells #[.slice A1 n1 c1, .slice A2 n2 c2, .bool (negQ q)] 113)
   refine (plus_calls _ _ _ _ _ (HR1.out.of_below hb1) (HE.out.of_below hb1) hsz hsq).mono ?_
   rintro e w2 ⟨v, rfl, hv, hb2⟩
   obtain ⟨A7, n7, c7, A8, n8, c8, rfl, HV⟩ := hv.opened'
   have hbb := below_next hb1 hb2
   have HA5 := Hd (HA4.out.step hbb)
   have HQ5 := Hd (HQ4.out.below EQ.stays hbb)
   have H5 := Hd (H4.out.step hbb)
   obtain ⟨_, _, _, _, _, _, hk5, _⟩ := HA5.out
   obtain ⟨a0', a1', a2'⟩ := hk5.c3
   obtain ⟨f0, f1, f2⟩ := hk5.f3
   have HK5 := Hd hk5
   clear hv hb1 hb2 hbb hk5
   go_wp2_with fail
   go_roundw
   case rel =>
    refine ⟨i + 1, by omega, by go_num, ?_, HQ5.out.put3 EQ.far HK5.out ni_acc (by omega), H5.out.other3 (by omega) (by simp; omega) _ _ _⟩
    rw [List.take_add_one, HQI.out]
    have e : sumQ (List.take i (List.map fixQ fs) ++ (some q).toList) = sumQ (List.take i (List.map fixQ fs)) + q := sumQ_snoc _ _
    rw [e]
    exact HA5.out.put HV.out
   case measure => simp [intOf]; omega
  ·obtain rfl : i = fs.length := by omega
   rw [show (fs.map fixQ).take fs.length = fs.map fixQ from List.take_of_length_le (by simp)] at HA4
   obtain ⟨B1, k1', d1, B2, k2', d2, hk, hR⟩ := HA4.out
   have HR1 := Hd hR
   obtain ⟨a0, a1, a2⟩ := hk.c3
   clear hR hk
   have hsz := size_sums fs fs.length hl
   rw [show (fs.map fixQ).take fs.length = fs.map fixQ from List.take_of_length_le (by simp)] at hsz
   go_wp2_with fail
   refine (told_calls _ _ _ HR1.out hsz).mono ?_
   rintro e w2 ⟨v, rfl, hv, hb2⟩
   obtain ⟨A7, n7, c7, A8, n8, c8, rfl, HV⟩ := hv.opened
   have H5 := Hd (H4.out.step hb2)
   clear hv hb2
   obtain ⟨e0, e1, e2⟩ := (H5.out.blk 0 rfl).c3
   obtain ⟨f0, f1, f2⟩ := (H5.out.blk 0 rfl).f3
   go_wp2_with fail
   exact end40 Tryz.results77 rfl (H5.out.blk 0 rfl) HV.out (Nat.le_refl _) H5.out.2
def dotQ (a b : List Rat) : Rat := sumQ (List.zipWith (· * ·) a b)
theorem fit_dots (fs gs : List RawF) : ∀ q ∈ List.zipWith (· * ·) (fs.map fixQ) (gs.map fixQ), FitQ 8192 q := fun q hq => by
 obtain ⟨i, hi, rfl⟩ := List.getElem_of_mem hq
 rw [List.getElem_zipWith, List.getElem_map, List.getElem_map]
 exact fit_mul (fit_fix _) (fit_fix _) (by omega)
theorem size_dots (fs gs : List RawF) (i : Nat) (hl : fs.length ≤ 100000) : sizeQ (sumQ ((List.zipWith (· * ·) (fs.map fixQ) (gs.map fixQ)).take i)) ≤ 4000000000 := by
 have := (fit_sum ((List.zipWith (· * ·) (fs.map fixQ) (gs.map fixQ)).take i) 8192 fun q hq => fit_dots fs gs q (List.mem_of_mem_take hq)).size
 have h2 : ((List.zipWith (· * ·) (fs.map fixQ) (gs.map fixQ)).take i).length ≤ 100000 := by rw [List.length_take, List.length_zipWith, List.length_map]; omega
 have h3 := Nat.mul_le_mul_right 8193 h2
 omega
set_option maxHeartbeats 16000000 in
set_option maxRecDepth 100000 in
theorem fdot_calls (w : World) (v v2 : Value) (fs gs : List RawF) (h : FL w v fs) (h2 : FL w v2 gs) (hl : fs.length ≤ 100000) (hl2 : gs.length ≤ 100000) : Calls Tryz.prog 56 #[v, v2] w fun e w' => FPost w (capQ (dotQ (fs.map fixQ) (gs.map fixQ))) e w' := by
 obtain ⟨A, c, rfl, hc⟩ := h.slice
 obtain ⟨A', c', rfl, hc'⟩ := h2.slice
 have HF := Hd h
 have HG := Hd h2
 obtain ⟨ds, hds⟩ : ∃ ds, ds = List.zipWith (· * ·) (fs.map fixQ) (gs.map fixQ) := ⟨_, rfl⟩
 have HDS := Hd hds
 rw [show dotQ (fs.map fixQ) (gs.map fixQ) = sumQ ds from by rw [hds]; rfl]
 have hszs : ∀ i, sizeQ (sumQ (ds.take i)) ≤ 4000000000 := by rw [hds]; exact fun i => size_dots fs gs i hl
 have HSZ := Hd hszs
 clear h h2 hds hszs
 go_enter Tryz.func56, Tryz.ntmps56
 obtain ⟨m, hm⟩ : ∃ m : Nat, min (fs.length : Int) (gs.length : Int) = (m : Int) := ⟨min fs.length gs.length, by omega⟩
 have h1 : m ≤ fs.length := by omega
 have h2 : m ≤ gs.length := by omega
 have HM : Hid (m = min fs.length gs.length) := by unfold Hid; omega
 have h3 : (m : Int) ≤ (c : Int) := by omega
 have h4 : (m : Int) ≤ (c' : Int) := by omega
 have h5 : (m : Int).toNat = m := by omega
 go_wp2_with fail
 clear hm
 have H0 := Hd (HS.one (w := w) #[.bool false, .slice none 0 0, .slice none 0 0] 46)
 generalize w.alloc (.cells #[.bool false, .slice none 0 0, .slice none 0 0] 46) = W0 at *
 have HF1 := Hd (HF.out.take m h1 (Nat.le_refl _))
 have HG1 := Hd (HG.out.take m h2 (Nat.le_refl _))
 have lf : (fs.take m).length = m := by rw [List.length_take]; omega
 have lg : (gs.take m).length = m := by rw [List.length_take]; omega
 have LF := Hd lf
 have LG := Hd lg
 clear lf lg
 go_region_held3 (fun W => HS w [(w.heap.size, 46, #[.bool false, .slice none 0 0, .slice none 0 0])] W)
  (first
   | exact H0.out.drew
   | assumption
   | exact HS.step ‹HS _ _ _› ‹_›)
  (first
   | (go_at_call_of 108 (Value.slice A m m); refine (all_calls _ _ (fs.take m) (HF1.out.below EF.stays (HS.step ‹HS _ _ _› (Below.refl _ _)).2) (by rw [LF.out]; omega)).mono ?_; rintro e w3 ⟨gq, rfl, hgq, hgq2, hql, hb⟩; rw [LF.out])
   | (go_at_call_of 108 (Value.slice A' m m); refine (all_calls _ _ (gs.take m) (HG1.out.below EF.stays (HS.step ‹HS _ _ _› (Below.refl _ _)).2) (by rw [LG.out]; omega)).mono ?_; rintro e w4 ⟨gp, rfl, hgp, hgp2, hpl, hb4⟩; have H4 := Hd (HS.step ‹HS _ _ _› hb4); rw [LG.out]))
 have HQL := Hd (hql.below EQ.stays hb4)
 have HPL := Hd hpl
 rw [LF.out] at HQL
 rw [LG.out] at HPL
 clear hql hpl hb hb4
 have hgq4 : gq < w4.heap.size := by have := HQL.out; have := H4.out.2.size; have := HPL; omega
 go_wp2_with fail
 refine (whole_calls w4 0 (by decide) (by decide)).mono ?_
 rintro e w5 ⟨v, rfl, hv, hb⟩
 obtain ⟨A5, n5, c5, A6, n6, c6, rfl, HV⟩ := hv.opened'
 have H5 := Hd (H4.out.step hb)
 have HQ5 := Hd (HQL.out.below EQ.stays hb)
 have HP5 := Hd (HPL.out.below EQ.stays hb)
 have hs5 := hb.size
 have hg0 := (H5.out.blk 0 rfl).lt
 clear hv hb
 have HA0 := Hd (show Acc (w5.alloc (.cells #[.slice A5 n5 c5, .slice A6 n6 c6, .bool (negQ 0)] 113)) w5.heap.size 0 from ⟨A5, n5, c5, A6, n6, c6, Blk.new _ _ _, HV.out.of_below (below_new _ _)⟩)
 have H6 := Hd (H5.out.more (.cells #[.slice A5 n5 c5, .slice A6 n6 c6, .bool (negQ 0)] 113))
 have HQ6 := Hd (HQ5.out.below EQ.stays (below_new w5 (.cells #[.slice A5 n5 c5, .slice A6 n6 c6, .bool (negQ 0)] 113)))
 have HP6 := Hd (HP5.out.below EQ.stays (below_new w5 (.cells #[.slice A5 n5 c5, .slice A6 n6 c6, .bool (negQ 0)] 113)))
 go_wp2_with fail
 obtain ⟨g3, hg3⟩ : ∃ g3, g3 = w5.heap.size := ⟨_, rfl⟩
 rw [← hg3] at HA0
 have hq3 : gq ≠ g3 := by omega
 have hp3 : gp ≠ g3 := by omega
 have h03 : w.heap.size ≠ g3 := by omega
 have hw3 : w.heap.size ≤ g3 := by omega
 generalize w5.alloc (.cells #[.slice A5 n5 c5, .slice A6 n6 c6, .bool (negQ 0)] 113) = W6 at *
 rw [← hg3]
 clear hg3
 go_loopw [28] (fun vi wr => ∃ i : Nat, i ≤ m ∧ vi = .int .i64 (i : Int) ∧ Acc wr g3 (sumQ (ds.take i)) ∧ QL wr (.slice (some ⟨gq, 0, none⟩) m m) ((fs.take m).map fixQ) ∧ QL wr (.slice (some ⟨gp, 0, none⟩) m m) ((gs.take m).map fixQ) ∧ HS w [(w.heap.size, 46, #[.bool false, .slice none 0 0, .slice none 0 0])] wr) (fun vi _ => m - (intOf vi).toNat)
 case atStart => exact ⟨0, Nat.zero_le _, rfl, HA0.out, HQ6.out, HP6.out, H6.out⟩
 case round =>
  obtain ⟨i, hi, rfl, hacc, hq, hp, hs⟩ := hrel
  have HA4 := Hd hacc
  have HQ4 := Hd hq
  have HP4 := Hd hp
  have H7 := Hd hs
  clear hacc hq hp hs
  by_cases hlt : i < m
  ·have hif : i < fs.length := by omega
   have hig : i < gs.length := by omega
   have e1 : ((fs.take m).map fixQ)[i]? = some (fixQ fs[i]) := by simp [List.getElem?_map, List.getElem?_take, hlt, List.getElem?_eq_getElem hif]
   have e2 : ((gs.take m).map fixQ)[i]? = some (fixQ gs[i]) := by simp [List.getElem?_map, List.getElem?_take, hlt, List.getElem?_eq_getElem hig]
   have e3 : ds[i]? = some (fixQ fs[i] * fixQ gs[i]) := by rw [HDS.out]; simp [List.getElem?_zipWith, List.getElem?_eq_getElem hif, List.getElem?_eq_getElem hig]
   obtain ⟨p, hp⟩ : ∃ p, p = fixQ fs[i] := ⟨_, rfl⟩
   obtain ⟨q, hq⟩ : ∃ q, q = fixQ gs[i] := ⟨_, rfl⟩
   have fp : FitQ 4096 p := hp ▸ fit_fix _
   have fq : FitQ 4096 q := hq ▸ fit_fix _
   rw [← hp, ← hq] at e3
   rw [← hp] at e1
   rw [← hq] at e2
   clear hp hq
   obtain ⟨g', o', A1, n1, c1, A2, n2, c2, eA, hg, k0, k1, k2, HE⟩ := QL.at3 HQ4.out e1
   injection eA with eA
   injection eA with eA1 eA2
   subst eA1 eA2
   obtain ⟨g', o', A3, n3, c3, A4, n4, c4, eA, hg', k0', k1', k2', HE'⟩ := QL.at3 HP4.out e2
   injection eA with eA
   injection eA with eA1 eA2
   subst eA1 eA2
   rw [Nat.zero_add] at k0 k1 k2 k0' k1' k2'
   have HE3 := Hd e3
   clear e1 e2 e3
   have s1 : sizeQ p ≤ 4000000000 := by have := fp.size; omega
   have s2 : sizeQ q ≤ 4000000000 := by have := fq.size; omega
   have s3 : sizeQ (p * q) ≤ 4000000000 := by have := (fit_mul fp fq (Nat.le_refl _)).size; omega
   have s4 : sizeQ (sumQ (ds.take i)) ≤ 4000000000 := HSZ.out i
   clear fp fq
   have m1 : (i : Int) < (m : Int) := by omega
   have m3 : (i : Int).toNat = i := by omega
   have m4 : (0 : Int) ≤ (i : Int) := by omega
   obtain ⟨B1, b1, d1, B2, b2, d2, hk, hR⟩ := HA4.out
   have HR1 := Hd hR
   have HK := Hd hk
   obtain ⟨a0, a1, a2⟩ := hk.c3
   obtain ⟨f0, f1, f2⟩ := hk.f3
   have hlt3 := hk.lt
   clear hR hk
   go_wp2_with fail
   have HB0 := Hd (Below.refl wr.heap.size wr)
   refine wp_chain (S := Below wr.heap.size wr) 11 [([0, 1, 2, 3, 4, 5, 6, 7, 8], 9), ([], 10), ([], 11)] (by kernel_rfl) (by kernel_rfl) (by kernel_rfl) rfl (Below.drew (Below.refl _ _)) ?_
   refine ⟨?_, _, ?_, rfl, ?_⟩
   rotate_left
   ·repeat (refine ⟨_, ?_, rfl, Or.inl ⟨by rfl, ?_⟩, ?_⟩; rotate_left; focus (intro W hW; replace hW := (bcell hW).1; go_simp; try with_reducible rfl); (try simp only [SQ]))
    exact rfl
   go_wp2_with fail
   refine (times_calls _ _ _ p q (HE.out.of_below (Below.drew (Below.refl _ _))) (HE'.out.of_below (Below.drew (Below.refl _ _))) s1 s2).mono ?_
   rintro e w7 ⟨v, rfl, hv, hb⟩
   obtain ⟨A5, n5, c5, A6, n6, c6, rfl, HV5⟩ := hv.opened'
   have HB7 := Hd (below_next (Below.drew (Below.refl wr.heap.size wr)) hb)
   clear hv hb
   go_wp2_with fail
   refine And.intro HB7.out ⟨_, _, rfl, rfl, ?_⟩
   go_wp2_with fail
   refine (plus_calls _ _ _ _ _ (HR1.out.of_below HB7.out) HV5.out s4 s3).mono ?_
   rintro e w8 ⟨v, rfl, hv, hb⟩
   obtain ⟨A7, n7, c7, A8, n8, c8, rfl, HV6⟩ := hv.opened'
   have HB8 := Hd (below_next HB7.out hb)
   clear hv hb
   go_wp2_with fail
   refine And.intro HB8.out ⟨_, _, rfl, rfl, ?_⟩
   have HA5 := Hd (HA4.out.step HB8.out)
   obtain ⟨_, _, _, _, _, _, hk5, _⟩ := HA5.out
   obtain ⟨y0, y1, y2⟩ := hk5.c3
   obtain ⟨f0, f1, f2⟩ := hk5.f3
   have HK5 := Hd hk5
   clear hk5
   go_wp2_with fail
   refine NoPanic.normal ?_
   go_wp2_with fail
   go_roundw
   case rel =>
    refine ⟨i + 1, by omega, by go_num, ?_, (HQ4.out.below EQ.stays HB8.out).put3 EQ.far HK5.out ni_acc hq3, (HP4.out.below EQ.stays HB8.out).put3 EQ.far HK5.out ni_acc hp3, (H7.out.step HB8.out).other3 hw3 (by simp; omega) _ _ _⟩
    rw [List.take_add_one, HE3.out]
    have e : sumQ (List.take i ds ++ (some (p * q)).toList) = sumQ (List.take i ds) + p * q := sumQ_snoc _ _
    rw [e]
    exact HA5.out.put HV6.out
   case measure => simp [intOf]; omega
  ·obtain rfl : i = m := by omega
   have hzl : ds.take i = ds := List.take_of_length_le (by rw [HDS.out, List.length_zipWith, List.length_map, List.length_map]; have := HM.out; omega)
   have hsz := HSZ.out i
   rw [hzl] at HA4 hsz
   obtain ⟨B1, k1', d1, B2, k2', d2, hk, hR⟩ := HA4.out
   have HR1 := Hd hR
   obtain ⟨a0, a1, a2⟩ := hk.c3
   clear hR hk hzl
   go_wp2_with fail
   refine (told_calls _ _ _ HR1.out hsz).mono ?_
   rintro e w2 ⟨v, rfl, hv, hb2⟩
   obtain ⟨A7, n7, c7, A8, n8, c8, rfl, HV⟩ := hv.opened
   have H8 := Hd (H7.out.step hb2)
   clear hv hb2
   obtain ⟨e0, e1, e2⟩ := (H8.out.blk 0 rfl).c3
   obtain ⟨f0, f1, f2⟩ := (H8.out.blk 0 rfl).f3
   go_wp2_with fail
   exact end40 Tryz.results56 rfl (H8.out.blk 0 rfl) HV.out (Nat.le_refl _) H8.out.2
structure RowF where
 a : List RawF
 s : Int
 b : RawF
structure ProgF where
 vars : Int
 free : List Bool
 goal : List RawF
 rows : List RowF
def I64 (n : Int) : Prop := -9223372036854775808 ≤ n ∧ n ≤ 9223372036854775807
def EB (w : World) (vs : Array Value) (b : Bool) : Prop := vs = #[.bool b]
abbrev BL (w : World) (v : Value) (bs : List Bool) : Prop := SL 1 EB w v bs
def ER (w : World) (vs : Array Value) (r : RowF) : Prop := ∃ v A1 n1 c1 A2 n2 c2, vs = #[v, .int .i64 r.s, .bool r.b.neg, .slice A1 n1 c1, .slice A2 n2 c2] ∧ I64 r.s ∧ FL w v r.a ∧ FR w (.agg #[.bool r.b.neg, .slice A1 n1 c1, .slice A2 n2 c2]) r.b
abbrev RL (w : World) (v : Value) (rs : List RowF) : Prop := SL 5 ER w v rs
def PR (w : World) (v : Value) (p : ProgF) : Prop := ∃ v1 v2 v3, v = .agg #[.int .i64 p.vars, v1, v2, v3] ∧ I64 p.vars ∧ BL w v1 p.free ∧ FL w v2 p.goal ∧ RL w v3 p.rows
theorem EB.stays : Stays EB := fun _ _ _ _ h _ => h
theorem ER.stays : Stays ER := fun _ _ _ _ h hb => by
 obtain ⟨v, A1, n1, c1, A2, n2, c2, e, hs, h1, h2⟩ := h
 exact ⟨v, A1, n1, c1, A2, n2, c2, e, hs, h1.below EF.stays hb, h2.of_below hb⟩
theorem PR.of_below {w w1 : World} {v : Value} {p : ProgF} (h : PR w v p) (hb : Below w.heap.size w w1) : PR w1 v p := by
 obtain ⟨v1, v2, v3, e, hv, h1, h2, h3⟩ := h
 exact ⟨v1, v2, v3, e, hv, h1.below EB.stays hb, h2.below EF.stays hb, h3.below ER.stays hb⟩
theorem PR.opened {w : World} {v : Value} {p : ProgF} (h : PR w v p) : ∃ A1 c1 A2 c2 A3 c3, v = .agg #[.int .i64 p.vars, .slice A1 p.free.length c1, .slice A2 p.goal.length c2, .slice A3 p.rows.length c3] ∧ Hid (I64 p.vars) ∧ Hid (BL w (.slice A1 p.free.length c1) p.free) ∧ Hid (FL w (.slice A2 p.goal.length c2) p.goal) ∧ Hid (RL w (.slice A3 p.rows.length c3) p.rows) := by
 obtain ⟨v1, v2, v3, rfl, hv, h1, h2, h3⟩ := h
 obtain ⟨A1, c1, rfl, _⟩ := h1.slice
 obtain ⟨A2, c2, rfl, _⟩ := h2.slice
 obtain ⟨A3, c3, rfl, _⟩ := h3.slice
 exact ⟨A1, c1, A2, c2, A3, c3, rfl, hv, h1, h2, h3⟩
theorem RL.at5 {w : World} {A : Option Addr} {n c : Nat} {rs : List RowF} (h : RL w (.slice A n c) rs) {j : Nat} {r : RowF} (hj : rs[j]? = some r) :
  ∃ g o A1 c1 A2 n2 c2 A3 n3 c3, A = some ⟨g, o, none⟩ ∧ g < w.heap.size ∧ w.cell? ⟨g, o + j * 5, none⟩ = some (.slice A1 r.a.length c1) ∧ w.cell? ⟨g, o + j * 5 + 1, none⟩ = some (.int .i64 r.s) ∧ w.cell? ⟨g, o + j * 5 + 2, none⟩ = some (.bool r.b.neg) ∧
   w.cell? ⟨g, o + j * 5 + 3, none⟩ = some (.slice A2 n2 c2) ∧ w.cell? ⟨g, o + j * 5 + 4, none⟩ = some (.slice A3 n3 c3) ∧ Hid (I64 r.s) ∧ Hid (FL w (.slice A1 r.a.length c1) r.a) ∧ Hid (FR w (.agg #[.bool r.b.neg, .slice A2 n2 c2, .slice A3 n3 c3]) r.b) := by
 obtain ⟨g, o, vs, hA, hg, hs, hc, v, A2, n2, c2, A3, n3, c3, rfl, hI, h1, h2⟩ := h.at_ hj
 obtain ⟨A1, c1, rfl, _⟩ := h1.slice
 exact ⟨g, o, A1, c1, A2, n2, c2, A3, n3, c3, hA, hg, hc 0 _ rfl, hc 1 _ rfl, hc 2 _ rfl, hc 3 _ rfl, hc 4 _ rfl, hI, h1, h2⟩
def rowBad (vars : Int) (r : RowF) : Bool := decide ((r.a.length : Int) ≠ vars) || decide (r.s < -1) || decide (r.s > 1)
def rightP (p : ProgF) : Int := if p.vars > 160 ∨ p.rows.length > 400 then 1 else if p.vars < 1 ∨ (p.free.length : Int) ≠ p.vars ∨ (p.goal.length : Int) ≠ p.vars then 20 else if p.rows.any (rowBad p.vars) then 20 else 0
theorem rightP_a {p : ProgF} (h : p.vars > 160 ∨ p.rows.length > 400) : rightP p = 1 := by unfold rightP; rw [if_pos h]
theorem rightP_b {p : ProgF} (h : ¬ (p.vars > 160 ∨ p.rows.length > 400)) (h2 : p.vars < 1 ∨ (p.free.length : Int) ≠ p.vars ∨ (p.goal.length : Int) ≠ p.vars) : rightP p = 20 := by unfold rightP; rw [if_neg h, if_pos h2]
theorem rightP_c {p : ProgF} (h : ¬ (p.vars > 160 ∨ p.rows.length > 400)) (h2 : ¬ (p.vars < 1 ∨ (p.free.length : Int) ≠ p.vars ∨ (p.goal.length : Int) ≠ p.vars)) {i : Nat} {r : RowF} (hr : p.rows[i]? = some r) (hb : rowBad p.vars r = true) : rightP p = 20 := by
 unfold rightP
 rw [if_neg h, if_neg h2, if_pos (List.any_eq_true.2 ⟨r, List.mem_of_getElem? hr, hb⟩)]
theorem rightP_d {p : ProgF} (h : ¬ (p.vars > 160 ∨ p.rows.length > 400)) (h2 : ¬ (p.vars < 1 ∨ (p.free.length : Int) ≠ p.vars ∨ (p.goal.length : Int) ≠ p.vars)) (ha : ∀ (j : Nat) (r : RowF), p.rows[j]? = some r → rowBad p.vars r = false) : rightP p = 0 := by
 unfold rightP
 rw [if_neg h, if_neg h2, if_neg]
 rw [List.any_eq_true]
 rintro ⟨r, hr, hb⟩
 obtain ⟨j, hj⟩ := List.getElem?_of_mem hr
 rw [ha j r hj] at hb
 cases hb
theorem bneI {a b : Int} (h : a ≠ b) : (a != b) = true := by simpa using h
theorem beqI {a b : Int} (h : a = b) : (a != b) = false := by simpa using h
set_option maxHeartbeats 16000000 in
set_option maxRecDepth 100000 in
theorem pright_calls (w : World) (v : Value) (p : ProgF) (h : PR w v p) : Calls Tryz.prog 25 #[v] w fun e w' => IPost w (rightP p) e w' := by
 obtain ⟨A1, c1, A2, c2, A3, c3, rfl, HI, H1, H2, H3⟩ := h.opened
 clear h
 obtain ⟨vars, hv⟩ : ∃ n, n = p.vars := ⟨_, rfl⟩
 rw [← hv]
 have HV := Hd hv
 clear hv
 go_enter Tryz.func25, Tryz.ntmps25
 by_cases a1 : vars > 160
 ·have t1 : decide (vars > 160) = true := decide_eq_true a1
  have HR := Hd (rightP_a (p := p) (.inl (HV.out ▸ a1)))
  clear a1
  go_wp2_with fail
  go_ret
  exact ⟨by rw [HR.out]; rfl, below_new w _⟩
 have t1 : decide (vars > 160) = false := decide_eq_false a1
 by_cases a2 : p.rows.length > 400
 ·have t2 : decide ((p.rows.length : Int) > 400) = true := decide_eq_true (by omega)
  have HR := Hd (rightP_a (p := p) (.inr a2))
  clear a1 a2
  go_wp2_with fail
  go_ret
  exact ⟨by rw [HR.out]; rfl, below_new w _⟩
 have t2 : decide ((p.rows.length : Int) > 400) = false := decide_eq_false (by omega)
 have N1 : Hid (¬ (p.vars > 160 ∨ p.rows.length > 400)) := by unfold Hid; rw [← HV.out]; omega
 by_cases b1 : vars < 1
 ·have t3 : decide (vars < 1) = true := decide_eq_true b1
  have HR := Hd (rightP_b N1.out (.inl (HV.out ▸ b1)))
  clear a1 a2 b1
  go_wp2_with fail
  go_ret
  exact ⟨by rw [HR.out]; rfl, below_new w _⟩
 have t3 : decide (vars < 1) = false := decide_eq_false b1
 by_cases b2 : (p.free.length : Int) = vars
 case neg =>
  have t4 : ((p.free.length : Int) != vars) = true := bneI b2
  have HR := Hd (rightP_b N1.out (.inr (.inl (HV.out ▸ b2))))
  clear a1 a2 b1 b2
  go_wp2_with fail
  go_ret
  exact ⟨by rw [HR.out]; rfl, below_new w _⟩
 have t4 : ((p.free.length : Int) != vars) = false := beqI b2
 by_cases b3 : (p.goal.length : Int) = vars
 case neg =>
  have t5 : ((p.goal.length : Int) != vars) = true := bneI b3
  have HR := Hd (rightP_b N1.out (.inr (.inr (HV.out ▸ b3))))
  clear a1 a2 b1 b2 b3
  go_wp2_with fail
  go_ret
  exact ⟨by rw [HR.out]; rfl, below_new w _⟩
 have t5 : ((p.goal.length : Int) != vars) = false := beqI b3
 have N2 : Hid (¬ (p.vars < 1 ∨ (p.free.length : Int) ≠ p.vars ∨ (p.goal.length : Int) ≠ p.vars)) := by unfold Hid; rw [← HV.out]; omega
 clear a1 b1 b2 b3
 go_wp2_with fail
 have hb0 := below_new w (.cells #[.int .i64 vars, .slice A1 p.free.length c1, .slice A2 p.goal.length c2, .slice A3 p.rows.length c3] 26)
 have hk0 := Blk.new w 26 #[.int .i64 vars, .slice A1 p.free.length c1, .slice A2 p.goal.length c2, .slice A3 p.rows.length c3]
 generalize w.alloc (.cells #[.int .i64 vars, .slice A1 p.free.length c1, .slice A2 p.goal.length c2, .slice A3 p.rows.length c3] 26) = W0 at *
 go_loopw [36] (fun vi wr => ∃ i : Nat, i ≤ p.rows.length ∧ vi = .int .i64 (i : Int) ∧ (∀ j r, j < i → p.rows[j]? = some r → rowBad p.vars r = false) ∧ Blk wr w.heap.size 26 #[.int .i64 vars, .slice A1 p.free.length c1, .slice A2 p.goal.length c2, .slice A3 p.rows.length c3] ∧ Below w.heap.size w wr) (fun vi _ => p.rows.length - (intOf vi).toNat)
 case atStart => exact ⟨0, Nat.zero_le _, rfl, fun j r h => absurd h (Nat.not_lt_zero _), hk0, hb0⟩
 case round =>
  obtain ⟨i, hi, rfl, hall, hk, hb⟩ := hrel
  have HA := Hd hall
  have HK := Hd hk
  have HB := Hd hb
  clear hall hb hk hk0 hb0
  by_cases hlt : i < p.rows.length
  ·obtain ⟨r, hr⟩ : ∃ r, p.rows[i]? = some r := ⟨p.rows[i], List.getElem?_eq_getElem hlt⟩
   obtain ⟨g, o, B1, d1, B2, n2, d2, B3, n3, d3, rfl, hg, k0, k1, k2, k3, k4, _, _, _⟩ := RL.at5 (H3.out.below ER.stays HB.out) hr
   have HRR := Hd hr
   clear hr
   have m1 : (i : Int) < (p.rows.length : Int) := by omega
   have m3 : (i : Int).toNat = i := by omega
   have m4 : (0 : Int) ≤ (i : Int) := by omega
   have x0 := HK.out.cell (j := 0) rfl
   have hz := HK.out.lt
   by_cases q1 : (r.a.length : Int) = vars
   case neg =>
    have u1 : ((r.a.length : Int) != vars) = true := bneI q1
    have HR := Hd (rightP_c N1.out N2.out HRR.out (by unfold rowBad; rw [← HV.out, decide_eq_true q1]; rfl))
    clear q1
    go_wp2_with fail
    go_ret
    exact ⟨by rw [HR.out]; rfl, below_next HB.out (below_new _ _)⟩
   have u1 : ((r.a.length : Int) != vars) = false := beqI q1
   by_cases q2 : r.s < -1
   ·have u2 : decide (r.s < -1) = true := decide_eq_true q2
    have HR := Hd (rightP_c N1.out N2.out HRR.out (by unfold rowBad; rw [decide_eq_true q2]; simp))
    clear q1 q2
    go_wp2_with fail
    go_ret
    exact ⟨by rw [HR.out]; rfl, below_next HB.out (below_new _ _)⟩
   have u2 : decide (r.s < -1) = false := decide_eq_false q2
   by_cases q3 : r.s > 1
   ·have u3 : decide (r.s > 1) = true := decide_eq_true q3
    have HR := Hd (rightP_c N1.out N2.out HRR.out (by unfold rowBad; rw [decide_eq_true q3]; simp))
    clear q1 q2 q3
    go_wp2_with fail
    go_ret
    exact ⟨by rw [HR.out]; rfl, below_next HB.out (below_new _ _)⟩
   have u3 : decide (r.s > 1) = false := decide_eq_false q3
   have HGood : Hid (rowBad p.vars r = false) := by unfold Hid rowBad; rw [← HV.out, decide_eq_false q2, decide_eq_false q3, decide_eq_false (by simpa using q1)]; rfl
   clear q1 q2 q3
   go_wp2_with fail
   go_roundw
   case rel =>
    refine ⟨i + 1, by omega, by go_num, fun j r' hj hr' => ?_, HK.out.alloc _, below_next HB.out (below_new _ _)⟩
    by_cases hji : j = i
    ·rw [hji, HRR.out] at hr'
     injection hr' with e
     subst e
     exact HGood.out
    ·exact HA.out j r' (by omega) hr'
   case measure => simp [intOf]; omega
  ·obtain rfl : i = p.rows.length := by omega
   have HR := Hd (rightP_d N1.out N2.out fun j r hr => HA.out j r (List.getElem?_eq_some_iff.1 hr).1 hr)
   go_wp2_with fail
   go_ret
   exact ⟨by rw [HR.out]; rfl, HB.out⟩
theorem HS.c4 {w W : World} {bs : List (Nat × Nat × Array Value)} {g t : Nat} {a b c d : Value} (h : HS w bs W) (i : Nat) (hi : bs[i]? = some (g, t, #[a, b, c, d])) : W.cell? ⟨g, 0, none⟩ = some a ∧ W.cell? ⟨g, 1, none⟩ = some b ∧ W.cell? ⟨g, 2, none⟩ = some c ∧ W.cell? ⟨g, 3, none⟩ = some d :=
 ⟨(h.blk i hi).cell rfl, (h.blk i hi).cell rfl, (h.blk i hi).cell rfl, (h.blk i hi).cell rfl⟩
noncomputable def valueP (p : ProgF) (x : List RawF) : Rat := if rightP p ≠ 0 ∨ (x.length : Int) ≠ p.vars then 0 else capQ (dotQ (p.goal.map fixQ) (x.map fixQ))
theorem capQ_zero : capQ 0 = 0 := by unfold capQ; split <;> rfl
theorem FL.nil (w : World) : FL w (.slice none 0 0) [] := ⟨none, 0, rfl, Nat.le_refl _, fun h => absurd h (by simp)⟩
theorem rightP_len {p : ProgF} (h : rightP p = 0) : (p.free.length : Int) = p.vars ∧ (p.goal.length : Int) = p.vars ∧ 1 ≤ p.vars ∧ p.vars ≤ 160 ∧ p.rows.length ≤ 400 ∧ ∀ (r : RowF), r ∈ p.rows → (r.a.length : Int) = p.vars ∧ -1 ≤ r.s ∧ r.s ≤ 1 := by
 unfold rightP at h
 split at h
 ·omega
 ·split at h
  ·omega
  ·split at h
   ·omega
   ·rename_i h1 h2 h3
    refine ⟨by omega, by omega, by omega, by omega, by omega, fun r hr => ?_⟩
    have hb : rowBad p.vars r = false := by
     cases e : rowBad p.vars r with
     | false => rfl
     | true => exact absurd (List.any_eq_true.2 ⟨r, hr, e⟩) h3
    unfold rowBad at hb
    simp only [Bool.or_eq_false_iff, decide_eq_false_iff_not] at hb
    exact ⟨by omega, by omega, by omega⟩
set_option maxHeartbeats 16000000 in
set_option maxRecDepth 100000 in
theorem value_calls (w : World) (v v2 : Value) (p : ProgF) (x : List RawF) (h : PR w v p) (h2 : FL w v2 x) : Calls Tryz.prog 27 #[v, v2] w fun e w' => FPost w (valueP p x) e w' := by
 have HP := Hd h
 obtain ⟨A1, c1, A2, c2, A3, c3, rfl, HI, H1, H2, H3⟩ := h.opened
 obtain ⟨A4, c4, rfl, hc4⟩ := h2.slice
 have HX := Hd h2
 clear h h2
 obtain ⟨vars, hv⟩ : ∃ n, n = p.vars := ⟨_, rfl⟩
 rw [← hv] at HP ⊢
 have HV := Hd hv
 clear hv
 go_enter Tryz.func27, Tryz.ntmps27
 go_wp2_with fail
 have H0 := Hd (HS.two (w := w) #[.int .i64 vars, .slice A1 p.free.length c1, .slice A2 p.goal.length c2, .slice A3 p.rows.length c3] #[.bool false, .slice none 0 0, .slice none 0 0] 26 46)
 generalize (w.alloc (.cells #[.int .i64 vars, .slice A1 p.free.length c1, .slice A2 p.goal.length c2, .slice A3 p.rows.length c3] 26)).alloc (.cells #[.bool false, .slice none 0 0, .slice none 0 0] 46) = W0 at *
 refine (pright_calls _ _ p (HP.out.of_below H0.out.2)).mono ?_
 rintro e w1 ⟨rfl, hb⟩
 have H1' := Hd (H0.out.step hb)
 obtain ⟨x0, x1, x2, x3⟩ := H1'.out.c4 1 rfl
 clear hb
 by_cases q1 : rightP p = 0
 case neg =>
  have u1 : (rightP p != 0) = true := bneI q1
  have HE := Hd (show valueP p x = 0 from if_pos (.inl q1))
  clear q1
  go_wp2_with fail
  refine (fsum_calls w1 _ [] (FL.nil _) (by simp)).mono ?_
  rintro e w2 ⟨v, rfl, hv, hb⟩
  obtain ⟨A5, n5, c5, A6, n6, c6, rfl, HV2⟩ := hv.opened
  have H2' := Hd (H1'.out.step hb)
  clear hb hv
  obtain ⟨e0, e1, e2⟩ := (H2'.out.blk 0 rfl).c3
  obtain ⟨f0, f1, f2⟩ := (H2'.out.blk 0 rfl).f3
  go_wp2_with fail
  rw [HE.out]
  exact end40 Tryz.results27 rfl (H2'.out.blk 0 rfl) HV2.out (by omega) H2'.out.2
 have u1 : (rightP p != 0) = false := beqI q1
 by_cases q2 : (x.length : Int) = vars
 case neg =>
  have u2 : ((x.length : Int) != vars) = true := bneI q2
  have HE := Hd (show valueP p x = 0 from if_pos (.inr (by rw [← HV.out]; exact q2)))
  clear q1 q2
  go_wp2_with fail
  refine (fsum_calls w1 _ [] (FL.nil _) (by simp)).mono ?_
  rintro e w2 ⟨v, rfl, hv, hb⟩
  obtain ⟨A5, n5, c5, A6, n6, c6, rfl, HV2⟩ := hv.opened
  have H2' := Hd (H1'.out.step hb)
  clear hb hv
  obtain ⟨e0, e1, e2⟩ := (H2'.out.blk 0 rfl).c3
  obtain ⟨f0, f1, f2⟩ := (H2'.out.blk 0 rfl).f3
  go_wp2_with fail
  rw [HE.out]
  exact end40 Tryz.results27 rfl (H2'.out.blk 0 rfl) HV2.out (by omega) H2'.out.2
 have u2 : ((x.length : Int) != vars) = false := beqI q2
 have HE := Hd (show valueP p x = capQ (dotQ (p.goal.map fixQ) (x.map fixQ)) from if_neg (by rw [← HV.out]; omega))
 have hrl := rightP_len q1
 have hgl : p.goal.length ≤ 100000 := by omega
 have hxl : x.length ≤ 100000 := by have := HV.out; omega
 clear q1 q2 hrl
 go_wp2_with fail
 refine (fdot_calls w1 _ _ p.goal x (H2.out.below EF.stays H1'.out.2) (HX.out.below EF.stays H1'.out.2) hgl hxl).mono ?_
 rintro e w2 ⟨v, rfl, hv, hb⟩
 obtain ⟨A5, n5, c5, A6, n6, c6, rfl, HV2⟩ := hv.opened
 have H2' := Hd (H1'.out.step hb)
 clear hb hv
 obtain ⟨e0, e1, e2⟩ := (H2'.out.blk 0 rfl).c3
 obtain ⟨f0, f1, f2⟩ := (H2'.out.blk 0 rfl).f3
 go_wp2_with fail
 rw [HE.out]
 exact end40 Tryz.results27 rfl (H2'.out.blk 0 rfl) HV2.out (by omega) H2'.out.2
def holdsB (s : Int) (a b : Rat) : Bool := decide (ordQ a b = 0) || (decide (s ≠ 0) && decide (ordQ a b = s))
set_option maxHeartbeats 16000000 in
set_option maxRecDepth 100000 in
theorem holds_calls (w : World) (s : Int) (v v2 : Value) (f g : RawF) (h : FR w v f) (h2 : FR w v2 g) : Calls Tryz.prog 86 #[.int .i64 s, v, v2] w fun e w' => BPost w (holdsB s (fixQ f) (fixQ g)) e w' := by
 obtain ⟨A1, n1, c1, A2, n2, c2, rfl, H⟩ := h.opened
 obtain ⟨A3, n3, c3, A4, n4, c4, rfl, G⟩ := h2.opened
 clear h h2
 go_enter Tryz.func86, Tryz.ntmps86
 go_wp2_with fail
 have H0 := Hd (HS.two (w := w) #[.bool f.neg, .slice A1 n1 c1, .slice A2 n2 c2] #[.bool g.neg, .slice A3 n3 c3, .slice A4 n4 c4] 46 46)
 generalize (w.alloc (.cells #[.bool f.neg, .slice A1 n1 c1, .slice A2 n2 c2] 46)).alloc (.cells #[.bool g.neg, .slice A3 n3 c3, .slice A4 n4 c4] 46) = W0 at *
 refine (fcmp_calls W0 _ _ f g (H.out.of_below H0.out.2) (G.out.of_below H0.out.2)).mono ?_
 rintro e w1 ⟨rfl, hb⟩
 have H1 := Hd (H0.out.step hb)
 clear hb
 obtain ⟨c, hc⟩ : ∃ c, c = ordQ (fixQ f) (fixQ g) := ⟨_, rfl⟩
 have HE : Hid (holdsB s (fixQ f) (fixQ g) = (decide (c = 0) || (decide (s ≠ 0) && decide (c = s)))) := by unfold Hid holdsB; rw [hc]
 rw [← hc]
 clear hc
 by_cases q1 : c = 0
 ·have u1 : (c == 0) = true := by simpa using q1
  have HE2 : Hid (holdsB s (fixQ f) (fixQ g) = true) := by unfold Hid; rw [HE.out, decide_eq_true q1]; rfl
  clear q1
  go_wp2_with fail
  go_ret
  exact ⟨by rw [HE2.out]; rfl, H1.out.2⟩
 have u1 : (c == 0) = false := by simpa using q1
 by_cases q2 : s = 0
 ·have u2 : (s != 0) = false := beqI q2
  have HE2 : Hid (holdsB s (fixQ f) (fixQ g) = false) := by unfold Hid; rw [HE.out, decide_eq_false q1, decide_eq_false (by simpa using q2)]; rfl
  clear q1 q2
  go_wp2_with fail
  go_ret
  exact ⟨by rw [HE2.out]; rfl, H1.out.2⟩
 have u2 : (s != 0) = true := bneI q2
 by_cases q3 : c = s
 ·have u3 : (c == s) = true := by simpa using q3
  have HE2 : Hid (holdsB s (fixQ f) (fixQ g) = true) := by unfold Hid; rw [HE.out, decide_eq_true q2, decide_eq_true q3]; simp
  clear q1 q2 q3
  go_wp2_with fail
  go_ret
  exact ⟨by rw [HE2.out]; rfl, H1.out.2⟩
 ·have u3 : (c == s) = false := by simpa using q3
  have HE2 : Hid (holdsB s (fixQ f) (fixQ g) = false) := by unfold Hid; rw [HE.out, decide_eq_false q1, decide_eq_false q3]; simp
  clear q1 q2 q3
  go_wp2_with fail
  go_ret
  exact ⟨by rw [HE2.out]; rfl, H1.out.2⟩
theorem BL.at1 {w : World} {A : Option Addr} {n c : Nat} {bs : List Bool} (h : BL w (.slice A n c) bs) {j : Nat} {b : Bool} (hj : bs[j]? = some b) : ∃ g o, A = some ⟨g, o, none⟩ ∧ g < w.heap.size ∧ w.cell? ⟨g, o + j, none⟩ = some (.bool b) := by
 obtain ⟨g, o, vs, hA, hg, hs, hc, he⟩ := h.at_ hj
 subst he
 have := hc 0 _ rfl
 rw [Nat.mul_one] at this
 exact ⟨g, o, hA, hg, this⟩
def signedB (free : List Bool) (x : List Rat) : Bool := (free.zip x).all fun bq => bq.1 || !decide (signQ bq.2 < 0)
theorem signedB_false {free : List Bool} {x : List Rat} {i : Nat} {b : Bool} {q : Rat} (h1 : free[i]? = some b) (h2 : x[i]? = some q) (h : (b || !decide (signQ q < 0)) = false) : signedB free x = false := by
 unfold signedB
 rw [Bool.eq_false_iff, ne_eq, List.all_eq_true]
 intro h0
 have := h0 (b, q) (List.mem_of_getElem? (i := i) (by rw [List.getElem?_zip_eq_some]; exact ⟨h1, h2⟩))
 rw [h] at this
 cases this
theorem signedB_true {free : List Bool} {x : List Rat} (h : ∀ (i : Nat) (b : Bool) (q : Rat), free[i]? = some b → x[i]? = some q → (b || !decide (signQ q < 0)) = true) : signedB free x = true := by
 unfold signedB
 rw [List.all_eq_true]
 rintro ⟨b, q⟩ hm
 obtain ⟨i, hi⟩ := List.getElem?_of_mem hm
 rw [List.getElem?_zip_eq_some] at hi
 exact h i b q hi.1 hi.2
set_option maxHeartbeats 16000000 in
set_option maxRecDepth 100000 in
theorem signed_calls (w : World) (v v2 : Value) (p : ProgF) (x : List RawF) (h : PR w v p) (h2 : FL w v2 x) (hl : x.length = p.free.length) (hs : x.length ≤ 100000) : Calls Tryz.prog 85 #[v, v2] w fun e w' => BPost w (signedB p.free (x.map fixQ)) e w' := by
 obtain ⟨A1, c1, A2, c2, A3, c3, rfl, HI, H1, H2, H3⟩ := h.opened
 obtain ⟨A4, c4, rfl, hc4⟩ := h2.slice
 have HX := Hd h2
 clear h h2
 obtain ⟨vars, hv⟩ : ∃ n, n = p.vars := ⟨_, rfl⟩
 rw [← hv]
 clear hv
 go_enter Tryz.func85, Tryz.ntmps85
 go_wp2_with fail
 have h0 := HS.one (w := w) #[.int .i64 vars, .slice A1 p.free.length c1, .slice A2 p.goal.length c2, .slice A3 p.rows.length c3] 26
 generalize w.alloc (.cells #[.int .i64 vars, .slice A1 p.free.length c1, .slice A2 p.goal.length c2, .slice A3 p.rows.length c3] 26) = W0 at *
 go_loopw [9] (fun vi wr => ∃ i : Nat, i ≤ x.length ∧ vi = .int .i64 (i : Int) ∧ (∀ (j : Nat) (b : Bool) (q : Rat), j < i → p.free[j]? = some b → (x.map fixQ)[j]? = some q → (b || !decide (signQ q < 0)) = true) ∧ HS w [(w.heap.size, 26, #[.int .i64 vars, .slice A1 p.free.length c1, .slice A2 p.goal.length c2, .slice A3 p.rows.length c3])] wr) (fun vi _ => x.length - (intOf vi).toNat)
 case atStart => exact ⟨0, Nat.zero_le _, rfl, fun j _ _ h => absurd h (Nat.not_lt_zero _), h0⟩
 case round =>
  obtain ⟨i, hi, rfl, hall, hk⟩ := hrel
  have HA := Hd hall
  have HK := Hd hk
  clear hall hk h0
  by_cases hlt : i < x.length
  ·obtain ⟨f, hf⟩ : ∃ f, x[i]? = some f := ⟨x[i], List.getElem?_eq_getElem hlt⟩
   obtain ⟨b, hbf⟩ : ∃ b, p.free[i]? = some b := ⟨p.free[i], List.getElem?_eq_getElem (by omega)⟩
   obtain ⟨g, o, B1, n1, d1, B2, n2, d2, rfl, hg, k0, k1, k2, HE⟩ := FL.at3 (HX.out.below EF.stays HK.out.2) hf
   obtain ⟨g2, o2, rfl, hg2, kb⟩ := BL.at1 (H1.out.below EB.stays HK.out.2) hbf
   have HXI : Hid ((x.map fixQ)[i]? = some (fixQ f)) := by unfold Hid; rw [List.getElem?_map, hf]; rfl
   have HFI := Hd hbf
   clear hf hbf
   have m1 : (i : Int) < (x.length : Int) := by omega
   have m2 : (i : Int) < (p.free.length : Int) := by omega
   have m3 : (i : Int).toNat = i := by omega
   have m4 : (0 : Int) ≤ (i : Int) := by omega
   obtain ⟨x0, x1, x2, x3⟩ := HK.out.c4 0 rfl
   have hz := (HK.out.blk 0 rfl).lt
   have hl2 := Hd hl
   clear hl
   have fin : ∀ wz, Below wr.heap.size wr wz → (b || !decide (signQ (fixQ f) < 0)) = true → (∃ i', i' ≤ x.length ∧ Value.int .i64 ((i : Int) + 1) = .int .i64 (i' : Int) ∧ (∀ (j : Nat) (b : Bool) (q : Rat), j < i' → p.free[j]? = some b → (x.map fixQ)[j]? = some q → (b || !decide (signQ q < 0)) = true) ∧ HS w [(w.heap.size, 26, #[.int .i64 vars, .slice (some ⟨g2, o2, none⟩) p.free.length c1, .slice A2 p.goal.length c2, .slice A3 p.rows.length c3])] wz) := fun wz hbz hgood => by
    refine ⟨i + 1, by omega, by go_num, fun j b' q' hj hb' hq' => ?_, HK.out.step hbz⟩
    by_cases hji : j = i
    ·subst hji
     rw [HFI.out] at hb'
     rw [HXI.out] at hq'
     injection hb' with e1
     injection hq' with e2
     rw [← e1, ← e2]
     exact hgood
    ·exact HA.out j b' q' (by omega) hb' hq'
   have HFin := Hd fin
   clear fin
   cases b with
   | true =>
    go_wp2_with fail
    go_roundw
    case rel => exact HFin.out _ (below_new _ _) rfl
    case measure => simp [intOf]; omega
   | false =>
    go_wp2_with fail
    have hb1 := below_new wr (.cells #[.bool f.neg, .slice B1 n1 d1, .slice B2 n2 d2] 46)
    refine (sgn_calls _ _ f (HE.out.of_below hb1)).mono ?_
    rintro e w2 ⟨rfl, hb2⟩
    have HB := Hd (below_next hb1 hb2)
    clear hb1 hb2
    by_cases q1 : signQ (fixQ f) < 0
    ·have u1 : decide (signQ (fixQ f) < 0) = true := decide_eq_true q1
     have HE2 := Hd (signedB_false HFI.out HXI.out (by rw [decide_eq_true q1]; rfl))
     clear q1
     go_wp2_with fail
     go_ret
     exact ⟨by rw [HE2.out]; rfl, (HK.out.step HB.out).2⟩
    ·have u1 : decide (signQ (fixQ f) < 0) = false := decide_eq_false q1
     have HG : Hid ((false || !decide (signQ (fixQ f) < 0)) = true) := by unfold Hid; rw [decide_eq_false q1]; rfl
     clear q1
     go_wp2_with fail
     go_roundw
     case rel => exact HFin.out _ HB.out HG.out
     case measure => simp [intOf]; omega
  ·obtain rfl : i = x.length := by omega
   have HE2 := Hd (signedB_true (free := p.free) (x := x.map fixQ) fun j b q h1 h2 => HA.out j b q (by have := (List.getElem?_eq_some_iff.1 h2).1; simpa using this) h1 h2)
   go_wp2_with fail
   go_ret
   exact ⟨by rw [HE2.out]; rfl, HK.out.2⟩
noncomputable def rowHolds (x : List Rat) (r : RowF) : Bool := holdsB r.s (capQ (dotQ (r.a.map fixQ) x)) (fixQ r.b)
noncomputable def fitsB (p : ProgF) (x : List RawF) : Bool := decide ((x.length : Int) = p.vars) && signedB p.free (x.map fixQ) && p.rows.all (rowHolds (x.map fixQ))
theorem fix_cap (q : Rat) : fixQ (rawQ (capQ q)) = capQ q := fixQ_raw _ (capQ_size q)
theorem all_false {α : Type} {l : List α} {f : α → Bool} {i : Nat} {a : α} (h : l[i]? = some a) (hf : f a = false) : l.all f = false := by
 rw [Bool.eq_false_iff, ne_eq, List.all_eq_true]
 intro h0
 rw [h0 a (List.mem_of_getElem? h)] at hf
 cases hf
theorem all_true {α : Type} {l : List α} {f : α → Bool} (h : ∀ (i : Nat) (a : α), l[i]? = some a → f a = true) : l.all f = true := by
 rw [List.all_eq_true]
 intro a hm
 obtain ⟨i, hi⟩ := List.getElem?_of_mem hm
 exact h i a hi
set_option maxHeartbeats 16000000 in
set_option maxRecDepth 100000 in
theorem fits_calls (w : World) (v v2 : Value) (p : ProgF) (x : List RawF) (h : PR w v p) (h2 : FL w v2 x) (hr : rightP p = 0) : Calls Tryz.prog 42 #[v, v2] w fun e w' => BPost w (fitsB p x) e w' := by
 have hrl := rightP_len hr
 clear hr
 have HP := Hd h
 obtain ⟨A1, c1, A2, c2, A3, c3, rfl, HI, H1, H2, H3⟩ := h.opened
 obtain ⟨A4, c4, rfl, hc4⟩ := h2.slice
 have HX := Hd h2
 clear h h2
 obtain ⟨vars, hv⟩ : ∃ n, n = p.vars := ⟨_, rfl⟩
 rw [← hv] at HP ⊢
 have HV := Hd hv
 have hfl : (p.free.length : Int) = vars := by rw [hv]; exact hrl.1
 have hvl : vars ≤ 160 := by rw [hv]; exact hrl.2.2.2.1
 have hrw : p.rows.length ≤ 400 := hrl.2.2.2.2.1
 have HROW : Hid (∀ (r : RowF), r ∈ p.rows → (r.a.length : Int) = vars) := by unfold Hid; rw [hv]; exact fun r hm => (hrl.2.2.2.2.2 r hm).1
 clear hv hrl
 go_enter Tryz.func42, Tryz.ntmps42
 by_cases q1 : (x.length : Int) = vars
 case neg =>
  have u1 : ((x.length : Int) != vars) = true := bneI q1
  have HE : Hid (fitsB p x = false) := by unfold Hid fitsB; rw [decide_eq_false (by rw [← HV.out]; exact q1)]; rfl
  clear q1 hfl
  go_wp2_with fail
  go_ret
  exact ⟨by rw [HE.out]; rfl, below_new w _⟩
 have u1 : ((x.length : Int) != vars) = false := beqI q1
 have hxl : x.length ≤ 100000 := by omega
 have hxf : x.length = p.free.length := by omega
 have HXV := Hd q1
 have HXF := Hd hxf
 clear q1 hfl hxf
 go_wp2_with fail
 have H0 := Hd (HS.one (w := w) #[.int .i64 vars, .slice A1 p.free.length c1, .slice A2 p.goal.length c2, .slice A3 p.rows.length c3] 26)
 generalize w.alloc (.cells #[.int .i64 vars, .slice A1 p.free.length c1, .slice A2 p.goal.length c2, .slice A3 p.rows.length c3] 26) = W0 at *
 refine (signed_calls W0 _ _ p x (HP.out.of_below H0.out.2) (HX.out.below EF.stays H0.out.2) HXF.out hxl).mono ?_
 rintro e w1 ⟨rfl, hb⟩
 have h1' := H0.out.step hb
 have H1' := Hd h1'
 obtain ⟨x0, x1, x2, x3⟩ := H1'.out.c4 0 rfl
 clear hb h1'
 cases hsg : signedB p.free (x.map fixQ) with
 | false =>
  have HE : Hid (fitsB p x = false) := by unfold Hid fitsB; rw [hsg]; simp
  clear hsg
  go_wp2_with fail
  go_ret
  exact ⟨by rw [HE.out]; rfl, H1'.out.2⟩
 | true =>
  have HE : Hid (fitsB p x = p.rows.all (rowHolds (x.map fixQ))) := by unfold Hid fitsB; rw [hsg, decide_eq_true (by rw [← HV.out]; exact HXV.out)]; simp
  clear hsg
  go_wp2_with fail
  clear x0 x1 x2 x3
  go_loopw [21] (fun vi wr => ∃ i : Nat, i ≤ p.rows.length ∧ vi = .int .i64 (i : Int) ∧ (∀ (j : Nat) (r : RowF), j < i → p.rows[j]? = some r → rowHolds (x.map fixQ) r = true) ∧ HS w [(w.heap.size, 26, #[.int .i64 vars, .slice A1 p.free.length c1, .slice A2 p.goal.length c2, .slice A3 p.rows.length c3])] wr) (fun vi _ => p.rows.length - (intOf vi).toNat)
  case atStart => exact ⟨0, Nat.zero_le _, rfl, fun j _ h => absurd h (Nat.not_lt_zero _), H1'.out⟩
  case round =>
   obtain ⟨i, hi, rfl, hall, hk⟩ := hrel
   have HA := Hd hall
   have HK := Hd hk
   clear hall hk
   by_cases hlt : i < p.rows.length
   ·obtain ⟨r, hr⟩ : ∃ r, p.rows[i]? = some r := ⟨p.rows[i], List.getElem?_eq_getElem hlt⟩
    obtain ⟨g, o, B1, d1, B2, n2, d2, B3, n3, d3, rfl, hg, k0, k1, k2, k3, k4, HI', HA', HB'⟩ := RL.at5 (H3.out.below ER.stays HK.out.2) hr
    have hrl : r.a.length ≤ 100000 := by have := HROW.out r (List.mem_of_getElem? hr); omega
    have HRR := Hd hr
    clear hr
    have m1 : (i : Int) < (p.rows.length : Int) := by omega
    have m3 : (i : Int).toNat = i := by omega
    have m4 : (0 : Int) ≤ (i : Int) := by omega
    obtain ⟨s, hs⟩ : ∃ s, s = r.s := ⟨_, rfl⟩
    rw [← hs] at k1
    have HSE := Hd hs
    clear hs
    go_wp2_with fail
    have hb1 := below_new wr (.cells #[.slice B1 r.a.length d1, .int .i64 s, .bool r.b.neg, .slice B2 n2 d2, .slice B3 n3 d3] 73)
    have hk1 := Blk.new wr 73 #[.slice B1 r.a.length d1, .int .i64 s, .bool r.b.neg, .slice B2 n2 d2, .slice B3 n3 d3]
    have HB1 := Hd hb1
    have z0 := hk1.cell (j := 0) rfl
    have z1 := hk1.cell (j := 1) rfl
    have z2 := hk1.cell (j := 2) rfl
    have z3 := hk1.cell (j := 3) rfl
    have z4 := hk1.cell (j := 4) rfl
    have hz := hk1.lt
    generalize wr.alloc (.cells #[.slice B1 r.a.length d1, .int .i64 s, .bool r.b.neg, .slice B2 n2 d2, .slice B3 n3 d3] 73) = W1 at *
    clear hk1 hb1
    refine wp_chainS (S := Below W1.heap.size W1) [([0, 1, 2, 3, 4, 6, 7], 5), ([], 8)] [9] (by kernel_rfl) (by kernel_rfl) (by kernel_rfl) rfl (Below.drew (Below.refl _ _)) ?_
    refine ⟨?_, _, ?_, rfl, ?_⟩
    rotate_left
    ·repeat (refine ⟨_, ?_, rfl, Or.inl ⟨by rfl, ?_⟩, ?_⟩; rotate_left; focus (intro W hW; replace hW := (bcell hW).1; go_simp; try with_reducible rfl); (try simp only [SQ]))
     exact rfl
    have hbd : Below W1.heap.size W1 W1.drew := Below.drew (Below.refl _ _)
    have hbx := below_next HB1.out hbd
    have HBX := Hd hbx
    go_wp2_with fail
    refine (fdot_calls _ _ _ r.a x (HA'.out.below EF.stays HBX.out) (HX.out.below EF.stays (HK.out.step HBX.out).2) hrl hxl).mono ?_
    rintro e w7 ⟨v, rfl, hv, hb⟩
    obtain ⟨A5, n5, c5, A6, n6, c6, rfl, HV5⟩ := hv.opened
    have HB7 := Hd (below_next hbd hb)
    have HB17 := Hd (below_next HB1.out HB7.out)
    clear hv hb hbd hbx
    go_wp2_with fail
    refine And.intro HB7.out ⟨_, _, rfl, rfl, ?_⟩
    go_wp2_with fail
    refine (holds_calls _ s _ _ _ r.b (FR.of_fq HV5.out (capQ_size _)) (HB'.out.of_below HB17.out)).mono ?_
    rintro e w8 ⟨rfl, hb⟩
    have HB8 := Hd (below_next HB7.out hb)
    have HB18 := Hd (below_next HB1.out HB8.out)
    have HH : Hid (holdsB s (fixQ (rawQ (capQ (dotQ (r.a.map fixQ) (x.map fixQ))))) (fixQ r.b) = rowHolds (x.map fixQ) r) := by unfold Hid rowHolds; rw [fix_cap, HSE.out]
    rw [HH.out]
    clear hb
    go_wp2_with fail
    refine And.intro HB8.out ⟨?_, ?_, ?_⟩
    rotate_left
    ·repeat (refine ⟨_, ?_, rfl, Or.inl ⟨by rfl, ?_⟩, ?_⟩; rotate_left; focus (intro W hW; replace hW := (bcell hW).1; go_simp; try with_reducible rfl); (try simp only [SQ]))
     exact rfl
    refine NoPanic.normal ?_
    cases hb : rowHolds (x.map fixQ) r with
    | false =>
     have HE2 : Hid (fitsB p x = false) := by unfold Hid; rw [HE.out]; exact all_false HRR.out hb
     clear hb
     go_wp2_with fail
     go_ret
     exact ⟨by rw [HE2.out]; rfl, (HK.out.step HB18.out).2⟩
    | true =>
     have HG := Hd hb
     clear hb
     go_wp2_with fail
     go_roundw
     case rel =>
      refine ⟨i + 1, by omega, by go_num, fun j r' hj hr' => ?_, HK.out.step HB18.out⟩
      by_cases hji : j = i
      ·rw [hji, HRR.out] at hr'
       injection hr' with e
       rw [← e]
       exact HG.out
      ·exact HA.out j r' (by omega) hr'
     case measure => simp [intOf]; omega
   ·obtain rfl : i = p.rows.length := by omega
    have HE2 : Hid (fitsB p x = true) := by unfold Hid; rw [HE.out]; exact all_true fun j r hr => HA.out j r (List.getElem?_eq_some_iff.1 hr).1 hr
    go_wp2_with fail
    go_ret
    exact ⟨by rw [HE2.out]; rfl, HK.out.2⟩
noncomputable def fitsP (p : ProgF) (x : List RawF) : Bool := decide (rightP p = 0) && fitsB p x
theorem HS.grown {w W W' : World} {bs : List (Nat × Nat × Array Value)} {row : Option Nat} (h : HS w bs W) (hg : W.grownBy W' row) (hb : ∀ b ∈ bs, some b.1 ≠ row) (hr : ∀ g, row = some g → w.heap.size ≤ g) : HS w bs W' :=
 ⟨fun b hm => (hg.block b.1 (h.1 b hm).lt (hb b hm)).trans (h.1 b hm), ⟨hg.os.trans h.2.os, hg.tape.trans h.2.tape, hg.output.trans h.2.output, Nat.le_trans h.2.size hg.size, fun k hk => (hg.block k (Nat.lt_of_lt_of_le hk h.2.size) (fun e => by have := hr k e.symm; omega)).trans (h.2.block k hk)⟩⟩
theorem lit_cells {w : World} {g t : Nat} {cs : Array Value} (h : Blk w g t cs) : ∀ j u, cs.toList[j]? = some u → w.cell? ((⟨g, 0, none⟩ : Addr).add j) = some u := fun j u hu => by
 rw [add_zero']
 exact h.cell (by simpa using hu)
theorem Blk.newAt {w : World} {g t : Nat} {cs : Array Value} (h : w.heap.size = g) : Blk (w.alloc (.cells cs t)) g t cs := by rw [← h]; exact Blk.new w t cs
def zeroF : Value := .agg #[.bool false, .slice none 0 0, .slice none 0 0]
theorem info40z : (Tryz.prog.info? 46).map (fun i => (i.zero, i.size, i.bytes)) = some (some zeroF, 3, 56) := info40m
theorem zeroF_words : ∀ u ∈ zeroF.cells, notWord u = true := by simp [zeroF, Value.cells, notWord]
theorem frac_one {b : Bool} {A1 A2 : Option Addr} {n1 c1 n2 c2 : Nat} : ∀ u ∈ [Value.bool b, .slice A1 n1 c1, .slice A2 n2 c2], u.oneCell' = true := by
 intro u hu
 simp only [List.mem_cons, List.not_mem_nil, or_false] at hu
 rcases hu with rfl | rfl | rfl <;> rfl
theorem frac_word {b : Bool} {A1 A2 : Option Addr} {n1 c1 n2 c2 : Nat} : ∀ u ∈ [Value.bool b, .slice A1 n1 c1, .slice A2 n2 c2], notWord u = true := by
 intro u hu
 simp only [List.mem_cons, List.not_mem_nil, or_false] at hu
 rcases hu with rfl | rfl | rfl <;> rfl
theorem wpl_appendF {ops : Array Oper} {rest : List Oper} {o : Oper} {a : Act} {Q : Exit → Act → World → Prop} {W : World} (hgd : o.guard = none) (s x : Operand) (ho : o.op = .call { callee := .builtin .append, args := #[s, x], argTypes := #[23, 23] }) {base : Nat}
  (v : Value) (fs : List RawF) (hs : a.eval s = v) (hown : OL 3 46 EF base W v fs) {g : Nat} {b : Bool} {A1 A2 : Option Addr} {n1 c1 n2 c2 : Nat} (f : RawF) (hx : a.eval x = .slice (some ⟨g, 0, none⟩) 1 1) (hk : Blk W g 46 #[.bool b, .slice A1 n1 c1, .slice A2 n2 c2]) (hf : FR W (.agg #[.bool b, .slice A1 n1 c1, .slice A2 n2 c2]) f)
  (hl : fs.length ≤ 1000000000) (hbase : base ≤ W.heap.size)
  (h : ∀ v' w', OL 3 46 EF base w' v' (fs ++ [f]) → W.grownBy w' v.ownBlock → Keeps W w' → (∀ g, v'.ownBlock = some g → v.ownBlock = some g ∨ W.heap.size ≤ g) → wpList Tryz.prog ops Q rest (a.put o.dst v') w') : wpList Tryz.prog ops Q (o :: rest) a W := by
 obtain ⟨xs, h1, h2⟩ := hown
 refine wpl_appendR hgd s x 23 ho (base := base) zeroF 56 Tryz.underlying23 info40z rfl zeroF_words v fs.length xs hs h1 ⟨g, 0, none⟩ 1 1 [.bool b, .slice A1 n1 c1, .slice A2 n2 c2] hx rfl (lit_cells hk) frac_one frac_word (by decide) (by omega) (by omega) hbase fun v' w' h3 h4 h5 h6 => h v' w' ?_ h4 h5 h6
 refine OL.push EF.leans (k := 3) (e := 46) (vs := #[.bool b, .slice A1 n1 c1, .slice A2 n2 c2]) ⟨xs, h1, h2⟩ rfl hf h5 fun ys hys => ?_
 have hxy : ys.length = xs.length := by rw [hys.1, h1.1]
 obtain rfl : ys = xs := by
  rcases h1.2 with ⟨e, h0⟩ | ⟨g1, c1', cu1, e1, _, hb1, _, _, _, ht1, _⟩
  ·have l1 : xs = [] := List.eq_nil_of_length_eq_zero (by rw [h1.1, h0, Nat.zero_mul])
   rw [l1] at hxy ⊢
   exact List.eq_nil_of_length_eq_zero hxy
  ·rcases hys.2 with ⟨e, h0⟩ | ⟨g2, c2', cu2, e2, _, hb2, _, _, _, ht2, _⟩
   ·rw [e1] at e; cases e
   ·rw [e1] at e2
    injection e2 with e2 _ _
    injection e2 with e2
    injection e2 with e2
    subst e2
    have : cu1 = cu2 := by
     have h7 := hb1.symm.trans hb2
     injection h7 with h7
     injection h7
    rw [← ht1, ← ht2, this]
 exact h3
noncomputable def rightsQ (p : ProgF) (y : List RawF) : Rat := capQ (dotQ (y.map fixQ) (p.rows.map fun r => fixQ r.b))
set_option maxHeartbeats 16000000 in
set_option maxRecDepth 100000 in
theorem rights_calls (w : World) (v v2 : Value) (p : ProgF) (y : List RawF) (h : PR w v p) (h2 : FL w v2 y) (hr : p.rows.length ≤ 400) (hy : y.length ≤ 100000) : Calls Tryz.prog 55 #[v, v2] w fun e w' => FPost w (rightsQ p y) e w' := by
 obtain ⟨A1, c1, A2, c2, A3, c3, rfl, HI, H1, H2, H3⟩ := h.opened
 obtain ⟨A4, c4, rfl, hc4⟩ := h2.slice
 have HY := Hd h2
 clear h h2
 obtain ⟨vars, hv⟩ : ∃ n, n = p.vars := ⟨_, rfl⟩
 rw [← hv]
 clear hv
 obtain ⟨bs, hbs⟩ : ∃ bs, bs = p.rows.map (fun r => r.b) := ⟨_, rfl⟩
 have HBS := Hd hbs
 have hbl : bs.length = p.rows.length := by rw [hbs, List.length_map]
 have HBL := Hd hbl
 have HQ : Hid (rightsQ p y = capQ (dotQ (y.map fixQ) (bs.map fixQ))) := by unfold Hid rightsQ; rw [hbs, List.map_map]; rfl
 clear hbs hbl
 rw [HQ.out]
 go_enter Tryz.func55, Tryz.ntmps55
 go_wp2_with fail
 have H0 := Hd (HS.two (w := w) #[.int .i64 vars, .slice A1 p.free.length c1, .slice A2 p.goal.length c2, .slice A3 p.rows.length c3] #[.bool false, .slice none 0 0, .slice none 0 0] 26 46)
 have hsz0 : ((w.alloc (.cells #[.int .i64 vars, .slice A1 p.free.length c1, .slice A2 p.goal.length c2, .slice A3 p.rows.length c3] 26)).alloc (.cells #[.bool false, .slice none 0 0, .slice none 0 0] 46)).heap.size = w.heap.size + 2 := by simp
 generalize (w.alloc (.cells #[.int .i64 vars, .slice A1 p.free.length c1, .slice A2 p.goal.length c2, .slice A3 p.rows.length c3] 26)).alloc (.cells #[.bool false, .slice none 0 0, .slice none 0 0] 46) = W0 at *
 have hsz : w.heap.size + 2 ≤ W0.heap.size := by omega
 clear hsz0
 go_loopw [5, 11] (fun v5 vi wr => ∃ i : Nat, i ≤ p.rows.length ∧ vi = .int .i64 (i : Int) ∧ OL 3 46 EF (w.heap.size + 2) wr v5 (bs.take i) ∧ w.heap.size + 2 ≤ wr.heap.size ∧ HS w [(w.heap.size + 1, 46, #[.bool false, .slice none 0 0, .slice none 0 0]), (w.heap.size, 26, #[.int .i64 vars, .slice A1 p.free.length c1, .slice A2 p.goal.length c2, .slice A3 p.rows.length c3])] wr) (fun _ vi _ => p.rows.length - (intOf vi).toNat)
 case atStart => exact ⟨0, Nat.zero_le _, rfl, OL.nil _ _ _ _ _, hsz, H0.out⟩
 case round =>
  obtain ⟨i, hi, rfl, hol, hsz2, hs⟩ := hrel
  have HOL := Hd hol
  have HK := Hd hs
  obtain ⟨A5, c5, hv5, _⟩ := hol.slice
  have htl : (bs.take i).length = i := by rw [List.length_take, HBL.out]; omega
  rw [htl] at hv5
  subst hv5
  clear hol hs
  by_cases hlt : i < p.rows.length
  ·obtain ⟨r, hr'⟩ : ∃ r, p.rows[i]? = some r := ⟨p.rows[i], List.getElem?_eq_getElem hlt⟩
   obtain ⟨g, o, B1, d1, B2, n2, d2, B3, n3, d3, rfl, hg, k0, k1, k2, k3, k4, HI', HA', HB'⟩ := RL.at5 (H3.out.below ER.stays HK.out.2) hr'
   have HNX : Hid (bs.take (i + 1) = bs.take i ++ [r.b]) := by
    unfold Hid
    rw [List.take_add_one, HBS.out, List.getElem?_map, hr']
    rfl
   clear hr'
   have m1 : (i : Int) < (p.rows.length : Int) := by omega
   have m3 : (i : Int).toNat = i := by omega
   have m4 : (0 : Int) ≤ (i : Int) := by omega
   obtain ⟨s, hs⟩ : ∃ s, s = r.s := ⟨_, rfl⟩
   rw [← hs] at k1
   have hll : (bs.take i).length ≤ 1000000000 := by omega
   clear hs htl
   go_wp2_with (at_builtin; refine wpl_appendF rfl (.tmp 15) (.tmp 18) rfl (base := w.heap.size + 2) (.slice A5 i c5) (bs.take i) rfl ((HOL.out.below EF.stays (below_new _ _)).below EF.stays (below_new _ _)) r.b rfl (Blk.newAt (by simp)) ((HB'.out.of_below (below_new _ _)).of_below (below_new _ _)) hll (by simp; omega) ?_; intro v6 w6 hown6 hg6 hk6 hb6)
   have HOL6 := Hd hown6
   have HK6 := Hd (HS.grown ((HK.out.step (below_new _ _)).step (below_new _ _)) hg6 (fun b hm e => by
    have := (HOL.out.lt b.1 e.symm).1
    simp only [List.mem_cons, List.not_mem_nil, or_false] at hm
    rcases hm with rfl | rfl <;> (simp only at this; omega)) (fun g e => by have := (HOL.out.lt g e).1; omega))
   have hsz6 : w.heap.size + 2 ≤ w6.heap.size := by have := hk6.1; simp at this; omega
   clear hown6 hg6 hk6 hb6
   go_wp2_with fail
   go_roundw
   case rel => exact ⟨i + 1, by omega, by go_num, by rw [HNX.out]; exact HOL6.out, hsz6, HK6.out⟩
   case measure => simp [intOf]; omega
  ·obtain rfl : i = p.rows.length := by omega
   have hbt : bs.take p.rows.length = bs := List.take_of_length_le (by rw [HBL.out]; exact Nat.le_refl _)
   rw [hbt] at HOL
   have HFL := Hd HOL.out.sl
   clear hbt htl
   go_wp2_with fail
   refine (fdot_calls _ _ _ y bs (HY.out.below EF.stays HK.out.2) HFL.out hy (by rw [HBL.out]; omega)).mono ?_
   rintro e w2 ⟨v, rfl, hv, hb⟩
   obtain ⟨A5, n5, c5, A6, n6, c6, rfl, HV2⟩ := hv.opened
   have H2' := Hd (HK.out.step hb)
   clear hb hv
   obtain ⟨e0, e1, e2⟩ := (H2'.out.blk 0 rfl).c3
   obtain ⟨f0, f1, f2⟩ := (H2'.out.blk 0 rfl).f3
   go_wp2_with fail
   exact end40 Tryz.results55 rfl (H2'.out.blk 0 rfl) HV2.out (by omega) H2'.out.2
set_option maxHeartbeats 8000000 in
set_option maxRecDepth 100000 in
theorem rshift_calls (w : World) (v : Value) (m n : Nat) (h : RN w v m) (hm : wlen m ≤ 100000000000) (hn : n < 32) :
  Calls Tryz.prog 159 #[v, .int .u64 n] w fun e w' => ShiftPost w m n (wlen m) e w' := by
 obtain ⟨A, c, xs, rfl, hc, HX, HR⟩ := h.opened
 clear h
 have hlx : xs.length ≤ 100000000000 := by rw [HX.out]; exact hm
 have HVX : Hid (valN xs = m) := by unfold Hid; rw [HX.out, valN_dg]
 have HLX : Hid (wlen m = xs.length) := by unfold Hid; rw [HX.out]; rfl
 clear HX hm
 go_enter Tryz.func159, Tryz.ntmps159
 obtain ⟨N, hN⟩ : ∃ N : Nat, xs.length + 1 = N := ⟨_, rfl⟩
 have wl : IntKind.i64.wrap ((xs.length : Int) + 1) = ((N : Nat) : Int) := by rw [IntWalk.i64_in _ (by omega)]; omega
 have hmk := make_words 44 Tryz.underlying44 N (by omega)
 go_wp2_with fail
 clear hmk wl
 have hw0 := gb_alloc (gb_refl w none) (zw N)
 have ha0 := zw_arr w N
 generalize w.alloc (zw N) = W0 at *
 go_loopw [6] (fun vi wr => ∃ (i t : Nat) (d : List Nat), i ≤ xs.length ∧ vi = .int .i64 (i : Int) ∧ t < 2 ^ n ∧ d.length = i ∧ Wd d ∧
   valN d + t * 4294967296 ^ i = valN (xs.take i) * 2 ^ n ∧ Arr .u32 wr w.heap.size 103 (ints (d ++ t :: List.replicate (xs.length - i) 0)) ∧ w.grownBy wr none) (fun vi _ => xs.length - (intOf vi).toNat)
 case atStart => exact ⟨0, 0, [], by omega, rfl, Nat.pow_pos (by decide), rfl, (fun x hx => (by cases hx)), by simp [valN], by rw [List.nil_append, Nat.sub_zero, ← List.replicate_succ, hN]; exact ha0, hw0⟩
 case round =>
  obtain ⟨i, t, d, hi, rfl, ht, hdl, hdw, hval, harr, hgb⟩ := hrel
  have HD := Hd hdw
  have HV := Hd hval
  have HA := Hd harr
  have HG := Hd hgb
  have HL := Hd hdl
  clear hdw hval harr hdl
  by_cases hlx2 : i < xs.length
  ·have HRr := Hd (HR.out.gb hgb)
   clear hgb
   obtain ⟨g, o, rfl, hg, hcell⟩ := HRr.out.cell (j := i) hlx2
   have n1 : (i : Int) < (xs.length : Int) := by omega
   have n3 : (i : Int).toNat = i := by omega
   have n4 : (0 : Int) ≤ (i : Int) := by omega
   have n0 : (0 : Int) ≤ (n : Int) := by omega
   have nn : (n : Int).toNat = n := by omega
   have n5 : (i : Int) < (N : Int) := by omega
   have n6 : i < N := by omega
   have hx := nat_lt HR.out.wd i
   obtain ⟨x, hxx⟩ : ∃ x, x = nat xs i := ⟨_, rfl⟩
   rw [← hxx] at hx hcell
   have HXX := Hd hxx
   clear hxx
   have f0 : IntKind.u64.wrap (x : Int) = (x : Int) := IntWalk.u64_in _ (by omega)
   obtain ⟨y, lo, hi2, hy, hs, hl0, hll, hh⟩ := shift_word hx hn
   have hh31 : hi2 < 4294967296 := by
    have : 2 ^ n ≤ 2 ^ 31 := Nat.pow_le_pow_right (by decide) (by omega)
    omega
   have f1 := wrap_shift hx hn hy
   have hlo : lo < 4294967296 := by
    have : 0 < 2 ^ n := Nat.pow_pos (by decide)
    omega
   have f2 : bits .and .u64 (y : Int) 4294967295 = (lo : Int) := mask_any (by omega) hlo hh31
   have f20 : IntKind.u32.wrap (lo : Int) = (lo : Int) := by rw [IntKind.wrap_u32]; omega
   have hor0 := or_zero hh31
   have f3 : (y : Int) / 4294967296 = (hi2 : Int) := by
    have : 0 < 2 ^ n := Nat.pow_pos (by decide)
    omega
   have f4 : IntKind.u32.wrap (hi2 : Int) = (hi2 : Int) := by rw [IntKind.wrap_u32]; omega
   have hor := or_shift hn ht hl0 hll
   obtain ⟨s, hss⟩ : ∃ s, s = lo + t := ⟨_, rfl⟩
   have hs32 : s < 4294967296 := by omega
   rw [← hss] at hor
   have hz : List.replicate (xs.length - i) 0 = 0 :: List.replicate (xs.length - (i + 1)) 0 := by rw [← List.replicate_succ]; congr 1; omega
   have HA2 : Hid (Arr .u32 wr w.heap.size 103 (ints (d ++ t :: 0 :: List.replicate (xs.length - (i + 1)) 0))) := by have := HA.out; rw [hz] at this; exact this
   clear HA hz
   have hlen : (ints (d ++ t :: 0 :: List.replicate (xs.length - (i + 1)) 0)).length = N := by rw [ints_length]; simp [HL.out] <;> omega
   have hco : wr.cell? ⟨w.heap.size, i, none⟩ = some (.int .u32 (t : Int)) := by
    have h1 := HA2.out.cell i (by rw [hlen]; omega)
    have h2 := nth_ints (d ++ t :: 0 :: List.replicate (xs.length - (i + 1)) 0) i
    unfold nth at h2
    rw [h1, h2, nat_append_right (by rw [HL.out]; exact Nat.le_refl _), HL.out, Nat.sub_self]
    rfl
   have HA3 : Hid (Arr .u32 (wr.setCell ⟨w.heap.size, i, none⟩ (.int .u32 (s : Int))) w.heap.size 103 (ints (d ++ [s] ++ 0 :: List.replicate (xs.length - (i + 1)) 0))) := by
    have := HA2.out.set i (s : Int)
    rw [ints_set, set_two _ _ _ _ _ HL.out] at this
    exact this
   have hfr := HA2.out.frozen i
   have hco2 : (wr.setCell ⟨w.heap.size, i, none⟩ (.int .u32 (s : Int))).cell? ⟨w.heap.size, i + 1, none⟩ = some (.int .u32 ((0 : Nat) : Int)) := by
    have h1 := HA3.out.cell (i + 1) (by rw [ints_length]; simp [HL.out])
    have h2 := nth_ints (d ++ [s] ++ 0 :: List.replicate (xs.length - (i + 1)) 0) (i + 1)
    unfold nth at h2
    rw [h1, h2, nat_append_right (by simp [HL.out]), List.length_append, HL.out]
    simp [nat]
   have hfr2 := HA3.out.frozen (i + 1)
   have k1 : IntKind.i64.wrap ((i : Int) + 1) = (i : Int) + 1 := IntWalk.i64_in _ (by omega)
   have k2 : (i : Int) + 1 < (N : Int) := by omega
   have k3 : ((i : Int) + 1).toNat = i + 1 := by omega
   have k4 : i + 1 < N := by omega
   have k5 : 0 ≤ (i : Int) + 1 := by omega
   have HY := Hd hy
   have HS := Hd hs
   have HSS := Hd hss
   have HLL := Hd hll
   clear hy hs hss hl0 hll
   go_wp2_with fail
   go_roundw
   case rel =>
    refine ⟨i + 1, hi2, d ++ [s], by omega, by go_num, hh, by simp [HL.out], HD.out.snoc hs32, ?_, ?_, gb_set (gb_set HG.out (.inl (Nat.le_refl _)) _) (.inl (Nat.le_refl _)) _⟩
    ·rw [valN_snoc, HL.out, valN_take_succ _ _ hlx2, ← HXX.out, Nat.pow_succ, HSS.out]
     exact shift_step HV.out (by rw [← HY.out]; exact HS.out)
    ·have := HA3.out.set (i + 1) (hi2 : Int)
     rw [ints_set, List.set_append_right _ _ (by simp [HL.out])] at this
     simp only [List.length_append, HL.out, List.length_cons, List.length_nil, Nat.zero_add, Nat.sub_self, List.set_cons_zero] at this
     exact this
   case measure => simp [intOf]; omega
  ·obtain rfl : i = xs.length := by omega
   go_wp2_with fail
   go_ret
   have ht32 : t < 4294967296 := by
    have : 2 ^ n ≤ 2 ^ 31 := Nat.pow_le_pow_right (by decide) (by omega)
    omega
   rw [HLX.out]
   refine ⟨w.heap.size, d ++ [t], by rw [hN]; rfl, Nat.le_refl _, by simp [HL.out], HD.out.snoc ht32, ?_, ?_, gb_to_below HG.out⟩
   ·have := HV.out
    rw [List.take_length, HVX.out] at this
    rw [valN_snoc, HL.out, ← this, Nat.mul_comm]
   ·have := HA.out
    rw [Nat.sub_self, List.replicate_zero] at this
    exact this
theorem pow_parts {n : Nat} (hn : n < 32) : ∃ p q, p = 2 ^ n ∧ q = 2 ^ (32 - n) ∧ p * q = 4294967296 ∧ 0 < p ∧ 0 < q := ⟨_, _, rfl, rfl, pow_split hn, Nat.pow_pos (by decide), Nat.pow_pos (by decide)⟩
theorem back_low {x y p q : Nat} (hp : 0 < p) (hpq : p * q = 4294967296) (hx : x < 4294967296) : ∃ hi, (x + 4294967296 * y) / p = (x / p + q * (y % p)) + 4294967296 * hi ∧ hi = y / p ∧ x / p + q * (y % p) < 4294967296 := by
 have hxq : x / p < q := by rw [Nat.div_lt_iff_lt_mul hp, Nat.mul_comm, hpq]; exact hx
 have hr : y % p < p := Nat.mod_lt _ hp
 refine ⟨y / p, ?_, rfl, ?_⟩
 ·have e1 : x + 4294967296 * y = x + p * (q * y) := by rw [← Nat.mul_assoc, hpq]
  have e2 : q * y = 4294967296 * (y / p) + q * (y % p) := by
   have := Nat.div_add_mod y p
   calc q * y = q * (p * (y / p) + y % p) := by rw [this]
    _ = 4294967296 * (y / p) + q * (y % p) := by rw [Nat.mul_add, ← Nat.mul_assoc, Nat.mul_comm q p, hpq]
  rw [e1, Nat.add_mul_div_left _ _ hp, e2]
  omega
 ·have h1 : q * (y % p) ≤ q * (p - 1) := Nat.mul_le_mul_left q (by omega)
  have h2 : q * (p - 1) + q = 4294967296 := by rw [← Nat.mul_succ, Nat.succ_eq_add_one, Nat.sub_add_cancel hp, Nat.mul_comm, hpq]
  omega
theorem rback_step {x y z p q : Nat} (hp : 0 < p) (hpq : p * q = 4294967296) (hx : x < 4294967296) : (x + 4294967296 * (y + 4294967296 * z)) / p = (x / p + q * (y % p)) + 4294967296 * ((y + 4294967296 * z) / p) := by
 obtain ⟨hi, h1, h2, _⟩ := back_low (y := y + 4294967296 * z) hp hpq hx
 rw [h1, h2]
 have : (y + 4294967296 * z) % p = y % p := by
  rw [← hpq, Nat.mul_assoc, Nat.add_mul_mod_self_left]
 rw [this]
theorem or_hi {x y : Nat} (hx : x < 4294967296) (hy : y < 4294967296) : bits .or .u64 (x : Int) ((y : Int) * 4294967296) = ((x + 4294967296 * y : Nat) : Int) := by
 rw [bits_or_comm, or_word y x hy hx]
 omega
theorem div_pow {z n k : Nat} (h : z / 2 ^ n = k) : (z : Int) / 2 ^ n = (k : Int) := by
 have e : (2 : Int) ^ n = ((2 ^ n : Nat) : Int) := by push_cast; rfl
 rw [e, ← Int.natCast_ediv, h]
set_option maxHeartbeats 8000000 in
set_option maxRecDepth 100000 in
theorem rback_calls (w : World) (A : Option Addr) (c : Nat) (xs : List Nat) (n : Nat) (h : Rd w (.slice A xs.length c) xs) (hlx : xs.length ≤ 100000000000) (hn : n < 32) :
  Calls Tryz.prog 160 #[.slice A xs.length c, .int .u64 n] w fun e w' => WPost w (valN xs / 2 ^ n) e w' := by
 have HR := Hd h
 clear h
 obtain ⟨p, q, hp, hq, hpq, hp0, hq0⟩ := pow_parts hn
 rw [← hp]
 have HP := Hd hp
 have HPQ := Hd hpq
 clear hp hq hpq
 go_enter Tryz.func160, Tryz.ntmps160
 have hmk := make_words 44 Tryz.underlying44 xs.length (by omega)
 go_wp2_with fail
 clear hmk
 have hw0 := gb_alloc (gb_refl w none) (zw xs.length)
 have ha0 := zw_arr w xs.length
 generalize w.alloc (zw xs.length) = W0 at *
 go_loopw [6] (fun vi wr => ∃ (i : Nat) (d : List Nat), i ≤ xs.length ∧ vi = .int .i64 (i : Int) ∧ d.length = i ∧ Wd d ∧
   valN xs / p = valN d + 4294967296 ^ i * (valN (xs.drop i) / p) ∧ Arr .u32 wr w.heap.size 103 (ints (d ++ (List.replicate xs.length 0).drop i)) ∧ w.grownBy wr none) (fun vi _ => xs.length - (intOf vi).toNat)
 case atStart => exact ⟨0, [], by omega, rfl, rfl, (fun x hx => (by cases hx)), by simp [valN], ha0, hw0⟩
 case round =>
  obtain ⟨i, d, hi, rfl, hdl, hdw, hval, harr, hgb⟩ := hrel
  have HD := Hd hdw
  have HV := Hd hval
  have HA := Hd harr
  have HG := Hd hgb
  have HL := Hd hdl
  clear hdw hval harr hdl
  by_cases hlx2 : i < xs.length
  ·have HRr := Hd (HR.out.gb hgb)
   clear hgb
   obtain ⟨g, o, rfl, hg, hcell⟩ := HRr.out.cell (j := i) hlx2
   have n1 : (i : Int) < (xs.length : Int) := by omega
   have n3 : (i : Int).toNat = i := by omega
   have n4 : (0 : Int) ≤ (i : Int) := by omega
   have n0 : (0 : Int) ≤ (n : Int) := by omega
   have nn : (n : Int).toNat = n := by omega
   have hx := nat_lt HR.out.wd i
   obtain ⟨x, hxx⟩ : ∃ x, x = nat xs i := ⟨_, rfl⟩
   rw [← hxx] at hx hcell
   have HXX := Hd hxx
   clear hxx
   have f0 : IntKind.u64.wrap (x : Int) = (x : Int) := IntWalk.u64_in _ (by omega)
   have k1 : IntKind.i64.wrap ((i : Int) + 1) = (i : Int) + 1 := IntWalk.i64_in _ (by omega)
   have hlen : (ints (d ++ (List.replicate xs.length 0).drop i)).length = xs.length := by rw [ints_length]; simp [HL.out]; omega
   have hco := HA.out.cell i (by rw [hlen]; omega)
   have hfr := HA.out.frozen i
   obtain ⟨old, hold⟩ : ∃ old, old = (ints (d ++ (List.replicate xs.length 0).drop i)).getD i 0 := ⟨_, rfl⟩
   rw [← hold] at hco
   clear hold
   have fin : ∀ lo : Nat, lo < 4294967296 → valN (xs.drop i) / p = lo + 4294967296 * (valN (xs.drop (i + 1)) / p) → (∃ (i' : Nat) (d' : List Nat), i' ≤ xs.length ∧ Value.int .i64 ((i : Int) + 1) = .int .i64 (i' : Int) ∧ d'.length = i' ∧ Wd d' ∧ valN xs / p = valN d' + 4294967296 ^ i' * (valN (xs.drop i') / p) ∧ Arr .u32 (wr.setCell ⟨w.heap.size, i, none⟩ (.int .u32 (lo : Int))) w.heap.size 103 (ints (d' ++ (List.replicate xs.length 0).drop i')) ∧ w.grownBy (wr.setCell ⟨w.heap.size, i, none⟩ (.int .u32 (lo : Int))) none) := fun lo hlo hst => by
    refine ⟨i + 1, d ++ [lo], by omega, by go_num, by simp [HL.out], HD.out.snoc hlo, ?_, ?_, gb_set HG.out (.inl (Nat.le_refl _)) _⟩
    ·rw [valN_snoc, HL.out, HV.out, hst, Nat.pow_succ, Nat.mul_add, Nat.mul_assoc, Nat.add_assoc]
    ·have := HA.out.set i (lo : Int)
     rw [ints_set, set_pass _ _ _ _ HL.out (by simp; omega)] at this
     exact this
   have HF := Hd fin
   clear fin
   by_cases hl2 : i + 1 < xs.length
   ·obtain ⟨g2, o2, e2, hg2, hcell2⟩ := HRr.out.cell (j := i + 1) hl2
    injection e2 with e2
    injection e2 with e21 e22
    subst e21 e22
    have hy := nat_lt HR.out.wd (i + 1)
    obtain ⟨y, hyy⟩ : ∃ y, y = nat xs (i + 1) := ⟨_, rfl⟩
    rw [← hyy] at hy hcell2
    have HYY := Hd hyy
    clear hyy
    have m1 : (i : Int) + 1 < (xs.length : Int) := by omega
    have m2 : ((i : Int) + 1).toNat = i + 1 := by omega
    have m3 : 0 ≤ (i : Int) + 1 := by omega
    have g0 : IntKind.u64.wrap (y : Int) = (y : Int) := IntWalk.u64_in _ (by omega)
    have g1 : IntKind.u64.wrap ((y : Int) * 4294967296) = (y : Int) * 4294967296 := IntWalk.u64_in _ (by omega)
    have g2' := or_hi hx hy
    obtain ⟨z, hz⟩ : ∃ z, z = x + 4294967296 * y := ⟨_, rfl⟩
    rw [← hz] at g2'
    obtain ⟨hi2, h1, h2, h3⟩ := back_low (y := y) hp0 HPQ.out hx
    obtain ⟨lo, hlo⟩ : ∃ lo, lo = x / p + q * (y % p) := ⟨_, rfl⟩
    rw [← hlo] at h1 h3
    rw [← hz] at h1
    obtain ⟨k, hk⟩ : ∃ k, k = z / p := ⟨_, rfl⟩
    have g3 : (z : Int) / 2 ^ n = (k : Int) := div_pow (by rw [← HP.out, hk])
    have hyp : hi2 ≤ y := by rw [h2]; exact Nat.div_le_self _ _
    have g4 : bits .and .u64 (k : Int) 4294967295 = (lo : Int) := mask_any (hi := hi2) (by rw [hk, h1]; omega) h3 (by omega)
    have g5 : IntKind.u32.wrap (lo : Int) = (lo : Int) := by rw [IntKind.wrap_u32]; omega
    have HST : Hid (valN (xs.drop i) / p = lo + 4294967296 * (valN (xs.drop (i + 1)) / p)) := by
     unfold Hid
     rw [valN_drop _ _ hlx2, valN_drop _ _ hl2, ← HXX.out, ← HYY.out, rback_step hp0 HPQ.out hx, ← hlo]
    have H3 := Hd h3
    clear hz hlo hk h1 h2 h3 hyp
    go_wp2_with fail
    go_roundw
    case rel => exact HF.out lo H3.out HST.out
    case measure => simp [intOf]; omega
   ·have m1 : ¬ (i : Int) + 1 < (xs.length : Int) := by omega
    obtain ⟨hi2, h1, h2, h3⟩ := back_low (y := 0) hp0 HPQ.out hx
    obtain ⟨lo, hlo⟩ : ∃ lo, lo = x / p := ⟨_, rfl⟩
    rw [Nat.zero_mod, Nat.mul_zero, Nat.add_zero, ← hlo] at h1 h3
    rw [Nat.zero_div] at h2
    have g3 : (x : Int) / 2 ^ n = (lo : Int) := div_pow (by rw [← HP.out, hlo])
    have g4 : bits .and .u64 (lo : Int) 4294967295 = (lo : Int) := mask_word h3
    have g5 : IntKind.u32.wrap (lo : Int) = (lo : Int) := by rw [IntKind.wrap_u32]; omega
    have HST : Hid (valN (xs.drop i) / p = lo + 4294967296 * (valN (xs.drop (i + 1)) / p)) := by
     unfold Hid
     rw [valN_drop _ _ hlx2, List.drop_of_length_le (show xs.length ≤ i + 1 by omega), ← HXX.out, hlo]
     simp [valN]
    have H3 := Hd h3
    clear hlo h1 h2 h3
    go_wp2_with fail
    go_roundw
    case rel => exact HF.out lo H3.out HST.out
    case measure => simp [intOf]; omega
  ·obtain rfl : i = xs.length := by omega
   clear hgb
   go_wp2_with fail
   have ha2 := HA.out
   rw [List.drop_of_length_le (by simp), List.append_nil] at ha2
   have hrd := Rd.of_arr ha2 HD.out
   rw [HL.out] at hrd
   have hrd2 : Rd wr (.slice (some ⟨w.heap.size, 0, none⟩) d.length xs.length) d := by rw [HL.out]; exact hrd
   have htr := rtrim_rn hrd2 (by rw [HL.out]; omega)
   rw [HL.out] at htr
   refine htr.mono ?_
   rintro e w' ⟨v, rfl, hv, hb⟩
   have hval : valN d = valN xs / p := by
    have h1 := HV.out
    rw [List.drop_length] at h1
    simpa [valN] using h1.symm
   rw [hval] at hv
   have HBB := Hd (gb_to_below (gb_below HG.out hb))
   go_wp2_with fail
   go_ret
   exact ⟨_, rfl, hv, HBB.out⟩
end Go.Proofs.YtfhambfgjigneaaGreat

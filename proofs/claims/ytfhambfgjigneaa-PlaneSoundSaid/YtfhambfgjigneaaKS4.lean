/- Contracts of Go functions that the statement reaches, proved by walking their text, and plain laws over them (texts put together). -/
import Derived.Test.YtfhambfgjigneaaKS3
import Derived.Test.YtfhambfgjigneaaKS1
import Derived.Test.YtfhambfgjigneaaKS2
set_option linter.unusedVariables false
set_option linter.unusedSimpArgs false
set_option maxHeartbeats 64000000
set_option maxRecDepth 100000
namespace Go.Proofs.Ytfhambfgjigneaa
open Go.RowKit
theorem add_same (p q : Int) (d : Nat) (hd : d ≠ 0) : mkRat p d + mkRat q d = mkRat (p + q) d := by
 rw [Rat.mkRat_add_mkRat _ _ hd hd, ← Int.add_mul, Rat.mkRat_mul_right hd]
theorem plus_eq (s : Bool) (x y d : Nat) (hd : d ≠ 0) : mkRat (sg s x) d + mkRat (sg s y) d = mkRat (sg s (x + y)) d := by
 rw [add_same _ _ _ hd]
 congr 1
 unfold sg
 cases s <;> simp <;> omega
theorem plus_gt (s t : Bool) (hst : s ≠ t) (x y d : Nat) (hd : d ≠ 0) (h : y ≤ x) : mkRat (sg s x) d + mkRat (sg t y) d = mkRat (sg s (x - y)) d := by
 rw [add_same _ _ _ hd]
 congr 1
 unfold sg
 cases s <;> cases t <;> simp at hst ⊢ <;> omega
theorem plus_lt (s t : Bool) (hst : s ≠ t) (x y d : Nat) (hd : d ≠ 0) (h : x ≤ y) : mkRat (sg s x) d + mkRat (sg t y) d = mkRat (sg t (y - x)) d := by
 rw [Rat.add_comm]
 exact plus_gt t s (Ne.symm hst) y x d hd h
theorem scale_left (a : Rat) (k : Nat) (hk : k ≠ 0) : a = mkRat (sg (negQ a) (a.num.natAbs * k)) (a.den * k) := by
 conv => lhs; rw [← mk_self a, ← Rat.mkRat_mul_right hk]
 congr 1
 unfold sg
 split <;> simp [Int.neg_mul]
theorem scale_right (b : Rat) (k : Nat) (hk : k ≠ 0) : b = mkRat (sg (negQ b) (b.num.natAbs * k)) (k * b.den) := by
 rw [Nat.mul_comm k]
 exact scale_left b k hk
def HP (w : World) (g1 g2 g3 t3 : Nat) (cs1 cs2 : Array Value) (vx vy vd : Value) (x y d : Nat) (W : World) : Prop := HX w g1 g2 g3 t3 cs1 cs2 W ∧ RN W vx x ∧ RN W vy y ∧ RN W vd d
theorem HP.step {w W W' : World} {g1 g2 g3 t3 : Nat} {cs1 cs2 : Array Value} {vx vy vd : Value} {x y d : Nat} (h : HP w g1 g2 g3 t3 cs1 cs2 vx vy vd x y d W) (hb : Below W.heap.size W W') : HP w g1 g2 g3 t3 cs1 cs2 vx vy vd x y d W' :=
 ⟨h.1.step hb, h.2.1.of_below hb, h.2.2.1.of_below hb, h.2.2.2.of_below hb⟩
theorem HP.put {w W : World} {g1 g2 g3 t3 : Nat} {cs1 cs2 : Array Value} {vx vy vd : Value} {x y d : Nat} (h : HP w g1 g2 g3 t3 cs1 cs2 vx vy vd x y d W) (h13 : g1 ≠ g3) (h23 : g2 ≠ g3) (hg : w.heap.size ≤ g3) (p q r : Value) (hn : ∀ u ∈ #[p, q, r], notInt u = true) :
  HP w g1 g2 g3 t3 cs1 cs2 vx vy vd x y d (((W.setCell ⟨g3, 0, none⟩ p).setCell ⟨g3, 1, none⟩ q).setCell ⟨g3, 2, none⟩ r) := by
 obtain ⟨a, b, c, hn0, hk⟩ := h.1.at3
 exact ⟨h.1.put h13 h23 hg p q r hn, h.2.1.put3 hk hn0 _ _ _, h.2.2.1.put3 hk hn0 _ _ _, h.2.2.2.put3 hk hn0 _ _ _⟩
theorem sq13 (P : Prop) (h : P := by
 have hc : cmpI x y = 0 := by unfold cmpI; rw [if_pos hxy]
 rw [hc]
 have HQ0 : Hid (q = 0) := by unfold Hid; rw [HQE.out, HEA.out, HEB.out, plus_gt _ _ (by decide) _ _ _ hd (by omega), hxy, Nat.sub_self, mk_zero]
 clear hxy hc
 go_wp2_with fail
 refine (whole_calls W2 0 (by decide) (by decide)).mono ?_
 rintro e w1 ⟨v, rfl, hv, hb⟩
 obtain ⟨A5, n5, c5, A6, n6, c6, rfl, hn5, hn6, h5, h6⟩ := hv.opened
 clear hn5 hn6
 have hx1 := HX.step HP0.1 hb
 obtain ⟨x3, y3, z3, hni3, hk3⟩ := HX.at3 hx1
 have e0 := hk3.cell (j := 0) rfl
 have e1 := hk3.cell (j := 1) rfl
 have e2 := hk3.cell (j := 2) rfl
 have f0 := hk3.frozen 0
 have f1 := hk3.frozen 1
 have f2 := hk3.frozen 2
 have hb7 := HX.bel hx1
 go_wp2_with fail
 exact ret85 Try.results72 rfl (hk3.put3 _ _ _) ⟨_, rfl, by rw [HQ0.out]; exact ⟨_, _, rfl, h5.out.put3 hk3 hni3 _ _ _, h6.out.put3 hk3 hni3 _ _ _⟩, below_put3 hb7 (by omega) _ _ _⟩) : P := h
theorem plus_calls (w : World) (v v2 : Value) (a b : Rat) (h : RQ w v a) (h2 : RQ w v2 b) (ha : sizeQ a ≤ 4000000000) (hb : sizeQ b ≤ 4000000000) :
  Calls Try.prog 72 #[v, v2] w fun e w' => QPost w (a + b) e w' := by
 obtain ⟨A1, n1, c1, A2, n2, c2, rfl, hn1, hn2, R1, R2⟩ := h.opened
 obtain ⟨A3, n3, c3, A4, n4, c4, rfl, hn3, hn4, R3, R4⟩ := h2.opened
 clear h h2
 have l1 : wlen a.num.natAbs ≤ 4000000000 := by unfold sizeQ at ha; omega
 have l2 : wlen a.den ≤ 4000000000 := by unfold sizeQ at ha; omega
 have l3 : wlen b.num.natAbs ≤ 4000000000 := by unfold sizeQ at hb; omega
 have l4 : wlen b.den ≤ 4000000000 := by unfold sizeQ at hb; omega
 obtain ⟨s1, hs1⟩ : ∃ s1, s1 = negQ a := ⟨_, rfl⟩
 obtain ⟨s2, hs2⟩ : ∃ s2, s2 = negQ b := ⟨_, rfl⟩
 rw [← hs1, ← hs2]
 have HS1 := Hd hs1
 have HS2 := Hd hs2
 have HN1 := Hd hn1
 have HN2 := Hd hn2
 have HN3 := Hd hn3
 have HN4 := Hd hn4
 clear hs1 hs2 hn1 hn2 hn3 hn4 ha hb
 have l5 := wlen_mul a.num.natAbs b.den
 have l6 := wlen_mul b.num.natAbs a.den
 have l7 := wlen_mul a.den b.den
 obtain ⟨q, hq⟩ : ∃ q, q = a + b := ⟨_, rfl⟩
 rw [← hq]
 have HQE := Hd hq
 clear hq
 go_enter Try.func72, Try.ntmps72
 go_wp2_with fail
 have HX0 := HX.start w 85 #[.slice A1 n1 c1, .slice A2 n2 c2, .bool s1] #[.slice A3 n3 c3, .slice A4 n4 c4, .bool s2] #[.slice none 0 0, .slice none 0 0, .bool false] _ _ _ rfl ni85
 generalize ((w.alloc (.cells #[.slice A1 n1 c1, .slice A2 n2 c2, .bool s1] 85)).alloc (.cells #[.slice A3 n3 c3, .slice A4 n4 c4, .bool s2] 85)).alloc (.cells #[.slice none 0 0, .slice none 0 0, .bool false] 85) = W0 at *
 obtain ⟨k0, k1, k2, k3, k4, k5⟩ := HX0.cells
 go_quiet (fail)
 go_wp2_with fail
 refine (cmp_calls _ _ _ a.den b.den (R2.out.of_below (HX.bel (HX.step HX0 (Below.drewN0 (Below.refl _ _) nq)))) (R4.out.of_below (HX.bel (HX.step HX0 (Below.drewN0 (Below.refl _ _) nq)))) (by omega) (by omega)).mono ?_
 rintro e W1 ⟨rfl, hb1⟩
 have HX1 := HX.step (HX.step HX0 (Below.drewN0 (Below.refl _ _) nq)) hb1
 clear HX0 k0 k1 k2 k3 k4 k5 hb1
 obtain ⟨k0, k1, k2, k3, k4, k5⟩ := HX1.cells
 by_cases hde : a.den = b.den
 ·have hc0 : cmpI a.den b.den = 0 := by unfold cmpI; rw [if_pos hde]
  rw [hc0]
  obtain ⟨x, hx⟩ : ∃ x, x = a.num.natAbs := ⟨_, rfl⟩
  obtain ⟨y, hy⟩ : ∃ y, y = b.num.natAbs := ⟨_, rfl⟩
  obtain ⟨d, hd0⟩ : ∃ d, d = a.den := ⟨_, rfl⟩
  have hd : d ≠ 0 := by rw [hd0]; exact a.den_nz
  have HEA : Hid (a = mkRat (sg s1 x) d) := by unfold Hid; rw [HS1.out, hx, hd0, mk_self]
  have HEB : Hid (b = mkRat (sg s2 y) d) := by unfold Hid; rw [HS2.out, hy, hd0, hde, mk_self]
  have lx : wlen x ≤ 8000000000 := by rw [hx]; omega
  have ly : wlen y ≤ 8000000000 := by rw [hy]; omega
  have ld : wlen d ≤ 8000000000 := by rw [hd0]; omega
  have HP0 : HP w w.heap.size (w.heap.size + 1) (w.heap.size + 1 + 1) 85 #[.slice A1 n1 c1, .slice A2 n2 c2, .bool s1] #[.slice A3 n3 c3, .slice A4 n4 c4, .bool s2] (.slice A1 n1 c1) (.slice A3 n3 c3) (.slice A2 n2 c2) x y d W1 :=
   ⟨HX1, by rw [hx]; exact R1.out.of_below HX1.bel, by rw [hy]; exact R3.out.of_below HX1.bel, by rw [hd0]; exact R2.out.of_below HX1.bel⟩
  clear hx hy hd0 hde hc0 HX1 l5 l6 l7
  obtain ⟨k0, k1, k2, k3, k4, k5⟩ := HP0.1.cells
  cases s1 with
  | true =>
   cases s2 with
   | true =>
    have HQ : Hid (mkRat (sg true (x + y)) d = q) := by
     unfold Hid
     rw [HQE.out, HEA.out, HEB.out, plus_eq _ _ _ _ hd]
    have hwa := wlen_add x y
    go_wp2_with fail
    go_region_held3 (fun W => (W.cell? ⟨w.heap.size, 0, none⟩ = some (.slice A1 n1 c1) ∧ W.cell? ⟨w.heap.size, 1, none⟩ = some (.slice A2 n2 c2) ∧ W.cell? ⟨w.heap.size, 2, none⟩ = some (.bool true) ∧
       W.cell? ⟨w.heap.size + 1, 0, none⟩ = some (.slice A3 n3 c3) ∧ W.cell? ⟨w.heap.size + 1, 1, none⟩ = some (.slice A4 n4 c4) ∧ W.cell? ⟨w.heap.size + 1, 2, none⟩ = some (.bool true)) ∧ HP w w.heap.size (w.heap.size + 1) (w.heap.size + 1 + 1) 85 #[.slice A1 n1 c1, .slice A2 n2 c2, .bool true] #[.slice A3 n3 c3, .slice A4 n4 c4, .bool true] (.slice A1 n1 c1) (.slice A3 n3 c3) (.slice A2 n2 c2) x y d W)
     (first | exact ⟨HX.cells (HP.step HP0 (Below.drew (Below.refl _ _))).1, HP.step HP0 (Below.drew (Below.refl _ _))⟩ | (have hk9 := (And.right ‹_ ∧ HP _ _ _ _ _ _ _ _ _ _ _ _ _ _›); have hk8 := HP.step hk9 ‹_›; exact ⟨HX.cells hk8.1, hk8⟩) | (have hk9 := (And.right ‹_ ∧ HP _ _ _ _ _ _ _ _ _ _ _ _ _ _›); exact ⟨HX.cells (HP.put hk9 (by omega) (by omega) (by omega) _ _ _ (by simp [notInt])).1, HP.put hk9 (by omega) (by omega) (by omega) _ _ _ (by simp [notInt])⟩))
     (first
      | (go_at_call 100; refine (add_calls _ (.slice A1 n1 c1) (.slice A3 n3 c3) x y ?_ ?_ ?_ ?_).mono ?_; exact ((And.right ‹_ ∧ HP _ _ _ _ _ _ _ _ _ _ _ _ _ _›)).2.1; exact ((And.right ‹_ ∧ HP _ _ _ _ _ _ _ _ _ _ _ _ _ _›)).2.2.1; omega; omega; rintro e w' ⟨v, rfl, hv, hb⟩)
      | (go_at_call 99; refine (reduced_q _ _ _ (x + y) (d) _ (q) HQ.out ?_ ?_ ?_ ?_ ?_).mono ?_; assumption; exact ((And.right ‹_ ∧ HP _ _ _ _ _ _ _ _ _ _ _ _ _ _›)).2.2.2; omega; omega; exact hd; rintro e w' ⟨v, rfl, hv, hb⟩; obtain ⟨A5, n5, c5, A6, n6, c6, rfl, hn5, hn6, h5, h6⟩ := hv.opened; clear hn5 hn6; obtain ⟨x3, y3, z3, hni3, hk3⟩ := HX.at3 (HP.step (And.right ‹_ ∧ HP _ _ _ _ _ _ _ _ _ _ _ _ _ _›) hb).1; have e0 := hk3.cell (j := 0) rfl; have e1 := hk3.cell (j := 1) rfl; have e2 := hk3.cell (j := 2) rfl; have f0 := hk3.frozen 0; have f1 := hk3.frozen 1; have f2 := hk3.frozen 2; have hb7 := HX.bel (HP.step (And.right ‹_ ∧ HP _ _ _ _ _ _ _ _ _ _ _ _ _ _›) hb).1))
    go_wp2_with fail
    exact ret85 Try.results72 rfl (hk3.put3 _ _ _) ⟨_, rfl, ⟨_, _, rfl, h5.out.put3 hk3 hni3 _ _ _, h6.out.put3 hk3 hni3 _ _ _⟩, below_put3 hb7 (by omega) _ _ _⟩
   | false =>
    go_wp2_with fail
    refine (cmp_calls _ _ _ x y HP0.2.1 HP0.2.2.1 (by omega) (by omega)).mono ?_
    rintro e W2 ⟨rfl, hb2⟩
    have HP1 := HP0.step hb2
    clear HP0 k0 k1 k2 k3 k4 k5
    have HP0 := HP1
    clear hb2 HP1
    obtain ⟨k0, k1, k2, k3, k4, k5⟩ := HP0.1.cells
    by_cases hxy : x = y
    ·exact sq13 _
    by_cases hlt : x < y
    ·have hc : cmpI x y = -1 := by unfold cmpI; rw [if_neg hxy, if_pos hlt]
     rw [hc]
     have HQ : Hid (mkRat (sg false (y - x)) d = q) := by
      unfold Hid
      rw [HQE.out, HEA.out, HEB.out, plus_lt _ _ (by decide) _ _ _ hd (by omega)]
     have hwa := wlen_mono (Nat.sub_le y x)
     clear hc
     go_wp2_with fail
     go_region_held3 (fun W => (W.cell? ⟨w.heap.size, 0, none⟩ = some (.slice A1 n1 c1) ∧ W.cell? ⟨w.heap.size, 1, none⟩ = some (.slice A2 n2 c2) ∧ W.cell? ⟨w.heap.size, 2, none⟩ = some (.bool true) ∧
       W.cell? ⟨w.heap.size + 1, 0, none⟩ = some (.slice A3 n3 c3) ∧ W.cell? ⟨w.heap.size + 1, 1, none⟩ = some (.slice A4 n4 c4) ∧ W.cell? ⟨w.heap.size + 1, 2, none⟩ = some (.bool false)) ∧ HP w w.heap.size (w.heap.size + 1) (w.heap.size + 1 + 1) 85 #[.slice A1 n1 c1, .slice A2 n2 c2, .bool true] #[.slice A3 n3 c3, .slice A4 n4 c4, .bool false] (.slice A1 n1 c1) (.slice A3 n3 c3) (.slice A2 n2 c2) x y d W)
      (first | exact ⟨HX.cells (HP.step HP0 (Below.drew (Below.refl _ _))).1, HP.step HP0 (Below.drew (Below.refl _ _))⟩ | (have hk9 := (And.right ‹_ ∧ HP _ _ _ _ _ _ _ _ _ _ _ _ _ _›); have hk8 := HP.step hk9 ‹_›; exact ⟨HX.cells hk8.1, hk8⟩) | (have hk9 := (And.right ‹_ ∧ HP _ _ _ _ _ _ _ _ _ _ _ _ _ _›); exact ⟨HX.cells (HP.put hk9 (by omega) (by omega) (by omega) _ _ _ (by simp [notInt])).1, HP.put hk9 (by omega) (by omega) (by omega) _ _ _ (by simp [notInt])⟩))
      (first
       | (go_at_call 101; refine (sub_calls _ (.slice A3 n3 c3) (.slice A1 n1 c1) y x ?_ ?_ ?_ ?_).mono ?_; exact ((And.right ‹_ ∧ HP _ _ _ _ _ _ _ _ _ _ _ _ _ _›)).2.2.1; exact ((And.right ‹_ ∧ HP _ _ _ _ _ _ _ _ _ _ _ _ _ _›)).2.1; omega; omega; rintro e w' ⟨v, rfl, hv, hb⟩)
       | (go_at_call 99; refine (reduced_q _ _ _ (y - x) (d) _ (q) HQ.out ?_ ?_ ?_ ?_ ?_).mono ?_; assumption; exact ((And.right ‹_ ∧ HP _ _ _ _ _ _ _ _ _ _ _ _ _ _›)).2.2.2; omega; omega; exact hd; rintro e w' ⟨v, rfl, hv, hb⟩; obtain ⟨A5, n5, c5, A6, n6, c6, rfl, hn5, hn6, h5, h6⟩ := hv.opened; clear hn5 hn6; obtain ⟨x3, y3, z3, hni3, hk3⟩ := HX.at3 (HP.step (And.right ‹_ ∧ HP _ _ _ _ _ _ _ _ _ _ _ _ _ _›) hb).1; have e0 := hk3.cell (j := 0) rfl; have e1 := hk3.cell (j := 1) rfl; have e2 := hk3.cell (j := 2) rfl; have f0 := hk3.frozen 0; have f1 := hk3.frozen 1; have f2 := hk3.frozen 2; have hb7 := HX.bel (HP.step (And.right ‹_ ∧ HP _ _ _ _ _ _ _ _ _ _ _ _ _ _›) hb).1))
     go_wp2_with fail
     exact ret85 Try.results72 rfl (hk3.put3 _ _ _) ⟨_, rfl, ⟨_, _, rfl, h5.out.put3 hk3 hni3 _ _ _, h6.out.put3 hk3 hni3 _ _ _⟩, below_put3 hb7 (by omega) _ _ _⟩
    ·have hc : cmpI x y = 1 := by unfold cmpI; rw [if_neg hxy, if_neg hlt]
     rw [hc]
     have HQ : Hid (mkRat (sg true (x - y)) d = q) := by
      unfold Hid
      rw [HQE.out, HEA.out, HEB.out, plus_gt _ _ (by decide) _ _ _ hd (by omega)]
     have hwa := wlen_mono (Nat.sub_le x y)
     clear hc
     go_wp2_with fail
     go_region_held3 (fun W => (W.cell? ⟨w.heap.size, 0, none⟩ = some (.slice A1 n1 c1) ∧ W.cell? ⟨w.heap.size, 1, none⟩ = some (.slice A2 n2 c2) ∧ W.cell? ⟨w.heap.size, 2, none⟩ = some (.bool true) ∧
       W.cell? ⟨w.heap.size + 1, 0, none⟩ = some (.slice A3 n3 c3) ∧ W.cell? ⟨w.heap.size + 1, 1, none⟩ = some (.slice A4 n4 c4) ∧ W.cell? ⟨w.heap.size + 1, 2, none⟩ = some (.bool false)) ∧ HP w w.heap.size (w.heap.size + 1) (w.heap.size + 1 + 1) 85 #[.slice A1 n1 c1, .slice A2 n2 c2, .bool true] #[.slice A3 n3 c3, .slice A4 n4 c4, .bool false] (.slice A1 n1 c1) (.slice A3 n3 c3) (.slice A2 n2 c2) x y d W)
      (first | exact ⟨HX.cells (HP.step HP0 (Below.drew (Below.refl _ _))).1, HP.step HP0 (Below.drew (Below.refl _ _))⟩ | (have hk9 := (And.right ‹_ ∧ HP _ _ _ _ _ _ _ _ _ _ _ _ _ _›); have hk8 := HP.step hk9 ‹_›; exact ⟨HX.cells hk8.1, hk8⟩) | (have hk9 := (And.right ‹_ ∧ HP _ _ _ _ _ _ _ _ _ _ _ _ _ _›); exact ⟨HX.cells (HP.put hk9 (by omega) (by omega) (by omega) _ _ _ (by simp [notInt])).1, HP.put hk9 (by omega) (by omega) (by omega) _ _ _ (by simp [notInt])⟩))
      (first
       | (go_at_call 101; refine (sub_calls _ (.slice A1 n1 c1) (.slice A3 n3 c3) x y ?_ ?_ ?_ ?_).mono ?_; exact ((And.right ‹_ ∧ HP _ _ _ _ _ _ _ _ _ _ _ _ _ _›)).2.1; exact ((And.right ‹_ ∧ HP _ _ _ _ _ _ _ _ _ _ _ _ _ _›)).2.2.1; omega; omega; rintro e w' ⟨v, rfl, hv, hb⟩)
       | (go_at_call 99; refine (reduced_q _ _ _ (x - y) (d) _ (q) HQ.out ?_ ?_ ?_ ?_ ?_).mono ?_; assumption; exact ((And.right ‹_ ∧ HP _ _ _ _ _ _ _ _ _ _ _ _ _ _›)).2.2.2; omega; omega; exact hd; rintro e w' ⟨v, rfl, hv, hb⟩; obtain ⟨A5, n5, c5, A6, n6, c6, rfl, hn5, hn6, h5, h6⟩ := hv.opened; clear hn5 hn6; obtain ⟨x3, y3, z3, hni3, hk3⟩ := HX.at3 (HP.step (And.right ‹_ ∧ HP _ _ _ _ _ _ _ _ _ _ _ _ _ _›) hb).1; have e0 := hk3.cell (j := 0) rfl; have e1 := hk3.cell (j := 1) rfl; have e2 := hk3.cell (j := 2) rfl; have f0 := hk3.frozen 0; have f1 := hk3.frozen 1; have f2 := hk3.frozen 2; have hb7 := HX.bel (HP.step (And.right ‹_ ∧ HP _ _ _ _ _ _ _ _ _ _ _ _ _ _›) hb).1))
     go_wp2_with fail
     exact ret85 Try.results72 rfl (hk3.put3 _ _ _) ⟨_, rfl, ⟨_, _, rfl, h5.out.put3 hk3 hni3 _ _ _, h6.out.put3 hk3 hni3 _ _ _⟩, below_put3 hb7 (by omega) _ _ _⟩
  | false =>
   cases s2 with
   | true =>
    go_wp2_with fail
    refine (cmp_calls _ _ _ x y HP0.2.1 HP0.2.2.1 (by omega) (by omega)).mono ?_
    rintro e W2 ⟨rfl, hb2⟩
    have HP1 := HP0.step hb2
    clear HP0 k0 k1 k2 k3 k4 k5
    have HP0 := HP1
    clear hb2 HP1
    obtain ⟨k0, k1, k2, k3, k4, k5⟩ := HP0.1.cells
    by_cases hxy : x = y
    ·exact sq13 _
    by_cases hlt : x < y
    ·have hc : cmpI x y = -1 := by unfold cmpI; rw [if_neg hxy, if_pos hlt]
     rw [hc]
     have HQ : Hid (mkRat (sg true (y - x)) d = q) := by
      unfold Hid
      rw [HQE.out, HEA.out, HEB.out, plus_lt _ _ (by decide) _ _ _ hd (by omega)]
     have hwa := wlen_mono (Nat.sub_le y x)
     clear hc
     go_wp2_with fail
     go_region_held3 (fun W => (W.cell? ⟨w.heap.size, 0, none⟩ = some (.slice A1 n1 c1) ∧ W.cell? ⟨w.heap.size, 1, none⟩ = some (.slice A2 n2 c2) ∧ W.cell? ⟨w.heap.size, 2, none⟩ = some (.bool false) ∧
       W.cell? ⟨w.heap.size + 1, 0, none⟩ = some (.slice A3 n3 c3) ∧ W.cell? ⟨w.heap.size + 1, 1, none⟩ = some (.slice A4 n4 c4) ∧ W.cell? ⟨w.heap.size + 1, 2, none⟩ = some (.bool true)) ∧ HP w w.heap.size (w.heap.size + 1) (w.heap.size + 1 + 1) 85 #[.slice A1 n1 c1, .slice A2 n2 c2, .bool false] #[.slice A3 n3 c3, .slice A4 n4 c4, .bool true] (.slice A1 n1 c1) (.slice A3 n3 c3) (.slice A2 n2 c2) x y d W)
      (first | exact ⟨HX.cells (HP.step HP0 (Below.drew (Below.refl _ _))).1, HP.step HP0 (Below.drew (Below.refl _ _))⟩ | (have hk9 := (And.right ‹_ ∧ HP _ _ _ _ _ _ _ _ _ _ _ _ _ _›); have hk8 := HP.step hk9 ‹_›; exact ⟨HX.cells hk8.1, hk8⟩) | (have hk9 := (And.right ‹_ ∧ HP _ _ _ _ _ _ _ _ _ _ _ _ _ _›); exact ⟨HX.cells (HP.put hk9 (by omega) (by omega) (by omega) _ _ _ (by simp [notInt])).1, HP.put hk9 (by omega) (by omega) (by omega) _ _ _ (by simp [notInt])⟩))
      (first
       | (go_at_call 101; refine (sub_calls _ (.slice A3 n3 c3) (.slice A1 n1 c1) y x ?_ ?_ ?_ ?_).mono ?_; exact ((And.right ‹_ ∧ HP _ _ _ _ _ _ _ _ _ _ _ _ _ _›)).2.2.1; exact ((And.right ‹_ ∧ HP _ _ _ _ _ _ _ _ _ _ _ _ _ _›)).2.1; omega; omega; rintro e w' ⟨v, rfl, hv, hb⟩)
       | (go_at_call 99; refine (reduced_q _ _ _ (y - x) (d) _ (q) HQ.out ?_ ?_ ?_ ?_ ?_).mono ?_; assumption; exact ((And.right ‹_ ∧ HP _ _ _ _ _ _ _ _ _ _ _ _ _ _›)).2.2.2; omega; omega; exact hd; rintro e w' ⟨v, rfl, hv, hb⟩; obtain ⟨A5, n5, c5, A6, n6, c6, rfl, hn5, hn6, h5, h6⟩ := hv.opened; clear hn5 hn6; obtain ⟨x3, y3, z3, hni3, hk3⟩ := HX.at3 (HP.step (And.right ‹_ ∧ HP _ _ _ _ _ _ _ _ _ _ _ _ _ _›) hb).1; have e0 := hk3.cell (j := 0) rfl; have e1 := hk3.cell (j := 1) rfl; have e2 := hk3.cell (j := 2) rfl; have f0 := hk3.frozen 0; have f1 := hk3.frozen 1; have f2 := hk3.frozen 2; have hb7 := HX.bel (HP.step (And.right ‹_ ∧ HP _ _ _ _ _ _ _ _ _ _ _ _ _ _›) hb).1))
     go_wp2_with fail
     exact ret85 Try.results72 rfl (hk3.put3 _ _ _) ⟨_, rfl, ⟨_, _, rfl, h5.out.put3 hk3 hni3 _ _ _, h6.out.put3 hk3 hni3 _ _ _⟩, below_put3 hb7 (by omega) _ _ _⟩
    ·have hc : cmpI x y = 1 := by unfold cmpI; rw [if_neg hxy, if_neg hlt]
     rw [hc]
     have HQ : Hid (mkRat (sg false (x - y)) d = q) := by
      unfold Hid
      rw [HQE.out, HEA.out, HEB.out, plus_gt _ _ (by decide) _ _ _ hd (by omega)]
     have hwa := wlen_mono (Nat.sub_le x y)
     clear hc
     go_wp2_with fail
     go_region_held3 (fun W => (W.cell? ⟨w.heap.size, 0, none⟩ = some (.slice A1 n1 c1) ∧ W.cell? ⟨w.heap.size, 1, none⟩ = some (.slice A2 n2 c2) ∧ W.cell? ⟨w.heap.size, 2, none⟩ = some (.bool false) ∧
       W.cell? ⟨w.heap.size + 1, 0, none⟩ = some (.slice A3 n3 c3) ∧ W.cell? ⟨w.heap.size + 1, 1, none⟩ = some (.slice A4 n4 c4) ∧ W.cell? ⟨w.heap.size + 1, 2, none⟩ = some (.bool true)) ∧ HP w w.heap.size (w.heap.size + 1) (w.heap.size + 1 + 1) 85 #[.slice A1 n1 c1, .slice A2 n2 c2, .bool false] #[.slice A3 n3 c3, .slice A4 n4 c4, .bool true] (.slice A1 n1 c1) (.slice A3 n3 c3) (.slice A2 n2 c2) x y d W)
      (first | exact ⟨HX.cells (HP.step HP0 (Below.drew (Below.refl _ _))).1, HP.step HP0 (Below.drew (Below.refl _ _))⟩ | (have hk9 := (And.right ‹_ ∧ HP _ _ _ _ _ _ _ _ _ _ _ _ _ _›); have hk8 := HP.step hk9 ‹_›; exact ⟨HX.cells hk8.1, hk8⟩) | (have hk9 := (And.right ‹_ ∧ HP _ _ _ _ _ _ _ _ _ _ _ _ _ _›); exact ⟨HX.cells (HP.put hk9 (by omega) (by omega) (by omega) _ _ _ (by simp [notInt])).1, HP.put hk9 (by omega) (by omega) (by omega) _ _ _ (by simp [notInt])⟩))
      (first
       | (go_at_call 101; refine (sub_calls _ (.slice A1 n1 c1) (.slice A3 n3 c3) x y ?_ ?_ ?_ ?_).mono ?_; exact ((And.right ‹_ ∧ HP _ _ _ _ _ _ _ _ _ _ _ _ _ _›)).2.1; exact ((And.right ‹_ ∧ HP _ _ _ _ _ _ _ _ _ _ _ _ _ _›)).2.2.1; omega; omega; rintro e w' ⟨v, rfl, hv, hb⟩)
       | (go_at_call 99; refine (reduced_q _ _ _ (x - y) (d) _ (q) HQ.out ?_ ?_ ?_ ?_ ?_).mono ?_; assumption; exact ((And.right ‹_ ∧ HP _ _ _ _ _ _ _ _ _ _ _ _ _ _›)).2.2.2; omega; omega; exact hd; rintro e w' ⟨v, rfl, hv, hb⟩; obtain ⟨A5, n5, c5, A6, n6, c6, rfl, hn5, hn6, h5, h6⟩ := hv.opened; clear hn5 hn6; obtain ⟨x3, y3, z3, hni3, hk3⟩ := HX.at3 (HP.step (And.right ‹_ ∧ HP _ _ _ _ _ _ _ _ _ _ _ _ _ _›) hb).1; have e0 := hk3.cell (j := 0) rfl; have e1 := hk3.cell (j := 1) rfl; have e2 := hk3.cell (j := 2) rfl; have f0 := hk3.frozen 0; have f1 := hk3.frozen 1; have f2 := hk3.frozen 2; have hb7 := HX.bel (HP.step (And.right ‹_ ∧ HP _ _ _ _ _ _ _ _ _ _ _ _ _ _›) hb).1))
     go_wp2_with fail
     exact ret85 Try.results72 rfl (hk3.put3 _ _ _) ⟨_, rfl, ⟨_, _, rfl, h5.out.put3 hk3 hni3 _ _ _, h6.out.put3 hk3 hni3 _ _ _⟩, below_put3 hb7 (by omega) _ _ _⟩
   | false =>
    have HQ : Hid (mkRat (sg false (x + y)) d = q) := by
     unfold Hid
     rw [HQE.out, HEA.out, HEB.out, plus_eq _ _ _ _ hd]
    have hwa := wlen_add x y
    go_wp2_with fail
    go_region_held3 (fun W => (W.cell? ⟨w.heap.size, 0, none⟩ = some (.slice A1 n1 c1) ∧ W.cell? ⟨w.heap.size, 1, none⟩ = some (.slice A2 n2 c2) ∧ W.cell? ⟨w.heap.size, 2, none⟩ = some (.bool false) ∧
       W.cell? ⟨w.heap.size + 1, 0, none⟩ = some (.slice A3 n3 c3) ∧ W.cell? ⟨w.heap.size + 1, 1, none⟩ = some (.slice A4 n4 c4) ∧ W.cell? ⟨w.heap.size + 1, 2, none⟩ = some (.bool false)) ∧ HP w w.heap.size (w.heap.size + 1) (w.heap.size + 1 + 1) 85 #[.slice A1 n1 c1, .slice A2 n2 c2, .bool false] #[.slice A3 n3 c3, .slice A4 n4 c4, .bool false] (.slice A1 n1 c1) (.slice A3 n3 c3) (.slice A2 n2 c2) x y d W)
     (first | exact ⟨HX.cells (HP.step HP0 (Below.drew (Below.refl _ _))).1, HP.step HP0 (Below.drew (Below.refl _ _))⟩ | (have hk9 := (And.right ‹_ ∧ HP _ _ _ _ _ _ _ _ _ _ _ _ _ _›); have hk8 := HP.step hk9 ‹_›; exact ⟨HX.cells hk8.1, hk8⟩) | (have hk9 := (And.right ‹_ ∧ HP _ _ _ _ _ _ _ _ _ _ _ _ _ _›); exact ⟨HX.cells (HP.put hk9 (by omega) (by omega) (by omega) _ _ _ (by simp [notInt])).1, HP.put hk9 (by omega) (by omega) (by omega) _ _ _ (by simp [notInt])⟩))
     (first
      | (go_at_call 100; refine (add_calls _ (.slice A1 n1 c1) (.slice A3 n3 c3) x y ?_ ?_ ?_ ?_).mono ?_; exact ((And.right ‹_ ∧ HP _ _ _ _ _ _ _ _ _ _ _ _ _ _›)).2.1; exact ((And.right ‹_ ∧ HP _ _ _ _ _ _ _ _ _ _ _ _ _ _›)).2.2.1; omega; omega; rintro e w' ⟨v, rfl, hv, hb⟩)
      | (go_at_call 99; refine (reduced_q _ _ _ (x + y) (d) _ (q) HQ.out ?_ ?_ ?_ ?_ ?_).mono ?_; assumption; exact ((And.right ‹_ ∧ HP _ _ _ _ _ _ _ _ _ _ _ _ _ _›)).2.2.2; omega; omega; exact hd; rintro e w' ⟨v, rfl, hv, hb⟩; obtain ⟨A5, n5, c5, A6, n6, c6, rfl, hn5, hn6, h5, h6⟩ := hv.opened; clear hn5 hn6; obtain ⟨x3, y3, z3, hni3, hk3⟩ := HX.at3 (HP.step (And.right ‹_ ∧ HP _ _ _ _ _ _ _ _ _ _ _ _ _ _›) hb).1; have e0 := hk3.cell (j := 0) rfl; have e1 := hk3.cell (j := 1) rfl; have e2 := hk3.cell (j := 2) rfl; have f0 := hk3.frozen 0; have f1 := hk3.frozen 1; have f2 := hk3.frozen 2; have hb7 := HX.bel (HP.step (And.right ‹_ ∧ HP _ _ _ _ _ _ _ _ _ _ _ _ _ _›) hb).1))
    go_wp2_with fail
    exact ret85 Try.results72 rfl (hk3.put3 _ _ _) ⟨_, rfl, ⟨_, _, rfl, h5.out.put3 hk3 hni3 _ _ _, h6.out.put3 hk3 hni3 _ _ _⟩, below_put3 hb7 (by omega) _ _ _⟩
 ·have hc0 : cmpI a.den b.den ≠ 0 := by unfold cmpI; rw [if_neg hde]; split <;> omega
  obtain ⟨ci, hci⟩ : ∃ ci, cmpI a.den b.den = ci := ⟨_, rfl⟩
  rw [hci] at hc0 ⊢
  have t0 : (ci != 0) = true := by simpa using hc0
  clear hci
  go_wp2_with fail
  go_region_held3 (fun W => (W.cell? ⟨w.heap.size, 0, none⟩ = some (.slice A1 n1 c1) ∧ W.cell? ⟨w.heap.size, 1, none⟩ = some (.slice A2 n2 c2) ∧ W.cell? ⟨w.heap.size, 2, none⟩ = some (.bool s1) ∧
   W.cell? ⟨w.heap.size + 1, 0, none⟩ = some (.slice A3 n3 c3) ∧ W.cell? ⟨w.heap.size + 1, 1, none⟩ = some (.slice A4 n4 c4) ∧ W.cell? ⟨w.heap.size + 1, 2, none⟩ = some (.bool s2)) ∧ HX w w.heap.size (w.heap.size + 1) (w.heap.size + 1 + 1) 85 #[.slice A1 n1 c1, .slice A2 n2 c2, .bool s1] #[.slice A3 n3 c3, .slice A4 n4 c4, .bool s2] W)
   (first | exact ⟨(HX.drew HX1).cells, HX.drew HX1⟩ | (have hk9 := (And.right ‹_ ∧ HX _ _ _ _ _ _ _ _›); have hk8 := HX.step hk9 ‹_›; exact ⟨hk8.cells, hk8⟩) | (have hk9 := (And.right ‹_ ∧ HX _ _ _ _ _ _ _ _›); exact ⟨HX.cells (HX.put hk9 (by omega) (by omega) (by omega) _ _ _ (by simp [notInt])), HX.put hk9 (by omega) (by omega) (by omega) _ _ _ (by simp [notInt])⟩))
   (first
    | (go_at_call_of 97 (Value.slice A1 n1 c1); refine (mul_calls _ (.slice A1 n1 c1) (.slice A4 n4 c4) a.num.natAbs b.den ?_ ?_ ?_ ?_).mono ?_; exact R1.out.of_below (HX.bel (And.right ‹_ ∧ HX _ _ _ _ _ _ _ _›)); exact R4.out.of_below (HX.bel (And.right ‹_ ∧ HX _ _ _ _ _ _ _ _›)); omega; omega; rintro e w' ⟨v, rfl, hvX, hbX⟩; obtain ⟨AX, cX, lX, eX, _, _, _⟩ := hvX.opened; subst eX)
    | (go_at_call_of 97 (Value.slice A3 n3 c3); refine (mul_calls _ (.slice A3 n3 c3) (.slice A2 n2 c2) b.num.natAbs a.den ?_ ?_ ?_ ?_).mono ?_; exact R3.out.of_below (HX.bel (And.right ‹_ ∧ HX _ _ _ _ _ _ _ _›)); exact R2.out.of_below (HX.bel (And.right ‹_ ∧ HX _ _ _ _ _ _ _ _›)); omega; omega; rintro e w' ⟨v, rfl, hvY, hbY⟩; obtain ⟨AY, cY, lY, eY, _, _, _⟩ := hvY.opened; subst eY)
    | (go_at_call_of 97 (Value.slice A2 n2 c2); refine (mul_calls _ (.slice A2 n2 c2) (.slice A4 n4 c4) a.den b.den ?_ ?_ ?_ ?_).mono ?_; exact R2.out.of_below (HX.bel (And.right ‹_ ∧ HX _ _ _ _ _ _ _ _›)); exact R4.out.of_below (HX.bel (And.right ‹_ ∧ HX _ _ _ _ _ _ _ _›)); omega; omega; rintro e w' ⟨v, rfl, hvD, hbD⟩; obtain ⟨AD, cD, lD, eD, _, _, _⟩ := hvD.opened; subst eD))
  have HX9 := And.right ‹_ ∧ HX _ _ _ _ _ _ _ _›
  obtain ⟨x, hx⟩ : ∃ x, x = a.num.natAbs * b.den := ⟨_, rfl⟩
  obtain ⟨y, hy⟩ : ∃ y, y = b.num.natAbs * a.den := ⟨_, rfl⟩
  obtain ⟨d, hd0⟩ : ∃ d, d = a.den * b.den := ⟨_, rfl⟩
  have hd : d ≠ 0 := by rw [hd0]; exact Nat.mul_ne_zero a.den_nz b.den_nz
  have HEA : Hid (a = mkRat (sg s1 x) d) := by unfold Hid; rw [HS1.out, hx, hd0]; exact scale_left a b.den b.den_nz
  have HEB : Hid (b = mkRat (sg s2 y) d) := by unfold Hid; rw [HS2.out, hy, hd0]; exact scale_right b a.den a.den_nz
  have lx : wlen x ≤ 8000000000 := by rw [hx]; omega
  have ly : wlen y ≤ 8000000000 := by rw [hy]; omega
  have ld : wlen d ≤ 8000000000 := by rw [hd0]; omega
  rw [← hx] at hvX
  rw [← hy] at hvY
  rw [← hd0] at hvD
  have HP0 := (show HP w w.heap.size (w.heap.size + 1) (w.heap.size + 1 + 1) 85 #[.slice A1 n1 c1, .slice A2 n2 c2, .bool s1] #[.slice A3 n3 c3, .slice A4 n4 c4, .bool s2] (.slice AX lX.length cX) (.slice AY lY.length cY) (.slice AD lD.length cD) x y d _ from
   ⟨HX9, (hvX.of_below hbY).of_below hbD, hvY.of_below hbD, hvD⟩)
  clear hx hy hd0 hde hc0 HX1 HX9 l5 l6 l7 hvX hvY hvD hbX hbY hbD k0 k1 k2 k3 k4 k5
  generalize hW1 : w' = W1 at *
  obtain ⟨k0, k1, k2, k3, k4, k5⟩ := HP0.1.cells
  cases s1 with
  | true =>
   cases s2 with
   | true =>
    have HQ : Hid (mkRat (sg true (x + y)) d = q) := by
     unfold Hid
     rw [HQE.out, HEA.out, HEB.out, plus_eq _ _ _ _ hd]
    have hwa := wlen_add x y
    go_wp2_with fail
    go_region_held3 (fun W => (W.cell? ⟨w.heap.size, 0, none⟩ = some (.slice A1 n1 c1) ∧ W.cell? ⟨w.heap.size, 1, none⟩ = some (.slice A2 n2 c2) ∧ W.cell? ⟨w.heap.size, 2, none⟩ = some (.bool true) ∧
       W.cell? ⟨w.heap.size + 1, 0, none⟩ = some (.slice A3 n3 c3) ∧ W.cell? ⟨w.heap.size + 1, 1, none⟩ = some (.slice A4 n4 c4) ∧ W.cell? ⟨w.heap.size + 1, 2, none⟩ = some (.bool true)) ∧ HP w w.heap.size (w.heap.size + 1) (w.heap.size + 1 + 1) 85 #[.slice A1 n1 c1, .slice A2 n2 c2, .bool true] #[.slice A3 n3 c3, .slice A4 n4 c4, .bool true] (.slice AX lX.length cX) (.slice AY lY.length cY) (.slice AD lD.length cD) x y d W)
     (first | exact ⟨HX.cells (HP.step HP0 (Below.drew (Below.refl _ _))).1, HP.step HP0 (Below.drew (Below.refl _ _))⟩ | (have hk9 := (And.right ‹_ ∧ HP _ _ _ _ _ _ _ _ _ _ _ _ _ _›); have hk8 := HP.step hk9 ‹_›; exact ⟨HX.cells hk8.1, hk8⟩) | (have hk9 := (And.right ‹_ ∧ HP _ _ _ _ _ _ _ _ _ _ _ _ _ _›); exact ⟨HX.cells (HP.put hk9 (by omega) (by omega) (by omega) _ _ _ (by simp [notInt])).1, HP.put hk9 (by omega) (by omega) (by omega) _ _ _ (by simp [notInt])⟩))
     (first
      | (go_at_call 100; refine (add_calls _ (.slice AX lX.length cX) (.slice AY lY.length cY) x y ?_ ?_ ?_ ?_).mono ?_; exact ((And.right ‹_ ∧ HP _ _ _ _ _ _ _ _ _ _ _ _ _ _›)).2.1; exact ((And.right ‹_ ∧ HP _ _ _ _ _ _ _ _ _ _ _ _ _ _›)).2.2.1; omega; omega; rintro e w' ⟨v, rfl, hv, hb⟩)
      | (go_at_call 99; refine (reduced_q _ _ _ (x + y) (d) _ (q) HQ.out ?_ ?_ ?_ ?_ ?_).mono ?_; assumption; exact ((And.right ‹_ ∧ HP _ _ _ _ _ _ _ _ _ _ _ _ _ _›)).2.2.2; omega; omega; exact hd; rintro e w' ⟨v, rfl, hv, hb⟩; obtain ⟨A5, n5, c5, A6, n6, c6, rfl, hn5, hn6, h5, h6⟩ := hv.opened; clear hn5 hn6; obtain ⟨x3, y3, z3, hni3, hk3⟩ := HX.at3 (HP.step (And.right ‹_ ∧ HP _ _ _ _ _ _ _ _ _ _ _ _ _ _›) hb).1; have e0 := hk3.cell (j := 0) rfl; have e1 := hk3.cell (j := 1) rfl; have e2 := hk3.cell (j := 2) rfl; have f0 := hk3.frozen 0; have f1 := hk3.frozen 1; have f2 := hk3.frozen 2; have hb7 := HX.bel (HP.step (And.right ‹_ ∧ HP _ _ _ _ _ _ _ _ _ _ _ _ _ _›) hb).1))
    go_wp2_with fail
    exact ret85 Try.results72 rfl (hk3.put3 _ _ _) ⟨_, rfl, ⟨_, _, rfl, h5.out.put3 hk3 hni3 _ _ _, h6.out.put3 hk3 hni3 _ _ _⟩, below_put3 hb7 (by omega) _ _ _⟩
   | false =>
    go_wp2_with fail
    refine (cmp_calls _ _ _ x y HP0.2.1 HP0.2.2.1 (by omega) (by omega)).mono ?_
    rintro e W2 ⟨rfl, hb2⟩
    have HP1 := HP0.step hb2
    clear HP0 k0 k1 k2 k3 k4 k5
    have HP0 := HP1
    clear hb2 HP1
    obtain ⟨k0, k1, k2, k3, k4, k5⟩ := HP0.1.cells
    by_cases hxy : x = y
    ·exact sq13 _
    by_cases hlt : x < y
    ·have hc : cmpI x y = -1 := by unfold cmpI; rw [if_neg hxy, if_pos hlt]
     rw [hc]
     have HQ : Hid (mkRat (sg false (y - x)) d = q) := by
      unfold Hid
      rw [HQE.out, HEA.out, HEB.out, plus_lt _ _ (by decide) _ _ _ hd (by omega)]
     have hwa := wlen_mono (Nat.sub_le y x)
     clear hc
     go_wp2_with fail
     go_region_held3 (fun W => (W.cell? ⟨w.heap.size, 0, none⟩ = some (.slice A1 n1 c1) ∧ W.cell? ⟨w.heap.size, 1, none⟩ = some (.slice A2 n2 c2) ∧ W.cell? ⟨w.heap.size, 2, none⟩ = some (.bool true) ∧
       W.cell? ⟨w.heap.size + 1, 0, none⟩ = some (.slice A3 n3 c3) ∧ W.cell? ⟨w.heap.size + 1, 1, none⟩ = some (.slice A4 n4 c4) ∧ W.cell? ⟨w.heap.size + 1, 2, none⟩ = some (.bool false)) ∧ HP w w.heap.size (w.heap.size + 1) (w.heap.size + 1 + 1) 85 #[.slice A1 n1 c1, .slice A2 n2 c2, .bool true] #[.slice A3 n3 c3, .slice A4 n4 c4, .bool false] (.slice AX lX.length cX) (.slice AY lY.length cY) (.slice AD lD.length cD) x y d W)
      (first | exact ⟨HX.cells (HP.step HP0 (Below.drew (Below.refl _ _))).1, HP.step HP0 (Below.drew (Below.refl _ _))⟩ | (have hk9 := (And.right ‹_ ∧ HP _ _ _ _ _ _ _ _ _ _ _ _ _ _›); have hk8 := HP.step hk9 ‹_›; exact ⟨HX.cells hk8.1, hk8⟩) | (have hk9 := (And.right ‹_ ∧ HP _ _ _ _ _ _ _ _ _ _ _ _ _ _›); exact ⟨HX.cells (HP.put hk9 (by omega) (by omega) (by omega) _ _ _ (by simp [notInt])).1, HP.put hk9 (by omega) (by omega) (by omega) _ _ _ (by simp [notInt])⟩))
      (first
       | (go_at_call 101; refine (sub_calls _ (.slice AY lY.length cY) (.slice AX lX.length cX) y x ?_ ?_ ?_ ?_).mono ?_; exact ((And.right ‹_ ∧ HP _ _ _ _ _ _ _ _ _ _ _ _ _ _›)).2.2.1; exact ((And.right ‹_ ∧ HP _ _ _ _ _ _ _ _ _ _ _ _ _ _›)).2.1; omega; omega; rintro e w' ⟨v, rfl, hv, hb⟩)
       | (go_at_call 99; refine (reduced_q _ _ _ (y - x) (d) _ (q) HQ.out ?_ ?_ ?_ ?_ ?_).mono ?_; assumption; exact ((And.right ‹_ ∧ HP _ _ _ _ _ _ _ _ _ _ _ _ _ _›)).2.2.2; omega; omega; exact hd; rintro e w' ⟨v, rfl, hv, hb⟩; obtain ⟨A5, n5, c5, A6, n6, c6, rfl, hn5, hn6, h5, h6⟩ := hv.opened; clear hn5 hn6; obtain ⟨x3, y3, z3, hni3, hk3⟩ := HX.at3 (HP.step (And.right ‹_ ∧ HP _ _ _ _ _ _ _ _ _ _ _ _ _ _›) hb).1; have e0 := hk3.cell (j := 0) rfl; have e1 := hk3.cell (j := 1) rfl; have e2 := hk3.cell (j := 2) rfl; have f0 := hk3.frozen 0; have f1 := hk3.frozen 1; have f2 := hk3.frozen 2; have hb7 := HX.bel (HP.step (And.right ‹_ ∧ HP _ _ _ _ _ _ _ _ _ _ _ _ _ _›) hb).1))
     go_wp2_with fail
     exact ret85 Try.results72 rfl (hk3.put3 _ _ _) ⟨_, rfl, ⟨_, _, rfl, h5.out.put3 hk3 hni3 _ _ _, h6.out.put3 hk3 hni3 _ _ _⟩, below_put3 hb7 (by omega) _ _ _⟩
    ·have hc : cmpI x y = 1 := by unfold cmpI; rw [if_neg hxy, if_neg hlt]
     rw [hc]
     have HQ : Hid (mkRat (sg true (x - y)) d = q) := by
      unfold Hid
      rw [HQE.out, HEA.out, HEB.out, plus_gt _ _ (by decide) _ _ _ hd (by omega)]
     have hwa := wlen_mono (Nat.sub_le x y)
     clear hc
     go_wp2_with fail
     go_region_held3 (fun W => (W.cell? ⟨w.heap.size, 0, none⟩ = some (.slice A1 n1 c1) ∧ W.cell? ⟨w.heap.size, 1, none⟩ = some (.slice A2 n2 c2) ∧ W.cell? ⟨w.heap.size, 2, none⟩ = some (.bool true) ∧
       W.cell? ⟨w.heap.size + 1, 0, none⟩ = some (.slice A3 n3 c3) ∧ W.cell? ⟨w.heap.size + 1, 1, none⟩ = some (.slice A4 n4 c4) ∧ W.cell? ⟨w.heap.size + 1, 2, none⟩ = some (.bool false)) ∧ HP w w.heap.size (w.heap.size + 1) (w.heap.size + 1 + 1) 85 #[.slice A1 n1 c1, .slice A2 n2 c2, .bool true] #[.slice A3 n3 c3, .slice A4 n4 c4, .bool false] (.slice AX lX.length cX) (.slice AY lY.length cY) (.slice AD lD.length cD) x y d W)
      (first | exact ⟨HX.cells (HP.step HP0 (Below.drew (Below.refl _ _))).1, HP.step HP0 (Below.drew (Below.refl _ _))⟩ | (have hk9 := (And.right ‹_ ∧ HP _ _ _ _ _ _ _ _ _ _ _ _ _ _›); have hk8 := HP.step hk9 ‹_›; exact ⟨HX.cells hk8.1, hk8⟩) | (have hk9 := (And.right ‹_ ∧ HP _ _ _ _ _ _ _ _ _ _ _ _ _ _›); exact ⟨HX.cells (HP.put hk9 (by omega) (by omega) (by omega) _ _ _ (by simp [notInt])).1, HP.put hk9 (by omega) (by omega) (by omega) _ _ _ (by simp [notInt])⟩))
      (first
       | (go_at_call 101; refine (sub_calls _ (.slice AX lX.length cX) (.slice AY lY.length cY) x y ?_ ?_ ?_ ?_).mono ?_; exact ((And.right ‹_ ∧ HP _ _ _ _ _ _ _ _ _ _ _ _ _ _›)).2.1; exact ((And.right ‹_ ∧ HP _ _ _ _ _ _ _ _ _ _ _ _ _ _›)).2.2.1; omega; omega; rintro e w' ⟨v, rfl, hv, hb⟩)
       | (go_at_call 99; refine (reduced_q _ _ _ (x - y) (d) _ (q) HQ.out ?_ ?_ ?_ ?_ ?_).mono ?_; assumption; exact ((And.right ‹_ ∧ HP _ _ _ _ _ _ _ _ _ _ _ _ _ _›)).2.2.2; omega; omega; exact hd; rintro e w' ⟨v, rfl, hv, hb⟩; obtain ⟨A5, n5, c5, A6, n6, c6, rfl, hn5, hn6, h5, h6⟩ := hv.opened; clear hn5 hn6; obtain ⟨x3, y3, z3, hni3, hk3⟩ := HX.at3 (HP.step (And.right ‹_ ∧ HP _ _ _ _ _ _ _ _ _ _ _ _ _ _›) hb).1; have e0 := hk3.cell (j := 0) rfl; have e1 := hk3.cell (j := 1) rfl; have e2 := hk3.cell (j := 2) rfl; have f0 := hk3.frozen 0; have f1 := hk3.frozen 1; have f2 := hk3.frozen 2; have hb7 := HX.bel (HP.step (And.right ‹_ ∧ HP _ _ _ _ _ _ _ _ _ _ _ _ _ _›) hb).1))
     go_wp2_with fail
     exact ret85 Try.results72 rfl (hk3.put3 _ _ _) ⟨_, rfl, ⟨_, _, rfl, h5.out.put3 hk3 hni3 _ _ _, h6.out.put3 hk3 hni3 _ _ _⟩, below_put3 hb7 (by omega) _ _ _⟩
  | false =>
   cases s2 with
   | true =>
    go_wp2_with fail
    refine (cmp_calls _ _ _ x y HP0.2.1 HP0.2.2.1 (by omega) (by omega)).mono ?_
    rintro e W2 ⟨rfl, hb2⟩
    have HP1 := HP0.step hb2
    clear HP0 k0 k1 k2 k3 k4 k5
    have HP0 := HP1
    clear hb2 HP1
    obtain ⟨k0, k1, k2, k3, k4, k5⟩ := HP0.1.cells
    by_cases hxy : x = y
    ·exact sq13 _
    by_cases hlt : x < y
    ·have hc : cmpI x y = -1 := by unfold cmpI; rw [if_neg hxy, if_pos hlt]
     rw [hc]
     have HQ : Hid (mkRat (sg true (y - x)) d = q) := by
      unfold Hid
      rw [HQE.out, HEA.out, HEB.out, plus_lt _ _ (by decide) _ _ _ hd (by omega)]
     have hwa := wlen_mono (Nat.sub_le y x)
     clear hc
     go_wp2_with fail
     go_region_held3 (fun W => (W.cell? ⟨w.heap.size, 0, none⟩ = some (.slice A1 n1 c1) ∧ W.cell? ⟨w.heap.size, 1, none⟩ = some (.slice A2 n2 c2) ∧ W.cell? ⟨w.heap.size, 2, none⟩ = some (.bool false) ∧
       W.cell? ⟨w.heap.size + 1, 0, none⟩ = some (.slice A3 n3 c3) ∧ W.cell? ⟨w.heap.size + 1, 1, none⟩ = some (.slice A4 n4 c4) ∧ W.cell? ⟨w.heap.size + 1, 2, none⟩ = some (.bool true)) ∧ HP w w.heap.size (w.heap.size + 1) (w.heap.size + 1 + 1) 85 #[.slice A1 n1 c1, .slice A2 n2 c2, .bool false] #[.slice A3 n3 c3, .slice A4 n4 c4, .bool true] (.slice AX lX.length cX) (.slice AY lY.length cY) (.slice AD lD.length cD) x y d W)
      (first | exact ⟨HX.cells (HP.step HP0 (Below.drew (Below.refl _ _))).1, HP.step HP0 (Below.drew (Below.refl _ _))⟩ | (have hk9 := (And.right ‹_ ∧ HP _ _ _ _ _ _ _ _ _ _ _ _ _ _›); have hk8 := HP.step hk9 ‹_›; exact ⟨HX.cells hk8.1, hk8⟩) | (have hk9 := (And.right ‹_ ∧ HP _ _ _ _ _ _ _ _ _ _ _ _ _ _›); exact ⟨HX.cells (HP.put hk9 (by omega) (by omega) (by omega) _ _ _ (by simp [notInt])).1, HP.put hk9 (by omega) (by omega) (by omega) _ _ _ (by simp [notInt])⟩))
      (first
       | (go_at_call 101; refine (sub_calls _ (.slice AY lY.length cY) (.slice AX lX.length cX) y x ?_ ?_ ?_ ?_).mono ?_; exact ((And.right ‹_ ∧ HP _ _ _ _ _ _ _ _ _ _ _ _ _ _›)).2.2.1; exact ((And.right ‹_ ∧ HP _ _ _ _ _ _ _ _ _ _ _ _ _ _›)).2.1; omega; omega; rintro e w' ⟨v, rfl, hv, hb⟩)
       | (go_at_call 99; refine (reduced_q _ _ _ (y - x) (d) _ (q) HQ.out ?_ ?_ ?_ ?_ ?_).mono ?_; assumption; exact ((And.right ‹_ ∧ HP _ _ _ _ _ _ _ _ _ _ _ _ _ _›)).2.2.2; omega; omega; exact hd; rintro e w' ⟨v, rfl, hv, hb⟩; obtain ⟨A5, n5, c5, A6, n6, c6, rfl, hn5, hn6, h5, h6⟩ := hv.opened; clear hn5 hn6; obtain ⟨x3, y3, z3, hni3, hk3⟩ := HX.at3 (HP.step (And.right ‹_ ∧ HP _ _ _ _ _ _ _ _ _ _ _ _ _ _›) hb).1; have e0 := hk3.cell (j := 0) rfl; have e1 := hk3.cell (j := 1) rfl; have e2 := hk3.cell (j := 2) rfl; have f0 := hk3.frozen 0; have f1 := hk3.frozen 1; have f2 := hk3.frozen 2; have hb7 := HX.bel (HP.step (And.right ‹_ ∧ HP _ _ _ _ _ _ _ _ _ _ _ _ _ _›) hb).1))
     go_wp2_with fail
     exact ret85 Try.results72 rfl (hk3.put3 _ _ _) ⟨_, rfl, ⟨_, _, rfl, h5.out.put3 hk3 hni3 _ _ _, h6.out.put3 hk3 hni3 _ _ _⟩, below_put3 hb7 (by omega) _ _ _⟩
    ·have hc : cmpI x y = 1 := by unfold cmpI; rw [if_neg hxy, if_neg hlt]
     rw [hc]
     have HQ : Hid (mkRat (sg false (x - y)) d = q) := by
      unfold Hid
      rw [HQE.out, HEA.out, HEB.out, plus_gt _ _ (by decide) _ _ _ hd (by omega)]
     have hwa := wlen_mono (Nat.sub_le x y)
     clear hc
     go_wp2_with fail
     go_region_held3 (fun W => (W.cell? ⟨w.heap.size, 0, none⟩ = some (.slice A1 n1 c1) ∧ W.cell? ⟨w.heap.size, 1, none⟩ = some (.slice A2 n2 c2) ∧ W.cell? ⟨w.heap.size, 2, none⟩ = some (.bool false) ∧
       W.cell? ⟨w.heap.size + 1, 0, none⟩ = some (.slice A3 n3 c3) ∧ W.cell? ⟨w.heap.size + 1, 1, none⟩ = some (.slice A4 n4 c4) ∧ W.cell? ⟨w.heap.size + 1, 2, none⟩ = some (.bool true)) ∧ HP w w.heap.size (w.heap.size + 1) (w.heap.size + 1 + 1) 85 #[.slice A1 n1 c1, .slice A2 n2 c2, .bool false] #[.slice A3 n3 c3, .slice A4 n4 c4, .bool true] (.slice AX lX.length cX) (.slice AY lY.length cY) (.slice AD lD.length cD) x y d W)
      (first | exact ⟨HX.cells (HP.step HP0 (Below.drew (Below.refl _ _))).1, HP.step HP0 (Below.drew (Below.refl _ _))⟩ | (have hk9 := (And.right ‹_ ∧ HP _ _ _ _ _ _ _ _ _ _ _ _ _ _›); have hk8 := HP.step hk9 ‹_›; exact ⟨HX.cells hk8.1, hk8⟩) | (have hk9 := (And.right ‹_ ∧ HP _ _ _ _ _ _ _ _ _ _ _ _ _ _›); exact ⟨HX.cells (HP.put hk9 (by omega) (by omega) (by omega) _ _ _ (by simp [notInt])).1, HP.put hk9 (by omega) (by omega) (by omega) _ _ _ (by simp [notInt])⟩))
      (first
       | (go_at_call 101; refine (sub_calls _ (.slice AX lX.length cX) (.slice AY lY.length cY) x y ?_ ?_ ?_ ?_).mono ?_; exact ((And.right ‹_ ∧ HP _ _ _ _ _ _ _ _ _ _ _ _ _ _›)).2.1; exact ((And.right ‹_ ∧ HP _ _ _ _ _ _ _ _ _ _ _ _ _ _›)).2.2.1; omega; omega; rintro e w' ⟨v, rfl, hv, hb⟩)
       | (go_at_call 99; refine (reduced_q _ _ _ (x - y) (d) _ (q) HQ.out ?_ ?_ ?_ ?_ ?_).mono ?_; assumption; exact ((And.right ‹_ ∧ HP _ _ _ _ _ _ _ _ _ _ _ _ _ _›)).2.2.2; omega; omega; exact hd; rintro e w' ⟨v, rfl, hv, hb⟩; obtain ⟨A5, n5, c5, A6, n6, c6, rfl, hn5, hn6, h5, h6⟩ := hv.opened; clear hn5 hn6; obtain ⟨x3, y3, z3, hni3, hk3⟩ := HX.at3 (HP.step (And.right ‹_ ∧ HP _ _ _ _ _ _ _ _ _ _ _ _ _ _›) hb).1; have e0 := hk3.cell (j := 0) rfl; have e1 := hk3.cell (j := 1) rfl; have e2 := hk3.cell (j := 2) rfl; have f0 := hk3.frozen 0; have f1 := hk3.frozen 1; have f2 := hk3.frozen 2; have hb7 := HX.bel (HP.step (And.right ‹_ ∧ HP _ _ _ _ _ _ _ _ _ _ _ _ _ _›) hb).1))
     go_wp2_with fail
     exact ret85 Try.results72 rfl (hk3.put3 _ _ _) ⟨_, rfl, ⟨_, _, rfl, h5.out.put3 hk3 hni3 _ _ _, h6.out.put3 hk3 hni3 _ _ _⟩, below_put3 hb7 (by omega) _ _ _⟩
   | false =>
    have HQ : Hid (mkRat (sg false (x + y)) d = q) := by
     unfold Hid
     rw [HQE.out, HEA.out, HEB.out, plus_eq _ _ _ _ hd]
    have hwa := wlen_add x y
    go_wp2_with fail
    go_region_held3 (fun W => (W.cell? ⟨w.heap.size, 0, none⟩ = some (.slice A1 n1 c1) ∧ W.cell? ⟨w.heap.size, 1, none⟩ = some (.slice A2 n2 c2) ∧ W.cell? ⟨w.heap.size, 2, none⟩ = some (.bool false) ∧
       W.cell? ⟨w.heap.size + 1, 0, none⟩ = some (.slice A3 n3 c3) ∧ W.cell? ⟨w.heap.size + 1, 1, none⟩ = some (.slice A4 n4 c4) ∧ W.cell? ⟨w.heap.size + 1, 2, none⟩ = some (.bool false)) ∧ HP w w.heap.size (w.heap.size + 1) (w.heap.size + 1 + 1) 85 #[.slice A1 n1 c1, .slice A2 n2 c2, .bool false] #[.slice A3 n3 c3, .slice A4 n4 c4, .bool false] (.slice AX lX.length cX) (.slice AY lY.length cY) (.slice AD lD.length cD) x y d W)
     (first | exact ⟨HX.cells (HP.step HP0 (Below.drew (Below.refl _ _))).1, HP.step HP0 (Below.drew (Below.refl _ _))⟩ | (have hk9 := (And.right ‹_ ∧ HP _ _ _ _ _ _ _ _ _ _ _ _ _ _›); have hk8 := HP.step hk9 ‹_›; exact ⟨HX.cells hk8.1, hk8⟩) | (have hk9 := (And.right ‹_ ∧ HP _ _ _ _ _ _ _ _ _ _ _ _ _ _›); exact ⟨HX.cells (HP.put hk9 (by omega) (by omega) (by omega) _ _ _ (by simp [notInt])).1, HP.put hk9 (by omega) (by omega) (by omega) _ _ _ (by simp [notInt])⟩))
     (first
      | (go_at_call 100; refine (add_calls _ (.slice AX lX.length cX) (.slice AY lY.length cY) x y ?_ ?_ ?_ ?_).mono ?_; exact ((And.right ‹_ ∧ HP _ _ _ _ _ _ _ _ _ _ _ _ _ _›)).2.1; exact ((And.right ‹_ ∧ HP _ _ _ _ _ _ _ _ _ _ _ _ _ _›)).2.2.1; omega; omega; rintro e w' ⟨v, rfl, hv, hb⟩)
      | (go_at_call 99; refine (reduced_q _ _ _ (x + y) (d) _ (q) HQ.out ?_ ?_ ?_ ?_ ?_).mono ?_; assumption; exact ((And.right ‹_ ∧ HP _ _ _ _ _ _ _ _ _ _ _ _ _ _›)).2.2.2; omega; omega; exact hd; rintro e w' ⟨v, rfl, hv, hb⟩; obtain ⟨A5, n5, c5, A6, n6, c6, rfl, hn5, hn6, h5, h6⟩ := hv.opened; clear hn5 hn6; obtain ⟨x3, y3, z3, hni3, hk3⟩ := HX.at3 (HP.step (And.right ‹_ ∧ HP _ _ _ _ _ _ _ _ _ _ _ _ _ _›) hb).1; have e0 := hk3.cell (j := 0) rfl; have e1 := hk3.cell (j := 1) rfl; have e2 := hk3.cell (j := 2) rfl; have f0 := hk3.frozen 0; have f1 := hk3.frozen 1; have f2 := hk3.frozen 2; have hb7 := HX.bel (HP.step (And.right ‹_ ∧ HP _ _ _ _ _ _ _ _ _ _ _ _ _ _›) hb).1))
    go_wp2_with fail
    exact ret85 Try.results72 rfl (hk3.put3 _ _ _) ⟨_, rfl, ⟨_, _, rfl, h5.out.put3 hk3 hni3 _ _ _, h6.out.put3 hk3 hni3 _ _ _⟩, below_put3 hb7 (by omega) _ _ _⟩
def capQ (q : Rat) : Rat := if sizeQ q ≤ 4096 then q else 0
def FPost (w : World) (q : Rat) (e : Ending) (w' : World) : Prop := ∃ v, e = .returned v ∧ FQ w' v q ∧ Below w.heap.size w w'
theorem fq_zero {w : World} {v : Value} (h : RN w v 1) : FQ w (.agg #[.bool false, .slice none 0 0, v]) 0 := ⟨_, _, rfl, Rd.nil _, h⟩
def HT (w : World) (g1 g3 t3 : Nat) (cs1 : Array Value) (W : World) : Prop := Blk W g1 85 cs1 ∧ (∃ x y z, (∀ u ∈ #[x, y, z], notInt u = true) ∧ Blk W g3 t3 #[x, y, z]) ∧ Below w.heap.size w W
theorem HT.step {w W W' : World} {g1 g3 t3 : Nat} {cs1 : Array Value} (h : HT w g1 g3 t3 cs1 W) (hb : Below W.heap.size W W') : HT w g1 g3 t3 cs1 W' := by
 obtain ⟨h1, ⟨x, y, z, hn, h3⟩, h4⟩ := h
 exact ⟨h1.below hb h1.lt, ⟨x, y, z, hn, h3.below hb h3.lt⟩, h4.trans (hb.mono h4.size)⟩
theorem HT.put {w W : World} {g1 g3 t3 : Nat} {cs1 : Array Value} (h : HT w g1 g3 t3 cs1 W) (h13 : g1 ≠ g3) (hg : w.heap.size ≤ g3) (x y z : Value) (hn : ∀ u ∈ #[x, y, z], notInt u = true) :
  HT w g1 g3 t3 cs1 (((W.setCell ⟨g3, 0, none⟩ x).setCell ⟨g3, 1, none⟩ y).setCell ⟨g3, 2, none⟩ z) := by
 obtain ⟨h1, ⟨_, _, _, _, h3⟩, h4⟩ := h
 exact ⟨((h1.other (a := ⟨g3, 0, none⟩) h13 x).other (a := ⟨g3, 1, none⟩) h13 y).other (a := ⟨g3, 2, none⟩) h13 z, ⟨x, y, z, hn, h3.put3 x y z⟩, below_put3 h4 hg x y z⟩
theorem HT.cells {w W : World} {g1 g3 t3 : Nat} {a b c : Value} (h : HT w g1 g3 t3 #[a, b, c] W) : W.cell? ⟨g1, 0, none⟩ = some a ∧ W.cell? ⟨g1, 1, none⟩ = some b ∧ W.cell? ⟨g1, 2, none⟩ = some c := ⟨h.1.cell rfl, h.1.cell rfl, h.1.cell rfl⟩
theorem HT.bel {w W : World} {g1 g3 t3 : Nat} {cs1 : Array Value} (h : HT w g1 g3 t3 cs1 W) : Below w.heap.size w W := h.2.2
theorem HT.start (w : World) (t3 : Nat) (cs1 cs3 : Array Value) (x y z : Value) (h3 : cs3 = #[x, y, z]) (hn : ∀ u ∈ #[x, y, z], notInt u = true) :
  HT w w.heap.size (w.heap.size + 1) t3 cs1 ((w.alloc (.cells cs1 85)).alloc (.cells cs3 t3)) := by
 subst h3
 have k3 := Blk.new (w.alloc (.cells cs1 85)) t3 #[x, y, z]
 rw [size_alloc] at k3
 exact ⟨(Blk.new w 85 cs1).alloc _, ⟨x, y, z, hn, k3⟩, below_step (below_new w _) (Nat.le_refl _) _⟩
theorem own_rn (w : World) (v : Value) (n : Nat) (h : RN w v n) (hn : wlen n ≤ 1000000000000) : Calls Try.prog 102 #[v] w fun e w' => WPost w n e w' :=
 (own_calls w v (dg n) h hn).mono fun _ _ ⟨v, he, hr, hb⟩ => ⟨v, he, hr, hb⟩
theorem told_calls (w : World) (v : Value) (q : Rat) (h : RQ w v q) (hq : sizeQ q ≤ 4000000000) :
  Calls Try.prog 73 #[v] w fun e w' => FPost w (capQ q) e w' := by
 obtain ⟨A1, n1, c1, A2, n2, c2, rfl, hn1, hn2, R1, R2⟩ := h.opened
 clear h
 obtain ⟨s1, hs1⟩ : ∃ s1, s1 = negQ q := ⟨_, rfl⟩
 rw [← hs1]
 have HS1 := Hd hs1
 have hnn : n1 + n2 = sizeQ q := by rw [hn1, hn2]; rfl
 have HNN := Hd hnn
 have HN1 := Hd hn1
 have HN2 := Hd hn2
 clear hs1 hn1 hn2
 go_enter Try.func73, Try.ntmps73
 have wl : IntKind.i64.wrap ((n1 : Int) + (n2 : Int)) = (n1 : Int) + (n2 : Int) := IntWalk.i64_in _ (by omega)
 by_cases hbig : sizeQ q ≤ 4096
 ·have t1 : decide ((n1 : Int) + (n2 : Int) > 4096) = false := decide_eq_false (by omega)
  have hcap : capQ q = q := by unfold capQ; rw [if_pos hbig]
  rw [hcap]
  clear hnn hbig hcap
  go_wp2_with fail
  have HT0 := HT.start w 40 #[.slice A1 n1 c1, .slice A2 n2 c2, .bool s1] #[.bool false, .slice none 0 0, .slice none 0 0] _ _ _ rfl ni40
  generalize (w.alloc (.cells #[.slice A1 n1 c1, .slice A2 n2 c2, .bool s1] 85)).alloc (.cells #[.bool false, .slice none 0 0, .slice none 0 0] 40) = W0 at *
  have l1 : wlen q.num.natAbs ≤ 4000000000 := by unfold sizeQ at hq; omega
  have l2 : wlen q.den ≤ 4000000000 := by unfold sizeQ at hq; omega
  go_region_held3 (fun W => (W.cell? ⟨w.heap.size, 0, none⟩ = some (.slice A1 n1 c1) ∧ W.cell? ⟨w.heap.size, 1, none⟩ = some (.slice A2 n2 c2) ∧ W.cell? ⟨w.heap.size, 2, none⟩ = some (.bool s1)) ∧ HT w w.heap.size (w.heap.size + 1) 40 #[.slice A1 n1 c1, .slice A2 n2 c2, .bool s1] W)
   (first | exact ⟨HT.cells (HT.step HT0 (Below.drew (Below.refl _ _))), HT.step HT0 (Below.drew (Below.refl _ _))⟩ | (have hk9 := (And.right ‹_ ∧ HT _ _ _ _ _ _›); have hk8 := HT.step hk9 ‹_›; exact ⟨HT.cells hk8, hk8⟩) | (have hk9 := (And.right ‹_ ∧ HT _ _ _ _ _ _›); exact ⟨HT.cells (HT.put hk9 (by omega) (by omega) _ _ _ (by simp [notInt])), HT.put hk9 (by omega) (by omega) _ _ _ (by simp [notInt])⟩))
   (first
    | (go_at_call_of 102 (Value.slice A1 n1 c1); refine (own_rn _ (.slice A1 n1 c1) q.num.natAbs ?_ ?_).mono ?_; exact R1.out.of_below (HT.bel (And.right ‹_ ∧ HT _ _ _ _ _ _›)); omega; rintro e w' ⟨v, rfl, hvX, hbX⟩; obtain ⟨AX, cX, lX, eX, _, _, _⟩ := hvX.opened; subst eX)
    | (go_at_call_of 102 (Value.slice A2 n2 c2); refine (own_rn _ (.slice A2 n2 c2) q.den ?_ ?_).mono ?_; exact R2.out.of_below (HT.bel (And.right ‹_ ∧ HT _ _ _ _ _ _›)); omega; rintro e w' ⟨v, rfl, hvY, hbY⟩; obtain ⟨AY, cY, lY, eY, _, _, _⟩ := hvY.opened; subst eY; obtain ⟨x3, y3, z3, hni3, hk3⟩ := (HT.step (And.right ‹_ ∧ HT _ _ _ _ _ _›) hbY).2.1; have e0 := hk3.cell (j := 0) rfl; have e1 := hk3.cell (j := 1) rfl; have e2 := hk3.cell (j := 2) rfl; have f0 := hk3.frozen 0; have f1 := hk3.frozen 1; have f2 := hk3.frozen 2; have hb7 := HT.bel (HT.step (And.right ‹_ ∧ HT _ _ _ _ _ _›) hbY)))
  go_wp2_with fail
  exact ret40 Try.results73 rfl (hk3.put3 _ _ _) ⟨_, rfl, ⟨_, _, by rw [HS1.out], (hvX.of_below hbY).put3 hk3 hni3 _ _ _, hvY.put3 hk3 hni3 _ _ _⟩, below_put3 hb7 (by omega) _ _ _⟩
 ·have t1 : decide ((n1 : Int) + (n2 : Int) > 4096) = true := decide_eq_true (by omega)
  have hcap : capQ q = 0 := by unfold capQ; rw [if_neg hbig]
  rw [hcap]
  clear hnn hbig hcap
  go_wp2_with fail
  have k := (Blk.new (w.alloc (.cells #[.slice A1 n1 c1, .slice A2 n2 c2, .bool s1] 85)) 40 #[.bool false, .slice none 0 0, .slice (some ⟨w.heap.size + 1 + 1, 0, none⟩) 1 1]).alloc (.cells #[.int .u32 1] 103)
  have ho := rn_one ((w.alloc (.cells #[.slice A1 n1 c1, .slice A2 n2 c2, .bool s1] 85)).alloc (.cells #[.bool false, .slice none 0 0, .slice (some ⟨w.heap.size + 1 + 1, 0, none⟩) 1 1] 40)) 103
  rw [size_alloc] at k
  rw [size_alloc, size_alloc] at ho
  exact ret40 Try.results73 rfl k ⟨_, rfl, fq_zero ho, below_step (below_step (below_new w _) (Nat.le_refl _) _) (Nat.le_refl _) _⟩
structure RawF where
 neg : Bool
 num : List Nat
 den : List Nat
def FR (w : World) (v : Value) (f : RawF) : Prop := (f.num.length ≤ 1000000000 ∧ f.den.length ≤ 1000000000) ∧ ∃ v1 v2, v = .agg #[.bool f.neg, v1, v2] ∧ Rd w v1 f.num ∧ Rd w v2 f.den
def rawQ (q : Rat) : RawF := ⟨negQ q, dg q.num.natAbs, dg q.den⟩
def RightF (f : RawF) : Prop := ∃ q, sizeQ q ≤ 4096 ∧ f = rawQ q
theorem rawQ_inj {p q : Rat} (h : rawQ p = rawQ q) : p = q := by
 unfold rawQ at h
 injection h with h1 h2 h3
 rw [← mk_self p, ← mk_self q, h1, dg_inj h2, dg_inj h3]
open Classical in
noncomputable def fixQ (f : RawF) : Rat := if h : RightF f then h.choose else 0
theorem fixQ_raw (q : Rat) (h : sizeQ q ≤ 4096) : fixQ (rawQ q) = q := by
 have hr : RightF (rawQ q) := ⟨q, h, rfl⟩
 unfold fixQ
 rw [dif_pos hr]
 exact (rawQ_inj hr.choose_spec.2).symm
theorem fixQ_wrong {f : RawF} (h : ¬ RightF f) : fixQ f = 0 := by unfold fixQ; rw [dif_neg h]
theorem sizeQ_zero : sizeQ 0 = 1 := by unfold sizeQ; decide +kernel
theorem sizeQ_fix (f : RawF) : sizeQ (fixQ f) ≤ 4096 := by
 unfold fixQ
 split
 ·rename_i h; exact h.choose_spec.1
 ·rw [sizeQ_zero]; decide
theorem right_raw {f : RawF} (h : RightF f) : f = rawQ (fixQ f) := by
 unfold fixQ
 rw [dif_pos h]
 exact h.choose_spec.2
theorem FR.of_fq {w : World} {v : Value} {q : Rat} (h : FQ w v q) (hs : sizeQ q ≤ 4096) : FR w v (rawQ q) := ⟨by unfold sizeQ wlen at hs; unfold rawQ; simp only; omega, h⟩
theorem FR.of_below {w w1 : World} {v : Value} {f : RawF} (h : FR w v f) (hb : Below w.heap.size w w1) : FR w1 v f := by
 obtain ⟨hl, v1, v2, e, h1, h2⟩ := h
 exact ⟨hl, v1, v2, e, h1.below hb, h2.below hb⟩
theorem FR.opened {w : World} {v : Value} {f : RawF} (h : FR w v f) : ∃ A1 n1 c1 A2 n2 c2, v = .agg #[.bool f.neg, .slice A1 n1 c1, .slice A2 n2 c2] ∧ Hid (FR w (.agg #[.bool f.neg, .slice A1 n1 c1, .slice A2 n2 c2]) f) := by
 have h0 := h
 obtain ⟨hl, v1, v2, rfl, h1, h2⟩ := h
 obtain ⟨A1, c1, rfl, _⟩ := h1.slice
 obtain ⟨A2, c2, rfl, _⟩ := h2.slice
 exact ⟨A1, _, c1, A2, _, c2, rfl, h0⟩
theorem FQ.opened {w : World} {v : Value} {q : Rat} (h : FQ w v q) : ∃ A1 n1 c1 A2 n2 c2, v = .agg #[.bool (negQ q), .slice A1 n1 c1, .slice A2 n2 c2] ∧ Hid (FQ w (.agg #[.bool (negQ q), .slice A1 n1 c1, .slice A2 n2 c2]) q) := by
 have h0 := h
 obtain ⟨v1, v2, rfl, h1, h2⟩ := h
 obtain ⟨A1, c1, rfl, _⟩ := Rd.slice h1
 obtain ⟨A2, c2, rfl, _⟩ := Rd.slice h2
 exact ⟨A1, _, c1, A2, _, c2, rfl, h0⟩
theorem den_words {q : Rat} : dg q.den ≠ [] := fun h => q.den_nz (dg_nil.1 h)
theorem rightF_den {f : RawF} (h : RightF f) : f.den ≠ [] ∧ f.num.length + f.den.length ≤ 4096 ∧ nat f.den (f.den.length - 1) ≠ 0 := by
 obtain ⟨q, hs, rfl⟩ := h
 exact ⟨den_words, hs, dg_top _ q.den_nz⟩
theorem rightF_zero {f : RawF} (h : RightF f) (h0 : f.num = []) : valN f.den = 1 ∧ f.neg = false := by
 obtain ⟨q, hs, rfl⟩ := h
 have hz : q.num = 0 := Int.natAbs_eq_zero.1 (dg_nil.1 h0)
 have hq : q = 0 := Rat.num_eq_zero.1 hz
 subst hq
 exact ⟨by show valN (dg _) = 1; rw [valN_dg]; rfl, rfl⟩
theorem rightF_num {f : RawF} (h : RightF f) (h0 : f.num ≠ []) : nat f.num (f.num.length - 1) ≠ 0 ∧ Nat.gcd (valN f.num) (valN f.den) = 1 := by
 obtain ⟨q, hs, rfl⟩ := h
 have hz : q.num.natAbs ≠ 0 := fun h => h0 (dg_nil.2 h)
 refine ⟨dg_top _ hz, ?_⟩
 show Nat.gcd (valN (dg _)) (valN (dg _)) = 1
 rw [valN_dg, valN_dg]
 exact q.reduced
theorem rightF_mk0 {f : RawF} (h1 : nat f.den (f.den.length - 1) ≠ 0) (h2 : f.num = []) (hd : Wd f.den) (h3 : valN f.den = 1) (h4 : f.neg = false) : RightF f := by
 obtain ⟨s, xs, ys⟩ := f
 simp only at h1 h2 hd h3 h4
 subst h2 h4
 refine ⟨0, by rw [sizeQ_zero]; decide, ?_⟩
 have := canon hd (.inr h1)
 rw [h3] at this
 subst this
 rfl
theorem rightF_mk {f : RawF} (hl : f.num.length + f.den.length ≤ 4096) (hd0 : f.den ≠ []) (h1 : nat f.den (f.den.length - 1) ≠ 0) (h2 : nat f.num (f.num.length - 1) ≠ 0) (hn : Wd f.num) (hd : Wd f.den) (hn0 : f.num ≠ []) (hg : Nat.gcd (valN f.num) (valN f.den) = 1) : RightF f := by
 obtain ⟨s, xs, ys⟩ := f
 simp only at *
 have e1 := canon hn (.inr h2)
 have e2 := canon hd (.inr h1)
 have m0 : valN xs ≠ 0 := fun h => hn0 (by rw [e1, h]; rfl)
 have n0 : valN ys ≠ 0 := fun h => hd0 (by rw [e2, h]; rfl)
 have hr : rawQ (mkRat (sg s (valN xs)) (valN ys)) = ⟨s, xs, ys⟩ := by
  unfold rawQ
  rw [mk_neg s _ _ n0 m0, mk_num s _ _ n0, mk_den s _ _ n0, hg, Nat.div_one, Nat.div_one, sg_natAbs, ← e1, ← e2]
 refine ⟨_, ?_, hr.symm⟩
 have h5 := hr
 unfold rawQ at h5
 injection h5 with h6 h7 h8
 unfold sizeQ wlen
 rw [h7, h8]
 exact hl
open Classical in
noncomputable def rightB (f : RawF) : Bool := decide (RightF f)
theorem rightB_true {f : RawF} (h : RightF f) : rightB f = true := by unfold rightB; simp [h]
theorem rightB_false {f : RawF} (h : ¬ RightF f) : rightB f = false := by unfold rightB; simp [h]
def BPost (w : World) (b : Bool) (e : Ending) (w' : World) : Prop := e = .returned (.bool b) ∧ Below w.heap.size w w'
def IPost (w : World) (n : Int) (e : Ending) (w' : World) : Prop := e = .returned (.int .i64 n) ∧ Below w.heap.size w w'
theorem bcell {W w1 : World} (hb : Below W.heap.size W w1) : (∀ b o, b < W.heap.size → w1.cell? ⟨b, o, none⟩ = W.cell? ⟨b, o, none⟩) ∧ (∀ b o, b < W.heap.size → w1.frozen? ⟨b, o, none⟩ = W.frozen? ⟨b, o, none⟩) :=
 ⟨fun b o h => hb.cell (p := ⟨b, o, none⟩) h, fun b o h => hb.frozen (p := ⟨b, o, none⟩) h⟩
theorem eqb0 {n : Nat} (h : n = 0) : ((n : Int) == 0) = true := by subst h; rfl
theorem neb0 {n : Nat} (h : n ≠ 0) : ((n : Int) == 0) = false := by
 have : (n : Int) ≠ 0 := by omega
 simpa using this
theorem Rd.at_ {w : World} {A : Option Addr} {c : Nat} {xs : List Nat} (h : Rd w (.slice A xs.length c) xs) (hp : 0 < xs.length) : ∃ g o, A = some ⟨g, o, none⟩ ∧ g < w.heap.size ∧ w.cell? ⟨g, o + (xs.length - 1), none⟩ = some (.int .u32 (nat xs (xs.length - 1) : Nat)) :=
 h.cell (by omega)
theorem right_calls (w : World) (v : Value) (f : RawF) (h : FR w v f) :
  Calls Try.prog 86 #[v] w fun e w' => BPost w (rightB f) e w' := by
 obtain ⟨⟨hl, hl2⟩, v1, v2, rfl, h1, h2⟩ := h
 obtain ⟨A1, c1, rfl, hc1⟩ := h1.slice
 obtain ⟨A2, c2, rfl, hc2⟩ := h2.slice
 obtain ⟨s, xs, ys⟩ := f
 simp only at *
 have R1 := Hd h1
 have R2 := Hd h2
 clear h1 h2
 go_enter Try.func86, Try.ntmps86
 go_wp2_with fail
 go_quiet (fail)
 have HB := Hd (pw_drewN (below_new w (.cells #[.bool s, .slice A1 xs.length c1, .slice A2 ys.length c2] 40)) nq)
 by_cases d0 : ys.length = 0
 ·have q0 := eqb0 d0
  have HR := Hd (rightB_false (f := ⟨s, xs, ys⟩) fun h => (rightF_den h).1 (List.eq_nil_of_length_eq_zero d0))
  clear d0
  go_wp2_with fail
  go_ret
  exact ⟨by rw [HR.out]; rfl, pw_drewN (below_new w _) _⟩
 have q0 := neb0 d0
 have wl : IntKind.i64.wrap ((xs.length : Int) + (ys.length : Int)) = (xs.length : Int) + (ys.length : Int) := IntWalk.i64_in _ (by omega)
 by_cases d1 : 4096 < xs.length + ys.length
 ·have q1 : decide ((xs.length : Int) + (ys.length : Int) > 4096) = true := decide_eq_true (by omega)
  have HR := Hd (rightB_false (f := ⟨s, xs, ys⟩) fun h => by have h1 := (rightF_den h).2.1; simp only at h1; omega)
  clear d0 d1
  go_wp2_with fail
  go_ret
  exact ⟨by rw [HR.out]; rfl, pw_drewN (below_new w _) _⟩
 have q1 : decide ((xs.length : Int) + (ys.length : Int) > 4096) = false := decide_eq_false (by omega)
 obtain ⟨g2, o2, rfl, hg2, hcell2⟩ := R2.out.at_ (by omega)
 have n2 : ((ys.length : Int) - 1).toNat = ys.length - 1 := by omega
 have n3 : 0 ≤ (ys.length : Int) - 1 := by omega
 have n4 : (ys.length : Int) - 1 < (ys.length : Int) := by omega
 have nw : IntKind.i64.wrap ((ys.length : Int) - 1) = (ys.length : Int) - 1 := IntWalk.i64_in _ (by omega)
 have hcw := (bcell (pw_drewN (below_new w (.cells #[.bool s, .slice A1 xs.length c1, .slice (some ⟨g2, o2, none⟩) ys.length c2] 40)) nq)).1
 by_cases d2 : nat ys (ys.length - 1) = 0
 ·rw [d2] at hcell2
  have hcell0 : w.cell? ⟨g2, o2 + (ys.length - 1), none⟩ = some (.int .u32 0) := hcell2
  have HR := Hd (rightB_false (f := ⟨s, xs, ys⟩) fun h => (rightF_den h).2.2 d2)
  have hz0 : ((0 : Int) == 0) = true := rfl
  clear d0 d1 d2 hcell2
  go_wp2_with fail
  go_ret
  exact ⟨by rw [HR.out]; rfl, pw_drewN (below_new w _) _⟩
 have z2 : ((nat ys (ys.length - 1) : Int) == 0) = false := neb0 d2
 have HCN2 := Hd (canon R2.out.wd (.inr d2))
 have HW1 := Hd (pw_drewN (below_new w (.cells #[.bool s, .slice A1 xs.length c1, .slice (some ⟨g2, o2, none⟩) ys.length c2] 40)) nq)
 have RN2 : Hid (RN w (.slice (some ⟨g2, o2, none⟩) ys.length c2) (valN ys)) := by have := R2.out; unfold Hid RN; rw [← HCN2.out]; exact this
 by_cases x0 : xs.length = 0
 ·have y0 := eqb0 x0
  have HX0 := Hd (List.eq_nil_of_length_eq_zero x0)
  have HL0 := Hd d0
  have HD2 := Hd d2
  clear d0 d1 d2 x0
  go_wp2_with fail
  refine (one_calls _ _ _ (RN2.out.of_below HW1.out)).mono ?_
  rintro e w2 ⟨rfl, hb2⟩
  have HB2 := Hd (HW1.out.trans (hb2.mono HW1.out.size))
  have hc2 := (bcell hb2).1
  clear hb2
  by_cases v1 : valN ys = 1
  ·have u1 : decide (valN ys = 1) = true := decide_eq_true v1
   have HV1 := Hd v1
   clear v1
   cases s with
   | true =>
    have HR := Hd (rightB_false (f := ⟨true, xs, ys⟩) fun h => absurd (rightF_zero h HX0.out).2 (by simp))
    go_wp2_with fail
    go_ret
    exact ⟨by rw [HR.out]; rfl, HB2.out⟩
   | false =>
    have HR := Hd (rightB_true (f := ⟨false, xs, ys⟩) (rightF_mk0 HD2.out HX0.out R2.out.wd HV1.out rfl))
    go_wp2_with fail
    go_ret
    exact ⟨by rw [HR.out]; rfl, HB2.out⟩
  ·have u1 : decide (valN ys = 1) = false := decide_eq_false v1
   have HR := Hd (rightB_false (f := ⟨s, xs, ys⟩) fun h => v1 (rightF_zero h HX0.out).1)
   clear v1
   go_wp2_with fail
   go_ret
   exact ⟨by rw [HR.out]; rfl, HB2.out⟩
 have y0 := neb0 x0
 obtain ⟨g1, o1, rfl, hg1, hcell1⟩ := R1.out.at_ (by omega)
 have m2 : ((xs.length : Int) - 1).toNat = xs.length - 1 := by omega
 have m3 : 0 ≤ (xs.length : Int) - 1 := by omega
 have m4 : (xs.length : Int) - 1 < (xs.length : Int) := by omega
 have mw : IntKind.i64.wrap ((xs.length : Int) - 1) = (xs.length : Int) - 1 := IntWalk.i64_in _ (by omega)
 have HX0 : Hid (xs ≠ []) := fun h => x0 (by rw [h]; rfl)
 have HY0 : Hid (ys ≠ []) := fun h => d0 (by rw [h]; rfl)
 have HLL : Hid (xs.length + ys.length ≤ 4096) := by unfold Hid; omega
 have HD2 := Hd d2
 by_cases e2 : nat xs (xs.length - 1) = 0
 ·rw [e2] at hcell1
  have hcell0 : w.cell? ⟨g1, o1 + (xs.length - 1), none⟩ = some (.int .u32 0) := hcell1
  have HR := Hd (rightB_false (f := ⟨s, xs, ys⟩) fun h => (rightF_num h HX0.out).1 e2)
  have hz0 : ((0 : Int) != 0) = false := rfl
  clear d0 d1 d2 x0 e2 hcell1
  go_wp2_with fail
  go_ret
  exact ⟨by rw [HR.out]; rfl, pw_drewN (below_new w _) _⟩
 have z3 : ((nat xs (xs.length - 1) : Int) != 0) = true := by
  have : (nat xs (xs.length - 1) : Int) ≠ 0 := by omega
  simpa using this
 have HCN1 := Hd (canon R1.out.wd (.inr e2))
 have RN1 : Hid (RN w (.slice (some ⟨g1, o1, none⟩) xs.length c1) (valN xs)) := by have := R1.out; unfold Hid RN; rw [← HCN1.out]; exact this
 have HE2 := Hd e2
 have hlm : wlen (valN xs) ≤ 10000000000 := by unfold wlen; rw [← HCN1.out]; omega
 have hln : wlen (valN ys) ≤ 10000000000 := by unfold wlen; rw [← HCN2.out]; omega
 clear d0 d1 d2 x0 e2
 go_wp2_with fail
 refine (one_calls _ _ _ (RN2.out.of_below HW1.out)).mono ?_
 rintro e w2 ⟨rfl, hb2⟩
 have HB2 := Hd (HW1.out.trans (hb2.mono HW1.out.size))
 have hc2 := (bcell hb2).1
 by_cases v1 : valN ys = 1
 ·have u1 : decide (valN ys = 1) = true := decide_eq_true v1
  have HR := Hd (rightB_true (f := ⟨s, xs, ys⟩) (rightF_mk HLL.out HY0.out HD2.out HE2.out R1.out.wd R2.out.wd HX0.out (by simp only; rw [v1, Nat.gcd_one_right])))
  clear v1
  go_wp2_with fail
  go_ret
  exact ⟨by rw [HR.out]; rfl, HB2.out⟩
 ·have u1 : decide (valN ys = 1) = false := decide_eq_false v1
  clear v1
  go_wp2_with fail
  refine (gcd_calls _ _ _ _ _ (RN1.out.of_below HB2.out) (RN2.out.of_below HB2.out) hlm hln).mono ?_
  rintro e w3 ⟨v3, rfl, hv3, hb3⟩
  have HB3 := Hd (HB2.out.trans (hb3.mono HB2.out.size))
  have HV3 := Hd hv3
  obtain ⟨A3, c3, zs, rfl, _, _, _⟩ := hv3.opened
  clear hb3 hv3
  go_wp2_with fail
  refine (one_calls _ _ _ HV3.out).mono ?_
  rintro e w4 ⟨rfl, hb4⟩
  have HB4 := Hd (HB3.out.trans (hb4.mono HB3.out.size))
  clear hb4
  by_cases g1 : Nat.gcd (valN xs) (valN ys) = 1
  ·have u2 : decide (Nat.gcd (valN xs) (valN ys) = 1) = true := decide_eq_true g1
   have HR := Hd (rightB_true (f := ⟨s, xs, ys⟩) (rightF_mk HLL.out HY0.out HD2.out HE2.out R1.out.wd R2.out.wd HX0.out g1))
   clear g1
   go_wp2_with fail
   go_ret
   exact ⟨by rw [HR.out]; rfl, HB4.out⟩
  ·have u2 : decide (Nat.gcd (valN xs) (valN ys) = 1) = false := decide_eq_false g1
   have HR := Hd (rightB_false (f := ⟨s, xs, ys⟩) fun h => g1 (rightF_num h HX0.out).2)
   clear g1
   go_wp2_with fail
   go_ret
   exact ⟨by rw [HR.out]; rfl, HB4.out⟩
theorem below_next {a b c : World} (h : Below a.heap.size a b) (h2 : Below b.heap.size b c) : Below a.heap.size a c := h.trans (h2.mono h.size)
def HS (w : World) (bs : List (Nat × Nat × Array Value)) (W : World) : Prop := (∀ b ∈ bs, Blk W b.1 b.2.1 b.2.2) ∧ Below w.heap.size w W
theorem HS.step {w W W' : World} {bs : List (Nat × Nat × Array Value)} (h : HS w bs W) (hb : Below W.heap.size W W') : HS w bs W' := ⟨fun b hm => (h.1 b hm).below hb (h.1 b hm).lt, below_next h.2 hb⟩
theorem HS.drew {w W : World} {bs : List (Nat × Nat × Array Value)} (h : HS w bs W) : HS w bs W.drew := h.step (Below.drew (Below.refl _ _))
theorem HS.nil (w : World) : HS w [] w := ⟨fun b hm => (by cases hm), Below.refl _ _⟩
theorem HS.new {w W : World} {bs : List (Nat × Nat × Array Value)} (h : HS w bs W) (cs : Array Value) (t : Nat) : HS w ((W.heap.size, t, cs) :: bs) (W.alloc (.cells cs t)) := by
 have h2 := h.step (below_new W (.cells cs t))
 refine ⟨fun b hm => ?_, h2.2⟩
 rcases List.mem_cons.1 hm with rfl | hm
 ·exact Blk.new W t cs
 ·exact h2.1 b hm
theorem HS.more {w W : World} {bs : List (Nat × Nat × Array Value)} (h : HS w bs W) (o : Obj) : HS w bs (W.alloc o) := h.step (below_new W o)
theorem HS.one {w : World} (cs : Array Value) (t : Nat) : HS w [(w.heap.size, t, cs)] (w.alloc (.cells cs t)) := (HS.nil w).new cs t
theorem HS.two {w : World} (cs cs2 : Array Value) (t t2 : Nat) : HS w [(w.heap.size + 1, t2, cs2), (w.heap.size, t, cs)] ((w.alloc (.cells cs t)).alloc (.cells cs2 t2)) := by
 have := ((HS.nil w).new cs t).new cs2 t2
 rwa [size_alloc] at this
theorem HS.three {w : World} (cs cs2 cs3 : Array Value) (t t2 t3 : Nat) : HS w [(w.heap.size + 1 + 1, t3, cs3), (w.heap.size + 1, t2, cs2), (w.heap.size, t, cs)] (((w.alloc (.cells cs t)).alloc (.cells cs2 t2)).alloc (.cells cs3 t3)) := by
 have := (((HS.nil w).new cs t).new cs2 t2).new cs3 t3
 rwa [size_alloc, size_alloc] at this
theorem HS.blk {w W : World} {bs : List (Nat × Nat × Array Value)} (h : HS w bs W) (i : Nat) {g t : Nat} {cs : Array Value} (hi : bs[i]? = some (g, t, cs)) : Blk W g t cs := h.1 (g, t, cs) (List.mem_of_getElem? hi)
theorem Blk.c3 {W : World} {g t : Nat} {a b c : Value} (h : Blk W g t #[a, b, c]) : W.cell? ⟨g, 0, none⟩ = some a ∧ W.cell? ⟨g, 1, none⟩ = some b ∧ W.cell? ⟨g, 2, none⟩ = some c := ⟨h.cell rfl, h.cell rfl, h.cell rfl⟩
theorem Blk.f3 {W : World} {g t : Nat} {cs : Array Value} (h : Blk W g t cs) : W.frozen? ⟨g, 0, none⟩ = false ∧ W.frozen? ⟨g, 1, none⟩ = false ∧ W.frozen? ⟨g, 2, none⟩ = false := ⟨h.frozen 0, h.frozen 1, h.frozen 2⟩
theorem RQ.put3 {w : World} {v : Value} {q : Rat} {g t : Nat} {a b c : Value} (h : RQ w v q) (hb : Blk w g t #[a, b, c]) (hni : ∀ x ∈ #[a, b, c], notInt x = true) (x y z : Value) : RQ (((w.setCell ⟨g, 0, none⟩ x).setCell ⟨g, 1, none⟩ y).setCell ⟨g, 2, none⟩ z) v q := by
 obtain ⟨v1, v2, e, h1, h2⟩ := h
 exact ⟨v1, v2, e, h1.put3 hb hni x y z, h2.put3 hb hni x y z⟩
theorem FQ.put3 {w : World} {v : Value} {q : Rat} {g t : Nat} {a b c : Value} (h : FQ w v q) (hb : Blk w g t #[a, b, c]) (hni : ∀ x ∈ #[a, b, c], notInt x = true) (x y z : Value) : FQ (((w.setCell ⟨g, 0, none⟩ x).setCell ⟨g, 1, none⟩ y).setCell ⟨g, 2, none⟩ z) v q := by
 obtain ⟨v1, v2, e, h1, h2⟩ := h
 exact ⟨v1, v2, e, h1.put3 hb hni x y z, h2.put3 hb hni x y z⟩
theorem end85 {fn : Func} {p : Tmp} {tmps : Array Value} {w W : World} {g : Nat} {x y z : Value} {q : Rat} (hres : fn.results = #[.cell p 85]) (hp : tmps.getD p undef = .pointer (some ⟨g, 0, none⟩)) (hb : Blk W g 85 #[.slice none 0 0, .slice none 0 0, .bool false])
  (hq : RQ W (.agg #[x, y, z]) q) (hg : w.heap.size ≤ g) (hbl : Below w.heap.size w W) : bodyPost Try.prog fn (fun e w' => QPost w q e w') Exit.ret { tmps := tmps, defers := [] } (((W.setCell ⟨g, 0, none⟩ x).setCell ⟨g, 1, none⟩ y).setCell ⟨g, 2, none⟩ z) :=
 ret85 hres hp (hb.put3 x y z) ⟨_, rfl, hq.put3 hb ni85 x y z, below_put3 hbl hg x y z⟩
theorem end40 {fn : Func} {p : Tmp} {tmps : Array Value} {w W : World} {g : Nat} {x y z : Value} {q : Rat} (hres : fn.results = #[.cell p 40]) (hp : tmps.getD p undef = .pointer (some ⟨g, 0, none⟩)) (hb : Blk W g 40 #[.bool false, .slice none 0 0, .slice none 0 0])
  (hq : FQ W (.agg #[x, y, z]) q) (hg : w.heap.size ≤ g) (hbl : Below w.heap.size w W) : bodyPost Try.prog fn (fun e w' => FPost w q e w') Exit.ret { tmps := tmps, defers := [] } (((W.setCell ⟨g, 0, none⟩ x).setCell ⟨g, 1, none⟩ y).setCell ⟨g, 2, none⟩ z) :=
 ret40 hres hp (hb.put3 x y z) ⟨_, rfl, hq.put3 hb ni40 x y z, below_put3 hbl hg x y z⟩
theorem RQ.opened' {w : World} {v : Value} {q : Rat} (h : RQ w v q) : ∃ A1 n1 c1 A2 n2 c2, v = .agg #[.slice A1 n1 c1, .slice A2 n2 c2, .bool (negQ q)] ∧ Hid (RQ w (.agg #[.slice A1 n1 c1, .slice A2 n2 c2, .bool (negQ q)]) q) := by
 have h0 := h
 obtain ⟨A1, n1, c1, A2, n2, c2, rfl, _⟩ := h.opened
 exact ⟨A1, n1, c1, A2, n2, c2, rfl, h0⟩
theorem rq_of_fr {w : World} {A1 A2 : Option Addr} {n1 c1 n2 c2 : Nat} {f : RawF} {s : Bool} (h : FR w (.agg #[.bool s, .slice A1 n1 c1, .slice A2 n2 c2]) f) (hr : RightF f) : RQ w (.agg #[.slice A1 n1 c1, .slice A2 n2 c2, .bool s]) (fixQ f) := by
 obtain ⟨hl, v1, v2, e, h1, h2⟩ := h
 injection e with e
 have e1 : Value.bool s = .bool f.neg ∧ Value.slice A1 n1 c1 = v1 ∧ Value.slice A2 n2 c2 = v2 := by simpa using e
 obtain ⟨e1, rfl, rfl⟩ := e1
 injection e1 with e1
 subst e1
 have e := right_raw hr
 refine ⟨.slice A1 n1 c1, .slice A2 n2 c2, ?_, ?_, ?_⟩
 ·rw [show f.neg = negQ (fixQ f) by rw [show f.neg = (rawQ (fixQ f)).neg from congrArg RawF.neg e]; rfl]
 ·have : f.num = dg (fixQ f).num.natAbs := congrArg RawF.num e
  rw [this] at h1; exact h1
 ·have : f.den = dg (fixQ f).den := congrArg RawF.den e
  rw [this] at h2; exact h2
def FitQ (k : Nat) (q : Rat) : Prop := wlen q.num.natAbs ≤ k ∧ wlen q.den ≤ k
theorem fit_fix (f : RawF) : FitQ 4096 (fixQ f) := by have := sizeQ_fix f; unfold sizeQ at this; exact ⟨by omega, by omega⟩
theorem FitQ.size {k : Nat} {q : Rat} (h : FitQ k q) : sizeQ q ≤ 2 * k := by unfold sizeQ; have := h.1; have := h.2; omega
theorem taken_calls (w : World) (v : Value) (f : RawF) (h : FR w v f) : Calls Try.prog 69 #[v] w fun e w' => QPost w (fixQ f) e w' := by
 obtain ⟨A1, n1, c1, A2, n2, c2, rfl, H⟩ := h.opened
 clear h
 obtain ⟨s, hs⟩ : ∃ s, s = f.neg := ⟨_, rfl⟩
 rw [← hs] at H ⊢
 clear hs
 go_enter Try.func69, Try.ntmps69
 go_wp2_with fail
 have H0 := Hd (HS.two (w := w) #[.bool s, .slice A1 n1 c1, .slice A2 n2 c2] #[.slice none 0 0, .slice none 0 0, .bool false] 40 85)
 generalize (w.alloc (.cells #[.bool s, .slice A1 n1 c1, .slice A2 n2 c2] 40)).alloc (.cells #[.slice none 0 0, .slice none 0 0, .bool false] 85) = W0 at *
 refine (right_calls _ _ f (H.out.of_below H0.out.2)).mono ?_
 rintro e w1 ⟨rfl, hb⟩
 have H1 := Hd (H0.out.step hb)
 clear hb
 by_cases hr : RightF f
 ·have t := rightB_true hr
  have HR := Hd hr
  obtain ⟨d0, d1, d2⟩ := (H1.out.blk 1 rfl).c3
  obtain ⟨e0, e1, e2⟩ := (H1.out.blk 0 rfl).c3
  obtain ⟨f0, f1, f2⟩ := (H1.out.blk 0 rfl).f3
  clear hr
  go_wp2_with fail
  exact end85 Try.results69 rfl (H1.out.blk 0 rfl) (rq_of_fr (H.out.of_below H1.out.2) HR.out) (by omega) H1.out.2
 ·have t := rightB_false hr
  have HQ := Hd (fixQ_wrong hr)
  clear hr
  go_wp2_with fail
  refine (whole_calls w1 0 (by decide) (by decide)).mono ?_
  rintro e w2 ⟨v, rfl, hv, hb⟩
  obtain ⟨A5, n5, c5, A6, n6, c6, rfl, HV⟩ := hv.opened'
  have H2 := Hd (H1.out.step hb)
  clear hb hv
  obtain ⟨e0, e1, e2⟩ := (H2.out.blk 0 rfl).c3
  obtain ⟨f0, f1, f2⟩ := (H2.out.blk 0 rfl).f3
  go_wp2_with fail
  exact end85 Try.results69 rfl (H2.out.blk 0 rfl) (by rw [HQ.out]; exact HV.out) (by omega) H2.out.2
theorem sg_self (p : Int) : sg (decide (p < 0)) p.natAbs = p := by
 unfold sg
 by_cases h : p < 0
 ·rw [decide_eq_true h, if_pos rfl]; omega
 ·rw [decide_eq_false h, if_neg (by decide)]; omega
theorem mk_num_le (p : Int) (n : Nat) : (mkRat p n).num.natAbs ≤ p.natAbs := by
 by_cases hn : n = 0
 ·rw [hn, Rat.mkRat_zero]; exact Nat.zero_le _
 ·rw [← sg_self p, mk_num _ _ _ hn, sg_natAbs, sg_natAbs]
  exact Nat.div_le_self _ _
theorem mk_den_le (p : Int) (n : Nat) (hn : n ≠ 0) : (mkRat p n).den ≤ n := by
 rw [← sg_self p, mk_den _ _ _ hn]
 exact Nat.div_le_self _ _
theorem fit_mk {k : Nat} {p : Int} {n : Nat} (hn : n ≠ 0) (h1 : wlen p.natAbs ≤ k) (h2 : wlen n ≤ k) : FitQ k (mkRat p n) :=
 ⟨Nat.le_trans (wlen_mono (mk_num_le p n)) h1, Nat.le_trans (wlen_mono (mk_den_le p n hn)) h2⟩
theorem wlen_add_le {a b m n : Nat} (h : wlen m ≤ a) (h2 : wlen n ≤ a) (hb : a + 1 ≤ b) : wlen (m + n) ≤ b := by have := wlen_add m n; omega
theorem fit_add {a b c : Nat} {p q : Rat} (h : FitQ a p) (h2 : FitQ b q) (hc : a + b + 1 ≤ c) : FitQ c (p + q) := by
 rw [Rat.add_def']
 refine fit_mk (Nat.mul_ne_zero p.den_nz q.den_nz) ?_ ?_
 ·refine Nat.le_trans (wlen_mono (Int.natAbs_add_le _ _)) ?_
  rw [Int.natAbs_mul, Int.natAbs_mul, Int.natAbs_natCast, Int.natAbs_natCast]
  have m1 := wlen_mul p.num.natAbs q.den
  have m2 := wlen_mul q.num.natAbs p.den
  have := h.1; have := h.2; have := h2.1; have := h2.2
  exact wlen_add_le (a := a + b) (by omega) (by omega) hc
 ·have m1 := wlen_mul p.den q.den
  have := h.2; have := h2.2
  omega
theorem fit_mul {a b c : Nat} {p q : Rat} (h : FitQ a p) (h2 : FitQ b q) (hc : a + b ≤ c) : FitQ c (p * q) := by
 rw [Rat.mul_def']
 refine fit_mk (Nat.mul_ne_zero p.den_nz q.den_nz) ?_ ?_
 ·rw [Int.natAbs_mul]
  have m1 := wlen_mul p.num.natAbs q.num.natAbs
  have := h.1; have := h2.1
  omega
 ·have m1 := wlen_mul p.den q.den
  have := h.2; have := h2.2
  omega
theorem fit_neg {a : Nat} {p : Rat} (h : FitQ a p) : FitQ a (-p) := by
 refine ⟨?_, ?_⟩
 ·rw [Rat.neg_num, Int.natAbs_neg]; exact h.1
 ·rw [Rat.neg_den]; exact h.2
theorem fit_mono {a b : Nat} {p : Rat} (h : FitQ a p) (hab : a ≤ b) : FitQ b p := ⟨Nat.le_trans h.1 hab, Nat.le_trans h.2 hab⟩
theorem size_sum (f g : RawF) : sizeQ (fixQ f + fixQ g) ≤ 4000000000 := by
 have := (fit_add (fit_fix f) (fit_fix g) (Nat.le_refl _)).size
 omega
theorem size_prod (f g : RawF) : sizeQ (fixQ f * fixQ g) ≤ 4000000000 := by
 have := (fit_mul (fit_fix f) (fit_fix g) (Nat.le_refl _)).size
 omega
theorem size_neg (f : RawF) : sizeQ (-(fixQ f)) ≤ 4000000000 := by
 have := (fit_neg (fit_fix f)).size
 omega
theorem size_diff (f g : RawF) : sizeQ (fixQ f + -(fixQ g)) ≤ 4000000000 := by
 have := (fit_add (fit_fix f) (fit_neg (fit_fix g)) (Nat.le_refl _)).size
 omega
theorem capQ_fix (f : RawF) : capQ (fixQ f) = fixQ f := by unfold capQ; rw [if_pos (sizeQ_fix f)]
theorem capQ_size (q : Rat) : sizeQ (capQ q) ≤ 4096 := by
 unfold capQ
 split
 ·assumption
 ·rw [sizeQ_zero]; decide
theorem fix_calls (w : World) (v : Value) (f : RawF) (h : FR w v f) : Calls Try.prog 84 #[v] w fun e w' => FPost w (fixQ f) e w' := by
 obtain ⟨A1, n1, c1, A2, n2, c2, rfl, H⟩ := h.opened
 clear h
 go_enter Try.func84, Try.ntmps84
 go_wp2_with fail
 have H0 := Hd (HS.two (w := w) #[.bool f.neg, .slice A1 n1 c1, .slice A2 n2 c2] #[.bool false, .slice none 0 0, .slice none 0 0] 40 40)
 generalize (w.alloc (.cells #[.bool f.neg, .slice A1 n1 c1, .slice A2 n2 c2] 40)).alloc (.cells #[.bool false, .slice none 0 0, .slice none 0 0] 40) = W0 at *
 refine (taken_calls _ _ f (H.out.of_below H0.out.2)).mono ?_
 rintro e w1 ⟨v, rfl, hv, hb⟩
 obtain ⟨A5, n5, c5, A6, n6, c6, rfl, HV⟩ := hv.opened'
 have H1 := Hd (H0.out.step hb)
 clear hb hv
 go_wp2_with fail
 refine (told_calls _ _ _ HV.out (by have := sizeQ_fix f; omega)).mono ?_
 rintro e w2 ⟨v, rfl, hv, hb⟩
 rw [capQ_fix] at hv
 obtain ⟨A5, n5, c5, A6, n6, c6, rfl, HV⟩ := hv.opened
 have H2 := Hd (H1.out.step hb)
 clear hb hv
 obtain ⟨e0, e1, e2⟩ := (H2.out.blk 0 rfl).c3
 obtain ⟨f0, f1, f2⟩ := (H2.out.blk 0 rfl).f3
 go_wp2_with fail
 exact end40 Try.results84 rfl (H2.out.blk 0 rfl) HV.out (by omega) H2.out.2
theorem sgn_calls (w : World) (v : Value) (f : RawF) (h : FR w v f) : Calls Try.prog 32 #[v] w fun e w' => IPost w (signQ (fixQ f)) e w' := by
 obtain ⟨A1, n1, c1, A2, n2, c2, rfl, H⟩ := h.opened
 clear h
 go_enter Try.func32, Try.ntmps32
 go_wp2_with fail
 have H0 := Hd (HS.one (w := w) #[.bool f.neg, .slice A1 n1 c1, .slice A2 n2 c2] 40)
 generalize w.alloc (.cells #[.bool f.neg, .slice A1 n1 c1, .slice A2 n2 c2] 40) = W0 at *
 refine (taken_calls _ _ f (H.out.of_below H0.out.2)).mono ?_
 rintro e w1 ⟨v, rfl, hv, hb⟩
 obtain ⟨A5, n5, c5, A6, n6, c6, rfl, HV⟩ := hv.opened'
 have H1 := Hd (H0.out.step hb)
 clear hb hv
 go_wp2_with fail
 refine (sign_calls _ _ _ HV.out).mono ?_
 rintro e w2 ⟨rfl, hb⟩
 have H2 := Hd (H1.out.step hb)
 clear hb
 go_wp2_with fail
 go_ret
 exact ⟨rfl, H2.out.2⟩
def HR (w : World) (bs : List (Nat × Nat × Array Value)) (g t : Nat) (W : World) : Prop := HS w bs W ∧ ∃ x y z, (∀ u ∈ #[x, y, z], notInt u = true) ∧ Blk W g t #[x, y, z]
theorem HR.step {w W W' : World} {bs : List (Nat × Nat × Array Value)} {g t : Nat} (h : HR w bs g t W) (hb : Below W.heap.size W W') : HR w bs g t W' := by
 obtain ⟨h1, x, y, z, hn, hk⟩ := h
 exact ⟨h1.step hb, x, y, z, hn, hk.below hb hk.lt⟩
theorem HR.drew {w W : World} {bs : List (Nat × Nat × Array Value)} {g t : Nat} (h : HR w bs g t W) : HR w bs g t W.drew := h.step (Below.drew (Below.refl _ _))
theorem HR.put {w W : World} {bs : List (Nat × Nat × Array Value)} {g t : Nat} (h : HR w bs g t W) (hg : w.heap.size ≤ g) (hne : ∀ b ∈ bs, b.1 ≠ g) (x y z : Value) (hn : ∀ u ∈ #[x, y, z], notInt u = true) :
  HR w bs g t (((W.setCell ⟨g, 0, none⟩ x).setCell ⟨g, 1, none⟩ y).setCell ⟨g, 2, none⟩ z) := by
 obtain ⟨h1, a, b, c, _, hk⟩ := h
 refine ⟨⟨fun b hm => ?_, below_put3 h1.2 hg x y z⟩, x, y, z, hn, hk.put3 x y z⟩
 exact (((h1.1 b hm).other (a := ⟨g, 0, none⟩) (hne b hm) x).other (a := ⟨g, 1, none⟩) (hne b hm) y).other (a := ⟨g, 2, none⟩) (hne b hm) z
theorem HR.of {w W : World} {bs : List (Nat × Nat × Array Value)} {g t : Nat} {x y z : Value} (h : HS w ((g, t, #[x, y, z]) :: bs) W) (hn : ∀ u ∈ #[x, y, z], notInt u = true) : HR w bs g t W :=
 ⟨⟨fun b hm => h.1 b (List.mem_cons_of_mem _ hm), h.2⟩, x, y, z, hn, h.blk 0 rfl⟩
theorem HR.at_ {w W : World} {bs : List (Nat × Nat × Array Value)} {g t : Nat} (h : HR w bs g t W) : ∃ x y z, (∀ u ∈ #[x, y, z], notInt u = true) ∧ Blk W g t #[x, y, z] := h.2
theorem HR.c2 {w W : World} {g t : Nat} {x y z x' y' z' : Value} {g1 g2 t1 t2 : Nat} (h : HR w [(g2, t2, #[x', y', z']), (g1, t1, #[x, y, z])] g t W) :
  W.cell? ⟨g1, 0, none⟩ = some x ∧ W.cell? ⟨g1, 1, none⟩ = some y ∧ W.cell? ⟨g1, 2, none⟩ = some z ∧ W.cell? ⟨g2, 0, none⟩ = some x' ∧ W.cell? ⟨g2, 1, none⟩ = some y' ∧ W.cell? ⟨g2, 2, none⟩ = some z' :=
 ⟨(h.1.blk 1 rfl).cell rfl, (h.1.blk 1 rfl).cell rfl, (h.1.blk 1 rfl).cell rfl, (h.1.blk 0 rfl).cell rfl, (h.1.blk 0 rfl).cell rfl, (h.1.blk 0 rfl).cell rfl⟩
theorem end40r {fn : Func} {p : Tmp} {tmps : Array Value} {w W : World} {g : Nat} {x y z a b c : Value} {q : Rat} (hres : fn.results = #[.cell p 40]) (hp : tmps.getD p undef = .pointer (some ⟨g, 0, none⟩)) (hb : Blk W g 40 #[a, b, c]) (hn : ∀ u ∈ #[a, b, c], notInt u = true)
  (hq : FQ W (.agg #[x, y, z]) q) (hg : w.heap.size ≤ g) (hbl : Below w.heap.size w W) : bodyPost Try.prog fn (fun e w' => FPost w q e w') Exit.ret { tmps := tmps, defers := [] } (((W.setCell ⟨g, 0, none⟩ x).setCell ⟨g, 1, none⟩ y).setCell ⟨g, 2, none⟩ z) :=
 ret40 hres hp (hb.put3 x y z) ⟨_, rfl, hq.put3 hb hn x y z, below_put3 hbl hg x y z⟩
theorem fadd_calls (w : World) (v v2 : Value) (f g : RawF) (h : FR w v f) (h2 : FR w v2 g) : Calls Try.prog 33 #[v, v2] w fun e w' => FPost w (capQ (fixQ f + fixQ g)) e w' := by
 obtain ⟨A1, n1, c1, A2, n2, c2, rfl, H⟩ := h.opened
 obtain ⟨A3, n3, c3, A4, n4, c4, rfl, G⟩ := h2.opened
 clear h h2
 go_enter Try.func33, Try.ntmps33
 go_wp2_with fail
 have H0 : HR w [(w.heap.size + 1, 40, #[.bool g.neg, .slice A3 n3 c3, .slice A4 n4 c4]), (w.heap.size, 40, #[.bool f.neg, .slice A1 n1 c1, .slice A2 n2 c2])] (w.heap.size + 1 + 1) 40 _ := HR.of (HS.three (w := w) #[.bool f.neg, .slice A1 n1 c1, .slice A2 n2 c2] #[.bool g.neg, .slice A3 n3 c3, .slice A4 n4 c4] #[.bool false, .slice none 0 0, .slice none 0 0] 40 40 40) ni40
 generalize ((w.alloc (.cells #[.bool f.neg, .slice A1 n1 c1, .slice A2 n2 c2] 40)).alloc (.cells #[.bool g.neg, .slice A3 n3 c3, .slice A4 n4 c4] 40)).alloc (.cells #[.bool false, .slice none 0 0, .slice none 0 0] 40) = W0 at *
 have hne : ∀ b ∈ ([(w.heap.size + 1, 40, #[.bool g.neg, .slice A3 n3 c3, .slice A4 n4 c4]), (w.heap.size, 40, #[.bool f.neg, .slice A1 n1 c1, .slice A2 n2 c2])] : List (Nat × Nat × Array Value)), b.1 ≠ w.heap.size + 1 + 1 := by simp; omega
 have HNE := Hd hne
 clear hne
 go_region_held3 (fun W => (W.cell? ⟨w.heap.size, 0, none⟩ = some (.bool f.neg) ∧ W.cell? ⟨w.heap.size, 1, none⟩ = some (.slice A1 n1 c1) ∧ W.cell? ⟨w.heap.size, 2, none⟩ = some (.slice A2 n2 c2) ∧
   W.cell? ⟨w.heap.size + 1, 0, none⟩ = some (.bool g.neg) ∧ W.cell? ⟨w.heap.size + 1, 1, none⟩ = some (.slice A3 n3 c3) ∧ W.cell? ⟨w.heap.size + 1, 2, none⟩ = some (.slice A4 n4 c4)) ∧ HR w [(w.heap.size + 1, 40, #[.bool g.neg, .slice A3 n3 c3, .slice A4 n4 c4]), (w.heap.size, 40, #[.bool f.neg, .slice A1 n1 c1, .slice A2 n2 c2])] (w.heap.size + 1 + 1) 40 W)
  (first
   | exact ⟨HR.c2 H0.drew, H0.drew⟩
   | (have hk9 := HR.step (And.right ‹_ ∧ HR _ _ _ _ _›) ‹_›; exact ⟨HR.c2 hk9, hk9⟩)
   | (have hk9 := (And.right ‹_ ∧ HR _ _ _ _ _›); exact ⟨HR.c2 (HR.put hk9 (by omega) HNE.out _ _ _ (by simp [notInt])), HR.put hk9 (by omega) HNE.out _ _ _ (by simp [notInt])⟩))
  (first
   | (go_at_call_of 69 (Value.agg #[.bool f.neg, .slice A1 n1 c1, .slice A2 n2 c2]); refine (taken_calls _ _ f (H.out.of_below (And.right ‹_ ∧ HR _ _ _ _ _›).1.2)).mono ?_; rintro e w' ⟨v, rfl, hv, hb⟩; obtain ⟨A5, n5, c5, A6, n6, c6, rfl, HV⟩ := hv.opened'; clear hv)
   | (go_at_call_of 69 (Value.agg #[.bool g.neg, .slice A3 n3 c3, .slice A4 n4 c4]); refine (taken_calls _ _ g (G.out.of_below (And.right ‹_ ∧ HR _ _ _ _ _›).1.2)).mono ?_; rintro e w' ⟨v, rfl, hv2, hb2⟩; obtain ⟨A7, n7, c7, A8, n8, c8, rfl, HV2⟩ := hv2.opened'; have HV1 := Hd (HV.out.of_below hb2); clear hv2)
   | (go_at_call 72; refine (plus_calls _ _ _ _ _ HV1.out HV2.out (by have := sizeQ_fix f; omega) (by have := sizeQ_fix g; omega)).mono ?_; rintro e w' ⟨v, rfl, hv3, hb3⟩; obtain ⟨A9, n9, c9, A10, n10, c10, rfl, HV3⟩ := hv3.opened'; clear hv3)
   | (go_at_call 73; refine (told_calls _ _ _ HV3.out (size_sum f g)).mono ?_; rintro e w' ⟨v, rfl, hv4, hb4⟩; obtain ⟨A11, n11, c11, A12, n12, c12, rfl, HV4⟩ := hv4.opened; obtain ⟨x3, y3, z3, hni3, hk3⟩ := HR.at_ (HR.step (And.right ‹_ ∧ HR _ _ _ _ _›) hb4); have e0 := hk3.cell (j := 0) rfl; have e1 := hk3.cell (j := 1) rfl; have e2 := hk3.cell (j := 2) rfl; have f0 := hk3.frozen 0; have f1 := hk3.frozen 1; have f2 := hk3.frozen 2; have hb7 := (HR.step (And.right ‹_ ∧ HR _ _ _ _ _›) hb4).1.2; clear hv4))
 go_wp2_with fail
 exact end40r Try.results33 rfl hk3 hni3 HV4.out (by omega) hb7
theorem fmul_calls (w : World) (v v2 : Value) (f g : RawF) (h : FR w v f) (h2 : FR w v2 g) : Calls Try.prog 34 #[v, v2] w fun e w' => FPost w (capQ (fixQ f * fixQ g)) e w' := by
 obtain ⟨A1, n1, c1, A2, n2, c2, rfl, H⟩ := h.opened
 obtain ⟨A3, n3, c3, A4, n4, c4, rfl, G⟩ := h2.opened
 clear h h2
 go_enter Try.func34, Try.ntmps34
 go_wp2_with fail
 have H0 : HR w [(w.heap.size + 1, 40, #[.bool g.neg, .slice A3 n3 c3, .slice A4 n4 c4]), (w.heap.size, 40, #[.bool f.neg, .slice A1 n1 c1, .slice A2 n2 c2])] (w.heap.size + 1 + 1) 40 _ := HR.of (HS.three (w := w) #[.bool f.neg, .slice A1 n1 c1, .slice A2 n2 c2] #[.bool g.neg, .slice A3 n3 c3, .slice A4 n4 c4] #[.bool false, .slice none 0 0, .slice none 0 0] 40 40 40) ni40
 generalize ((w.alloc (.cells #[.bool f.neg, .slice A1 n1 c1, .slice A2 n2 c2] 40)).alloc (.cells #[.bool g.neg, .slice A3 n3 c3, .slice A4 n4 c4] 40)).alloc (.cells #[.bool false, .slice none 0 0, .slice none 0 0] 40) = W0 at *
 have hne : ∀ b ∈ ([(w.heap.size + 1, 40, #[.bool g.neg, .slice A3 n3 c3, .slice A4 n4 c4]), (w.heap.size, 40, #[.bool f.neg, .slice A1 n1 c1, .slice A2 n2 c2])] : List (Nat × Nat × Array Value)), b.1 ≠ w.heap.size + 1 + 1 := by simp; omega
 have HNE := Hd hne
 clear hne
 go_region_held3 (fun W => (W.cell? ⟨w.heap.size, 0, none⟩ = some (.bool f.neg) ∧ W.cell? ⟨w.heap.size, 1, none⟩ = some (.slice A1 n1 c1) ∧ W.cell? ⟨w.heap.size, 2, none⟩ = some (.slice A2 n2 c2) ∧
   W.cell? ⟨w.heap.size + 1, 0, none⟩ = some (.bool g.neg) ∧ W.cell? ⟨w.heap.size + 1, 1, none⟩ = some (.slice A3 n3 c3) ∧ W.cell? ⟨w.heap.size + 1, 2, none⟩ = some (.slice A4 n4 c4)) ∧ HR w [(w.heap.size + 1, 40, #[.bool g.neg, .slice A3 n3 c3, .slice A4 n4 c4]), (w.heap.size, 40, #[.bool f.neg, .slice A1 n1 c1, .slice A2 n2 c2])] (w.heap.size + 1 + 1) 40 W)
  (first
   | exact ⟨HR.c2 H0.drew, H0.drew⟩
   | (have hk9 := HR.step (And.right ‹_ ∧ HR _ _ _ _ _›) ‹_›; exact ⟨HR.c2 hk9, hk9⟩)
   | (have hk9 := (And.right ‹_ ∧ HR _ _ _ _ _›); exact ⟨HR.c2 (HR.put hk9 (by omega) HNE.out _ _ _ (by simp [notInt])), HR.put hk9 (by omega) HNE.out _ _ _ (by simp [notInt])⟩))
  (first
   | (go_at_call_of 69 (Value.agg #[.bool f.neg, .slice A1 n1 c1, .slice A2 n2 c2]); refine (taken_calls _ _ f (H.out.of_below (And.right ‹_ ∧ HR _ _ _ _ _›).1.2)).mono ?_; rintro e w' ⟨v, rfl, hv, hb⟩; obtain ⟨A5, n5, c5, A6, n6, c6, rfl, HV⟩ := hv.opened'; clear hv)
   | (go_at_call_of 69 (Value.agg #[.bool g.neg, .slice A3 n3 c3, .slice A4 n4 c4]); refine (taken_calls _ _ g (G.out.of_below (And.right ‹_ ∧ HR _ _ _ _ _›).1.2)).mono ?_; rintro e w' ⟨v, rfl, hv2, hb2⟩; obtain ⟨A7, n7, c7, A8, n8, c8, rfl, HV2⟩ := hv2.opened'; have HV1 := Hd (HV.out.of_below hb2); clear hv2)
   | (go_at_call 74; refine (times_calls _ _ _ _ _ HV1.out HV2.out (by have := sizeQ_fix f; omega) (by have := sizeQ_fix g; omega)).mono ?_; rintro e w' ⟨v, rfl, hv3, hb3⟩; obtain ⟨A9, n9, c9, A10, n10, c10, rfl, HV3⟩ := hv3.opened'; clear hv3)
   | (go_at_call 73; refine (told_calls _ _ _ HV3.out (size_prod f g)).mono ?_; rintro e w' ⟨v, rfl, hv4, hb4⟩; obtain ⟨A11, n11, c11, A12, n12, c12, rfl, HV4⟩ := hv4.opened; obtain ⟨x3, y3, z3, hni3, hk3⟩ := HR.at_ (HR.step (And.right ‹_ ∧ HR _ _ _ _ _›) hb4); have e0 := hk3.cell (j := 0) rfl; have e1 := hk3.cell (j := 1) rfl; have e2 := hk3.cell (j := 2) rfl; have f0 := hk3.frozen 0; have f1 := hk3.frozen 1; have f2 := hk3.frozen 2; have hb7 := (HR.step (And.right ‹_ ∧ HR _ _ _ _ _›) hb4).1.2; clear hv4))
 go_wp2_with fail
 exact end40r Try.results34 rfl hk3 hni3 HV4.out (by omega) hb7
theorem fsub_calls (w : World) (v v2 : Value) (f g : RawF) (h : FR w v f) (h2 : FR w v2 g) : Calls Try.prog 35 #[v, v2] w fun e w' => FPost w (capQ (fixQ f + -(fixQ g))) e w' := by
 obtain ⟨A1, n1, c1, A2, n2, c2, rfl, H⟩ := h.opened
 obtain ⟨A3, n3, c3, A4, n4, c4, rfl, G⟩ := h2.opened
 clear h h2
 go_enter Try.func35, Try.ntmps35
 go_wp2_with fail
 have H0 : HR w [(w.heap.size + 1, 40, #[.bool g.neg, .slice A3 n3 c3, .slice A4 n4 c4]), (w.heap.size, 40, #[.bool f.neg, .slice A1 n1 c1, .slice A2 n2 c2])] (w.heap.size + 1 + 1) 40 _ := HR.of (HS.three (w := w) #[.bool f.neg, .slice A1 n1 c1, .slice A2 n2 c2] #[.bool g.neg, .slice A3 n3 c3, .slice A4 n4 c4] #[.bool false, .slice none 0 0, .slice none 0 0] 40 40 40) ni40
 generalize ((w.alloc (.cells #[.bool f.neg, .slice A1 n1 c1, .slice A2 n2 c2] 40)).alloc (.cells #[.bool g.neg, .slice A3 n3 c3, .slice A4 n4 c4] 40)).alloc (.cells #[.bool false, .slice none 0 0, .slice none 0 0] 40) = W0 at *
 have hne : ∀ b ∈ ([(w.heap.size + 1, 40, #[.bool g.neg, .slice A3 n3 c3, .slice A4 n4 c4]), (w.heap.size, 40, #[.bool f.neg, .slice A1 n1 c1, .slice A2 n2 c2])] : List (Nat × Nat × Array Value)), b.1 ≠ w.heap.size + 1 + 1 := by simp; omega
 have HNE := Hd hne
 clear hne
 go_region_held3 (fun W => (W.cell? ⟨w.heap.size, 0, none⟩ = some (.bool f.neg) ∧ W.cell? ⟨w.heap.size, 1, none⟩ = some (.slice A1 n1 c1) ∧ W.cell? ⟨w.heap.size, 2, none⟩ = some (.slice A2 n2 c2) ∧
   W.cell? ⟨w.heap.size + 1, 0, none⟩ = some (.bool g.neg) ∧ W.cell? ⟨w.heap.size + 1, 1, none⟩ = some (.slice A3 n3 c3) ∧ W.cell? ⟨w.heap.size + 1, 2, none⟩ = some (.slice A4 n4 c4)) ∧ HR w [(w.heap.size + 1, 40, #[.bool g.neg, .slice A3 n3 c3, .slice A4 n4 c4]), (w.heap.size, 40, #[.bool f.neg, .slice A1 n1 c1, .slice A2 n2 c2])] (w.heap.size + 1 + 1) 40 W)
  (first
   | exact ⟨HR.c2 H0.drew, H0.drew⟩
   | (have hk9 := HR.step (And.right ‹_ ∧ HR _ _ _ _ _›) ‹_›; exact ⟨HR.c2 hk9, hk9⟩)
   | (have hk9 := (And.right ‹_ ∧ HR _ _ _ _ _›); exact ⟨HR.c2 (HR.put hk9 (by omega) HNE.out _ _ _ (by simp [notInt])), HR.put hk9 (by omega) HNE.out _ _ _ (by simp [notInt])⟩))
  (first
   | (go_at_call_of 69 (Value.agg #[.bool f.neg, .slice A1 n1 c1, .slice A2 n2 c2]); refine (taken_calls _ _ f (H.out.of_below (And.right ‹_ ∧ HR _ _ _ _ _›).1.2)).mono ?_; rintro e w' ⟨v, rfl, hv, hb⟩; obtain ⟨A5, n5, c5, A6, n6, c6, rfl, HV⟩ := hv.opened'; clear hv)
   | (go_at_call_of 69 (Value.agg #[.bool g.neg, .slice A3 n3 c3, .slice A4 n4 c4]); refine (taken_calls _ _ g (G.out.of_below (And.right ‹_ ∧ HR _ _ _ _ _›).1.2)).mono ?_; rintro e w' ⟨v, rfl, hv2, hb2⟩; obtain ⟨A7, n7, c7, A8, n8, c8, rfl, HV2⟩ := hv2.opened'; have HV1 := Hd (HV.out.of_below hb2); clear hv2)
   | (go_at_call 75; refine (minus_calls _ _ _ HV2.out).mono ?_; rintro e w' ⟨v, rfl, hv5, hb5⟩; obtain ⟨A13, n13, c13, A14, n14, c14, rfl, HV5⟩ := hv5.opened'; have HV6 := Hd (HV1.out.of_below hb5); clear hv5)
   | (go_at_call 72; refine (plus_calls _ _ _ _ _ HV6.out HV5.out (by have := sizeQ_fix f; omega) (by have := size_neg g; omega)).mono ?_; rintro e w' ⟨v, rfl, hv3, hb3⟩; obtain ⟨A9, n9, c9, A10, n10, c10, rfl, HV3⟩ := hv3.opened'; clear hv3)
   | (go_at_call 73; refine (told_calls _ _ _ HV3.out (size_diff f g)).mono ?_; rintro e w' ⟨v, rfl, hv4, hb4⟩; obtain ⟨A11, n11, c11, A12, n12, c12, rfl, HV4⟩ := hv4.opened; obtain ⟨x3, y3, z3, hni3, hk3⟩ := HR.at_ (HR.step (And.right ‹_ ∧ HR _ _ _ _ _›) hb4); have e0 := hk3.cell (j := 0) rfl; have e1 := hk3.cell (j := 1) rfl; have e2 := hk3.cell (j := 2) rfl; have f0 := hk3.frozen 0; have f1 := hk3.frozen 1; have f2 := hk3.frozen 2; have hb7 := (HR.step (And.right ‹_ ∧ HR _ _ _ _ _›) hb4).1.2; clear hv4))
 go_wp2_with fail
 exact end40r Try.results35 rfl hk3 hni3 HV4.out (by omega) hb7
theorem fneg_calls (w : World) (v : Value) (f : RawF) (h : FR w v f) : Calls Try.prog 42 #[v] w fun e w' => FPost w (-(fixQ f)) e w' := by
 obtain ⟨A1, n1, c1, A2, n2, c2, rfl, H⟩ := h.opened
 clear h
 go_enter Try.func42, Try.ntmps42
 go_wp2_with fail
 have H0 := Hd (HS.two (w := w) #[.bool f.neg, .slice A1 n1 c1, .slice A2 n2 c2] #[.bool false, .slice none 0 0, .slice none 0 0] 40 40)
 generalize (w.alloc (.cells #[.bool f.neg, .slice A1 n1 c1, .slice A2 n2 c2] 40)).alloc (.cells #[.bool false, .slice none 0 0, .slice none 0 0] 40) = W0 at *
 refine (taken_calls _ _ f (H.out.of_below H0.out.2)).mono ?_
 rintro e w1 ⟨v, rfl, hv, hb⟩
 obtain ⟨A5, n5, c5, A6, n6, c6, rfl, HV⟩ := hv.opened'
 have H1 := Hd (H0.out.step hb)
 clear hb hv
 go_wp2_with fail
 refine (minus_calls _ _ _ HV.out).mono ?_
 rintro e w2 ⟨v, rfl, hv, hb⟩
 obtain ⟨A5, n5, c5, A6, n6, c6, rfl, HV⟩ := hv.opened'
 have H2 := Hd (H1.out.step hb)
 clear hb hv
 go_wp2_with fail
 refine (told_calls _ _ _ HV.out (size_neg f)).mono ?_
 rintro e w3 ⟨v, rfl, hv, hb⟩
 have hcap : capQ (-(fixQ f)) = -(fixQ f) := by
  unfold capQ
  rw [if_pos]
  have := sizeQ_fix f
  unfold sizeQ at *
  rw [Rat.neg_num, Rat.neg_den, Int.natAbs_neg]
  exact this
 rw [hcap] at hv
 clear hcap
 obtain ⟨A5, n5, c5, A6, n6, c6, rfl, HV⟩ := hv.opened
 have H3 := Hd (H2.out.step hb)
 clear hb hv
 obtain ⟨e0, e1, e2⟩ := (H3.out.blk 0 rfl).c3
 obtain ⟨f0, f1, f2⟩ := (H3.out.blk 0 rfl).f3
 go_wp2_with fail
 exact end40 Try.results42 rfl (H3.out.blk 0 rfl) HV.out (by omega) H3.out.2
theorem HS.c2 {w W : World} {g t : Nat} {x y z x' y' z' : Value} {g1 g2 t1 t2 : Nat} (h : HS w [(g2, t2, #[x', y', z']), (g1, t1, #[x, y, z])] W) :
  W.cell? ⟨g1, 0, none⟩ = some x ∧ W.cell? ⟨g1, 1, none⟩ = some y ∧ W.cell? ⟨g1, 2, none⟩ = some z ∧ W.cell? ⟨g2, 0, none⟩ = some x' ∧ W.cell? ⟨g2, 1, none⟩ = some y' ∧ W.cell? ⟨g2, 2, none⟩ = some z' :=
 ⟨(h.blk 1 rfl).cell rfl, (h.blk 1 rfl).cell rfl, (h.blk 1 rfl).cell rfl, (h.blk 0 rfl).cell rfl, (h.blk 0 rfl).cell rfl, (h.blk 0 rfl).cell rfl⟩
theorem fcmp_calls (w : World) (v v2 : Value) (f g : RawF) (h : FR w v f) (h2 : FR w v2 g) : Calls Try.prog 31 #[v, v2] w fun e w' => IPost w (ordQ (fixQ f) (fixQ g)) e w' := by
 obtain ⟨A1, n1, c1, A2, n2, c2, rfl, H⟩ := h.opened
 obtain ⟨A3, n3, c3, A4, n4, c4, rfl, G⟩ := h2.opened
 clear h h2
 go_enter Try.func31, Try.ntmps31
 go_wp2_with fail
 have H0 := HS.two (w := w) #[.bool f.neg, .slice A1 n1 c1, .slice A2 n2 c2] #[.bool g.neg, .slice A3 n3 c3, .slice A4 n4 c4] 40 40
 generalize (w.alloc (.cells #[.bool f.neg, .slice A1 n1 c1, .slice A2 n2 c2] 40)).alloc (.cells #[.bool g.neg, .slice A3 n3 c3, .slice A4 n4 c4] 40) = W0 at *
 go_region_held3 (fun W => (W.cell? ⟨w.heap.size, 0, none⟩ = some (.bool f.neg) ∧ W.cell? ⟨w.heap.size, 1, none⟩ = some (.slice A1 n1 c1) ∧ W.cell? ⟨w.heap.size, 2, none⟩ = some (.slice A2 n2 c2) ∧
   W.cell? ⟨w.heap.size + 1, 0, none⟩ = some (.bool g.neg) ∧ W.cell? ⟨w.heap.size + 1, 1, none⟩ = some (.slice A3 n3 c3) ∧ W.cell? ⟨w.heap.size + 1, 2, none⟩ = some (.slice A4 n4 c4)) ∧ HS w [(w.heap.size + 1, 40, #[.bool g.neg, .slice A3 n3 c3, .slice A4 n4 c4]), (w.heap.size, 40, #[.bool f.neg, .slice A1 n1 c1, .slice A2 n2 c2])] W)
  (first
   | exact ⟨HS.c2 (g := 0) (t := 0) H0.drew, H0.drew⟩
   | (have hk9 := HS.step (And.right ‹_ ∧ HS _ _ _›) ‹_›; exact ⟨HS.c2 (g := 0) (t := 0) hk9, hk9⟩))
  (first
   | (go_at_call_of 69 (Value.agg #[.bool f.neg, .slice A1 n1 c1, .slice A2 n2 c2]); refine (taken_calls _ _ f (H.out.of_below (And.right ‹_ ∧ HS _ _ _›).2)).mono ?_; rintro e w' ⟨v, rfl, hv, hb⟩; obtain ⟨A5, n5, c5, A6, n6, c6, rfl, HV⟩ := hv.opened'; clear hv)
   | (go_at_call_of 69 (Value.agg #[.bool g.neg, .slice A3 n3 c3, .slice A4 n4 c4]); refine (taken_calls _ _ g (G.out.of_below (And.right ‹_ ∧ HS _ _ _›).2)).mono ?_; rintro e w' ⟨v, rfl, hv2, hb2⟩; obtain ⟨A7, n7, c7, A8, n8, c8, rfl, HV2⟩ := hv2.opened'; have HV1 := Hd (HV.out.of_below hb2); clear hv2)
   | (go_at_call 70; refine (order_calls _ _ _ _ _ HV1.out HV2.out (by have := sizeQ_fix f; omega) (by have := sizeQ_fix g; omega)).mono ?_; rintro e w' ⟨rfl, hb3⟩; have hb7 := (HS.step (And.right ‹_ ∧ HS _ _ _›) hb3).2))
 go_wp2_with fail
 go_ret
 exact ⟨by rw [← rawOrd_eq]; rfl, hb7⟩
def Elems {α : Type} (k : Nat) (E : World → Array Value → α → Prop) (w : World) (g o : Nat) (xs : List α) : Prop :=
 ∀ j x, xs[j]? = some x → ∃ vs : Array Value, vs.size = k ∧ (∀ i v, vs[i]? = some v → w.cell? ⟨g, o + j * k + i, none⟩ = some v) ∧ E w vs x
def SL {α : Type} (k : Nat) (E : World → Array Value → α → Prop) (w : World) (v : Value) (xs : List α) : Prop :=
 ∃ A c, v = .slice A xs.length c ∧ xs.length ≤ c ∧ (0 < xs.length → ∃ g o, A = some ⟨g, o, none⟩ ∧ g < w.heap.size ∧ Elems k E w g o xs)
def Stays {α : Type} (E : World → Array Value → α → Prop) : Prop := ∀ w w1 vs x, E w vs x → Below w.heap.size w w1 → E w1 vs x
theorem Elems.below {α : Type} {k : Nat} {E : World → Array Value → α → Prop} {w w1 : World} {g o : Nat} {xs : List α} (hE : Stays E) (h : Elems k E w g o xs) (hg : g < w.heap.size) (hb : Below w.heap.size w w1) : Elems k E w1 g o xs := fun j x hx => by
 obtain ⟨vs, hs, hc, he⟩ := h j x hx
 exact ⟨vs, hs, fun i v hv => ((bcell hb).1 g _ hg).trans (hc i v hv), hE _ _ _ _ he hb⟩
theorem SL.below {α : Type} {k : Nat} {E : World → Array Value → α → Prop} {w w1 : World} {v : Value} {xs : List α} (hE : Stays E) (h : SL k E w v xs) (hb : Below w.heap.size w w1) : SL k E w1 v xs := by
 obtain ⟨A, c, rfl, hc, hr⟩ := h
 refine ⟨A, c, rfl, hc, fun hp => ?_⟩
 obtain ⟨g, o, rfl, hg, he⟩ := hr hp
 exact ⟨g, o, rfl, Nat.lt_of_lt_of_le hg hb.size, he.below hE hg hb⟩
theorem SL.slice {α : Type} {k : Nat} {E : World → Array Value → α → Prop} {w : World} {v : Value} {xs : List α} (h : SL k E w v xs) : ∃ A c, v = .slice A xs.length c ∧ xs.length ≤ c := by
 obtain ⟨A, c, rfl, hc, _⟩ := h
 exact ⟨A, c, rfl, hc⟩
theorem SL.at_ {α : Type} {k : Nat} {E : World → Array Value → α → Prop} {w : World} {A : Option Addr} {n c : Nat} {xs : List α} (h : SL k E w (.slice A n c) xs) {j : Nat} {x : α} (hj : xs[j]? = some x) :
  ∃ g o vs, A = some ⟨g, o, none⟩ ∧ g < w.heap.size ∧ vs.size = k ∧ (∀ i v, vs[i]? = some v → w.cell? ⟨g, o + j * k + i, none⟩ = some v) ∧ E w vs x := by
 obtain ⟨A', c', e, hc, hr⟩ := h
 injection e with e1 e2 e3
 subst e1
 obtain ⟨g, o, rfl, hg, he⟩ := hr (by have := (List.getElem?_eq_some_iff.1 hj).1; omega)
 obtain ⟨vs, h1, h2, h3⟩ := he j x hj
 exact ⟨g, o, vs, rfl, hg, h1, h2, h3⟩
theorem SL.take {α : Type} {k : Nat} {E : World → Array Value → α → Prop} {w : World} {A : Option Addr} {c c' : Nat} {xs : List α} (h : SL k E w (.slice A xs.length c) xs) (n : Nat) (hn : n ≤ xs.length) (hc : n ≤ c') : SL k E w (.slice A n c') (xs.take n) := by
 obtain ⟨A', c1, e, _, hr⟩ := h
 injection e with e1 e2 e3
 subst e1
 have hl : (xs.take n).length = n := by rw [List.length_take, Nat.min_eq_left hn]
 refine ⟨A, c', by rw [hl], by rw [hl]; exact hc, fun hp => ?_⟩
 rw [hl] at hp
 obtain ⟨g, o, rfl, hg, he⟩ := hr (by omega)
 refine ⟨g, o, rfl, hg, fun j x hx => he j x ?_⟩
 rw [List.getElem?_take] at hx
 split at hx
 ·exact hx
 ·cases hx
def EF (w : World) (vs : Array Value) (f : RawF) : Prop := FR w (.agg vs) f
def EQ (w : World) (vs : Array Value) (q : Rat) : Prop := RQ w (.agg vs) q
theorem EF.stays : Stays EF := fun _ _ _ _ h hb => FR.of_below h hb
theorem EQ.stays : Stays EQ := fun _ _ _ _ h hb => RQ.of_below h hb
abbrev FL (w : World) (v : Value) (fs : List RawF) : Prop := SL 3 EF w v fs
abbrev QL (w : World) (v : Value) (qs : List Rat) : Prop := SL 3 EQ w v qs
theorem FL.at3 {w : World} {A : Option Addr} {n c : Nat} {fs : List RawF} (h : FL w (.slice A n c) fs) {j : Nat} {f : RawF} (hj : fs[j]? = some f) :
  ∃ g o A1 n1 c1 A2 n2 c2, A = some ⟨g, o, none⟩ ∧ g < w.heap.size ∧ w.cell? ⟨g, o + j * 3, none⟩ = some (.bool f.neg) ∧ w.cell? ⟨g, o + j * 3 + 1, none⟩ = some (.slice A1 n1 c1) ∧ w.cell? ⟨g, o + j * 3 + 2, none⟩ = some (.slice A2 n2 c2) ∧ Hid (FR w (.agg #[.bool f.neg, .slice A1 n1 c1, .slice A2 n2 c2]) f) := by
 obtain ⟨g, o, vs, hA, hg, hs, hc, he⟩ := h.at_ hj
 obtain ⟨A1, n1, c1, A2, n2, c2, e, hF⟩ := FR.opened he
 injection e with e
 subst e
 exact ⟨g, o, A1, n1, c1, A2, n2, c2, hA, hg, hc 0 _ rfl, hc 1 _ rfl, hc 2 _ rfl, hF⟩
theorem QL.at3 {w : World} {A : Option Addr} {n c : Nat} {qs : List Rat} (h : QL w (.slice A n c) qs) {j : Nat} {q : Rat} (hj : qs[j]? = some q) :
  ∃ g o A1 n1 c1 A2 n2 c2, A = some ⟨g, o, none⟩ ∧ g < w.heap.size ∧ w.cell? ⟨g, o + j * 3, none⟩ = some (.slice A1 n1 c1) ∧ w.cell? ⟨g, o + j * 3 + 1, none⟩ = some (.slice A2 n2 c2) ∧ w.cell? ⟨g, o + j * 3 + 2, none⟩ = some (.bool (negQ q)) ∧ Hid (RQ w (.agg #[.slice A1 n1 c1, .slice A2 n2 c2, .bool (negQ q)]) q) := by
 obtain ⟨g, o, vs, hA, hg, hs, hc, he⟩ := h.at_ hj
 obtain ⟨A1, n1, c1, A2, n2, c2, e, hF⟩ := RQ.opened' he
 injection e with e
 subst e
 exact ⟨g, o, A1, n1, c1, A2, n2, c2, hA, hg, hc 0 _ rfl, hc 1 _ rfl, hc 2 _ rfl, hF⟩
theorem info85m : (Try.prog.info? 85).map (fun i => (i.zero, i.size, i.bytes)) = some (some (.agg #[.slice none 0 0, .slice none 0 0, .bool false]), 3, 56) := by kernel_rfl
theorem info40m : (Try.prog.info? 40).map (fun i => (i.zero, i.size, i.bytes)) = some (some (.agg #[.bool false, .slice none 0 0, .slice none 0 0]), 3, 56) := by kernel_rfl
def Far {α : Type} (E : World → Array Value → α → Prop) : Prop := ∀ w w1 vs x g t cs, E w vs x → Blk w g t cs → (∀ x ∈ cs, notInt x = true) → w.heap.size ≤ w1.heap.size → (∀ k, k < w.heap.size → k ≠ g → w1.heap[k]? = w.heap[k]?) → E w1 vs x
theorem EQ.far : Far EQ := fun w w1 vs x g t cs h hb hn hs hk => by
 obtain ⟨v1, v2, e, h1, h2⟩ := h
 exact ⟨v1, v2, e, Rd.apart h1 hb hn hs hk, Rd.apart h2 hb hn hs hk⟩
def Row3 {α : Type} (t : Nat) (E : World → Array Value → α → Prop) (w : World) (g n : Nat) (xs : List α) : Prop :=
 ∃ cs : Array Value, Blk w g t cs ∧ cs.size = n * 3 ∧ (∀ x ∈ cs, notInt x = true) ∧ xs.length ≤ n ∧ ∀ j x, xs[j]? = some x → ∃ a b c, cs[j * 3]? = some a ∧ cs[j * 3 + 1]? = some b ∧ cs[j * 3 + 2]? = some c ∧ E w #[a, b, c] x
section
variable {α : Type} {E : World → Array Value → α → Prop} {w w1 : World} {g t n : Nat} {xs : List α}
theorem Row3.below (hE : Stays E) (h : Row3 t E w g n xs) (hb : Below w.heap.size w w1) : Row3 t E w1 g n xs := by
 obtain ⟨cs, hk, hs, hn, hl, he⟩ := h
 refine ⟨cs, hk.below hb hk.lt, hs, hn, hl, fun j x hx => ?_⟩
 obtain ⟨a, b, c, h0, h1, h2, h3⟩ := he j x hx
 exact ⟨a, b, c, h0, h1, h2, hE _ _ _ _ h3 hb⟩
theorem Row3.lt (h : Row3 t E w g n xs) : g < w.heap.size := by
 obtain ⟨cs, hk, _⟩ := h
 exact hk.lt
theorem Row3.cells (h : Row3 t E w g n xs) (i : Nat) (hi : i < n) : ∃ a b c, w.cell? ⟨g, i * 3, none⟩ = some a ∧ w.cell? ⟨g, i * 3 + 1, none⟩ = some b ∧ w.cell? ⟨g, i * 3 + 2, none⟩ = some c ∧ w.frozen? ⟨g, i * 3, none⟩ = false ∧ w.frozen? ⟨g, i * 3 + 1, none⟩ = false ∧ w.frozen? ⟨g, i * 3 + 2, none⟩ = false := by
 obtain ⟨cs, hk, hs, _⟩ := h
 exact ⟨cs[i * 3], cs[i * 3 + 1], cs[i * 3 + 2], hk.cell (Array.getElem?_eq_getElem (by omega)), hk.cell (Array.getElem?_eq_getElem (by omega)), hk.cell (Array.getElem?_eq_getElem (by omega)), hk.frozen _, hk.frozen _, hk.frozen _⟩
theorem Row3.push (hE : Far E) (h : Row3 t E w g n xs) {x : α} {a b c : Value} (hi : xs.length < n) (hx : E w #[a, b, c] x) (hn : ∀ u ∈ #[a, b, c], notInt u = true) :
  Row3 t E (((w.setCell ⟨g, xs.length * 3, none⟩ a).setCell ⟨g, xs.length * 3 + 1, none⟩ b).setCell ⟨g, xs.length * 3 + 2, none⟩ c) g n (xs ++ [x]) := by
 obtain ⟨cs, hk, hs, hcn, hl, he⟩ := h
 have hsz : w.heap.size ≤ (((w.setCell ⟨g, xs.length * 3, none⟩ a).setCell ⟨g, xs.length * 3 + 1, none⟩ b).setCell ⟨g, xs.length * 3 + 2, none⟩ c).heap.size := by simp [World.setCell]
 have hot : ∀ k, k < w.heap.size → k ≠ g → (((w.setCell ⟨g, xs.length * 3, none⟩ a).setCell ⟨g, xs.length * 3 + 1, none⟩ b).setCell ⟨g, xs.length * 3 + 2, none⟩ c).heap[k]? = w.heap[k]? := fun k _ hkg => by
  rw [Below.heap_setCell _ _ _ k hkg, Below.heap_setCell _ _ _ k hkg, Below.heap_setCell _ _ _ k hkg]
 have hset : ∀ {xs : Array Value} {i : Nat} {v : Value}, (∀ x ∈ xs, notInt x = true) → notInt v = true → ∀ x ∈ xs.setIfInBounds i v, notInt x = true := fun {xs i v} h1 h2 x hx => by
  rcases Array.mem_or_eq_of_mem_setIfInBounds hx with h | h
  ·exact h1 x h
  ·rw [h]; exact h2
 refine ⟨_, ((hk.put (xs.length * 3) a).put (xs.length * 3 + 1) b).put (xs.length * 3 + 2) c, by simp [hs], hset (hset (hset hcn (hn _ (by simp))) (hn _ (by simp))) (hn _ (by simp)), by simp; omega, fun j y hy => ?_⟩
 rw [List.getElem?_append] at hy
 split at hy
 ·rename_i hj
  obtain ⟨a', b', c', h0, h1, h2, h3⟩ := he j y hy
  refine ⟨a', b', c', ?_, ?_, ?_, hE _ _ _ _ _ _ _ h3 hk hcn hsz hot⟩
  ·rw [Array.getElem?_setIfInBounds_ne (by omega), Array.getElem?_setIfInBounds_ne (by omega), Array.getElem?_setIfInBounds_ne (by omega)]; exact h0
  ·rw [Array.getElem?_setIfInBounds_ne (by omega), Array.getElem?_setIfInBounds_ne (by omega), Array.getElem?_setIfInBounds_ne (by omega)]; exact h1
  ·rw [Array.getElem?_setIfInBounds_ne (by omega), Array.getElem?_setIfInBounds_ne (by omega), Array.getElem?_setIfInBounds_ne (by omega)]; exact h2
 ·rename_i hj
  have h0 : j - xs.length = 0 := by
   have := (List.getElem?_eq_some_iff.1 hy).1
   simp at this
   omega
  rw [h0] at hy
  have hxy : x = y := by simpa using hy
  subst hxy
  obtain rfl : j = xs.length := by omega
  refine ⟨a, b, c, ?_, ?_, ?_, hE _ _ _ _ _ _ _ hx hk hcn hsz hot⟩
  ·rw [Array.getElem?_setIfInBounds_ne (by omega), Array.getElem?_setIfInBounds_ne (by omega), Array.getElem?_setIfInBounds_self]; rw [if_pos (by omega)]
  ·rw [Array.getElem?_setIfInBounds_ne (by omega), Array.getElem?_setIfInBounds_self]; rw [if_pos (by simp; omega)]
  ·rw [Array.getElem?_setIfInBounds_self]; rw [if_pos (by simp; omega)]
theorem Row3.done (h : Row3 t E w g n xs) (hn : xs.length = n) : SL 3 E w (.slice (some ⟨g, 0, none⟩) n n) xs := by
 obtain ⟨cs, hk, hs, hcn, hl, he⟩ := h
 refine ⟨_, _, by rw [hn], by omega, fun _ => ⟨g, 0, rfl, hk.lt, fun j x hx => ?_⟩⟩
 obtain ⟨a, b, c, h0, h1, h2, h3⟩ := he j x hx
 refine ⟨#[a, b, c], rfl, fun i v hv => ?_, h3⟩
 have hi : i < 3 := (Array.getElem?_eq_some_iff.1 hv).1
 match i, hi with
 | 0, _ => rw [show v = a by simpa using hv.symm]; exact hk.cell (by rw [Nat.zero_add]; exact h0)
 | 1, _ => rw [show v = b by simpa using hv.symm]; exact hk.cell (by rw [Nat.zero_add]; exact h1)
 | 2, _ => rw [show v = c by simpa using hv.symm]; exact hk.cell (by rw [Nat.zero_add]; exact h2)
theorem Row3.made (w : World) (t n : Nat) (z : Array Value) (hz : z.size = 3) (hn : ∀ u ∈ z, notInt u = true) : Row3 t E (w.alloc (.cells (madeCells z (n * 3)) t)) w.heap.size n ([] : List α) := by
 refine ⟨_, Blk.new w t _, by simp [size_madeCells], fun x hx => ?_, by simp, fun j x hx => by simp at hx⟩
 obtain ⟨i, hi, rfl⟩ := Array.getElem_of_mem hx
 have hp : i % z.size < z.size := Nat.mod_lt _ (by omega)
 simp only [madeCells, Array.getElem_map, Array.getElem_range]
 rw [getElem!_pos z _ hp]
 exact hn _ (Array.getElem_mem hp)
end
theorem run_make3 (t e : TypeId) (z : Value) (ht : Try.prog.underlying t = some (.slice e)) (hinfo : (Try.prog.info? e).map (fun i => (i.zero, i.size, i.bytes)) = some (some z, 3, 56)) (n : Nat) (hn : n ≤ 1000000000000) (w : World) :
  Sem.run Try.prog (Instr.makeSlice t (.int .i64 (n : Int)) (.int .i64 (n : Int))) w = .ok (.slice (some ⟨w.heap.size, 0, none⟩) n n) (w.alloc (.cells (madeCells z.cells (n * 3)) e)) := by
 obtain ⟨i, hi, hzz⟩ := Option.map_eq_some_iff.1 hinfo
 simp only [Prod.mk.injEq] at hzz
 obtain ⟨hz, hsz, hby⟩ := hzz
 have := run_make (P := Try.prog) w t e i _ ht hi hz .i64 .i64 (n : Int) (n : Int) (by omega) (Int.le_refl _) (by rw [hby]; omega) (by omega)
 rw [hsz, Int.toNat_natCast] at this
 exact this
def AllPost (w : World) (fs : List RawF) (e : Ending) (w' : World) : Prop := ∃ g, e = .returned (.slice (some ⟨g, 0, none⟩) fs.length fs.length) ∧ w.heap.size ≤ g ∧ g < w'.heap.size ∧ QL w' (.slice (some ⟨g, 0, none⟩) fs.length fs.length) (fs.map fixQ) ∧ Below w.heap.size w w'
theorem SL.put3 {α : Type} {E : World → Array Value → α → Prop} {w : World} {gq o n c : Nat} {xs : List α} {g t : Nat} {x y z a b d : Value} (hE : Far E) (h : SL 3 E w (.slice (some ⟨gq, o, none⟩) n c) xs) (hb : Blk w g t #[x, y, z]) (hn : ∀ u ∈ #[x, y, z], notInt u = true) (hne : gq ≠ g) :
  SL 3 E (((w.setCell ⟨g, 0, none⟩ a).setCell ⟨g, 1, none⟩ b).setCell ⟨g, 2, none⟩ d) (.slice (some ⟨gq, o, none⟩) n c) xs := by
 have hot : ∀ k, k ≠ g → (((w.setCell ⟨g, 0, none⟩ a).setCell ⟨g, 1, none⟩ b).setCell ⟨g, 2, none⟩ d).heap[k]? = w.heap[k]? := fun k hkg => by
  rw [Below.heap_setCell _ _ _ k hkg, Below.heap_setCell _ _ _ k hkg, Below.heap_setCell _ _ _ k hkg]
 have hsz : w.heap.size ≤ (((w.setCell ⟨g, 0, none⟩ a).setCell ⟨g, 1, none⟩ b).setCell ⟨g, 2, none⟩ d).heap.size := by simp [World.setCell]
 obtain ⟨A, c', e, hc, hr⟩ := h
 refine ⟨A, c', e, hc, fun hp => ?_⟩
 obtain ⟨g', o', rfl, hg, he⟩ := hr hp
 have hgq : gq = g' := by injection e with e1; injection e1 with e1; injection e1
 subst hgq
 refine ⟨gq, o', rfl, by omega, fun j y hy => ?_⟩
 obtain ⟨vs, h1, h2, h3⟩ := he j y hy
 exact ⟨vs, h1, fun i v hv => (World.cell?_of_block (a := ⟨gq, _, none⟩) (hot gq hne)).trans (h2 i v hv), hE _ _ _ _ _ _ _ h3 hb hn hsz fun k _ hk => hot k hk⟩
theorem all_calls (w : World) (v : Value) (fs : List RawF) (h : FL w v fs) (hl : fs.length ≤ 1000000000) : Calls Try.prog 91 #[v] w fun e w' => AllPost w fs e w' := by
 obtain ⟨A, c, rfl, hc⟩ := h.slice
 have HF := Hd h
 clear h
 go_enter Try.func91, Try.ntmps91
 have hmk := run_make3 108 85 _ Try.underlying108 info85m fs.length (by omega)
 go_wp2_with fail
 clear hmk
 have hr0 := Row3.made (E := EQ) w 85 fs.length #[.slice none 0 0, .slice none 0 0, .bool false] rfl ni85
 have hb0 := below_new w (.cells (madeCells #[.slice none 0 0, .slice none 0 0, .bool false] (fs.length * 3)) 85)
 generalize w.alloc (.cells (madeCells #[.slice none 0 0, .slice none 0 0, .bool false] (fs.length * 3)) 85) = W0 at *
 go_loopw [11] (fun vi wr => ∃ i : Nat, i ≤ fs.length ∧ vi = .int .i64 (i : Int) ∧ Row3 85 EQ wr w.heap.size fs.length ((fs.take i).map fixQ) ∧ Below w.heap.size w wr) (fun vi _ => fs.length - (intOf vi).toNat)
 case atStart => exact ⟨0, Nat.zero_le _, rfl, hr0, hb0⟩
 case round =>
  obtain ⟨i, hi, rfl, hrow, hb⟩ := hrel
  have HRW := Hd hrow
  have HB := Hd hb
  clear hrow hb hr0 hb0
  by_cases hlt : i < fs.length
  ·obtain ⟨f, hf⟩ : ∃ f, fs[i]? = some f := ⟨fs[i], List.getElem?_eq_getElem hlt⟩
   obtain ⟨g, o, A1, n1, c1, A2, n2, c2, rfl, hg, k0, k1, k2, HE⟩ := FL.at3 (HF.out.below EF.stays HB.out) hf
   have HFI := Hd hf
   clear hf
   have m1 : (i : Int) < (fs.length : Int) := by omega
   have m3 : (i : Int).toNat = i := by omega
   have m4 : (0 : Int) ≤ (i : Int) := by omega
   go_wp2_with fail
   have hb1 := below_new wr (.cells #[.bool f.neg, .slice A1 n1 c1, .slice A2 n2 c2] 40)
   refine (taken_calls _ _ f (HE.out.of_below hb1)).mono ?_
   rintro e w2 ⟨v, rfl, hv, hb2⟩
   obtain ⟨A5, n5, c5, A6, n6, c6, rfl, HV⟩ := hv.opened'
   have HRW2 := Hd (HRW.out.below EQ.stays (below_next hb1 hb2))
   have HB2 := Hd (below_next HB.out (below_next hb1 hb2))
   clear hv hb1 hb2
   obtain ⟨a, b, d, e0, e1, e2, f0, f1, f2⟩ := HRW2.out.cells i hlt
   go_wp2_with fail
   go_roundw
   case rel =>
    have hlen : ((fs.take i).map fixQ).length = i := by rw [List.length_map, List.length_take, Nat.min_eq_left hi]
    refine ⟨i + 1, by omega, by go_num, ?_, ?_⟩
    ·have := HRW2.out.push EQ.far (by rw [hlen]; exact hlt) HV.out (by simp [notInt])
     rw [hlen] at this
     rw [List.take_add_one, HFI.out, List.map_append]
     exact this
    ·exact Below.setCell (Below.setCell (Below.setCell HB2.out (Nat.le_refl _) _) (Nat.le_refl _) _) (Nat.le_refl _) _
   case measure => simp [intOf]; omega
  ·obtain rfl : i = fs.length := by omega
   go_wp2_with fail
   go_ret
   refine ⟨w.heap.size, rfl, Nat.le_refl _, HRW.out.lt, ?_, HB.out⟩
   have := HRW.out.done (by simp)
   rw [List.take_length] at this
   exact this
def notWord : Value → Bool | .int .u32 _ => false | _ => true
def Keeps (w w1 : World) : Prop := w.heap.size ≤ w1.heap.size ∧ ∀ (g o : Nat) (n : Int), w.cell? ⟨g, o, none⟩ = some (.int .u32 n) → w1.cell? ⟨g, o, none⟩ = some (.int .u32 n)
theorem Keeps.trans {a b c : World} (h : Keeps a b) (h2 : Keeps b c) : Keeps a c := ⟨Nat.le_trans h.1 h2.1, fun g o n h3 => h2.2 g o n (h.2 g o n h3)⟩
theorem Keeps.of_below {w w1 : World} (h : Below w.heap.size w w1) : Keeps w w1 := ⟨h.size, fun g o n hc => by
 have hlt := World.block_lt_of_cell? w _ hc
 rw [(bcell h).1 g o hlt]
 exact hc⟩
theorem Keeps.set {w : World} {a : Addr} {v u : Value} (hu : w.cell? a = some u) (hn : notWord u = true) : Keeps w (w.setCell a v) := ⟨by simp [World.setCell], fun g o n hc => by
 rw [World.cell?_setCell_other _ _ _ _ (by
  rintro rfl
  rw [hu] at hc
  injection hc with hc
  rw [hc] at hn
  cases hn)]
 exact hc⟩
theorem Keeps.apart {w w1 : World} {g t : Nat} {cs : Array Value} (hb : Blk w g t cs) (hn : ∀ x ∈ cs, notWord x = true) (hs : w.heap.size ≤ w1.heap.size) (hk : ∀ k, k < w.heap.size → k ≠ g → w1.heap[k]? = w.heap[k]?) : Keeps w w1 :=
 ⟨hs, fun g' o n hc => by
  have hlt := World.block_lt_of_cell? w _ hc
  have hne : g' ≠ g := by
   rintro rfl
   simp only [World.cell?] at hc
   rw [show w.heap[g']? = some (.cells cs t (0, 0)) from hb] at hc
   simp at hc
   obtain ⟨hl, he⟩ := Array.getElem?_eq_some_iff.1 hc
   have := hn _ (Array.getElem_mem hl)
   rw [he] at this
   cases this
  rw [World.cell?_of_block (a := ⟨g', o, none⟩) (hk g' hlt hne)]
  exact hc⟩
theorem Rd.keeps {w w1 : World} {v : Value} {xs : List Nat} (h : Rd w v xs) (hk : Keeps w w1) : Rd w1 v xs := by
 obtain ⟨hw, A, c, rfl, hc, hr⟩ := h
 refine ⟨hw, A, c, rfl, hc, fun hp => ?_⟩
 obtain ⟨g, o, rfl, hg, hj⟩ := hr hp
 exact ⟨g, o, rfl, Nat.lt_of_lt_of_le hg hk.1, fun j hjl => hk.2 _ _ _ (hj j hjl)⟩
theorem FQ.keeps {w w1 : World} {v : Value} {q : Rat} (h : FQ w v q) (hk : Keeps w w1) : FQ w1 v q := by
 obtain ⟨v1, v2, e, h1, h2⟩ := h
 exact ⟨v1, v2, e, Rd.keeps h1 hk, Rd.keeps h2 hk⟩
theorem FR.keeps {w w1 : World} {v : Value} {f : RawF} (h : FR w v f) (hk : Keeps w w1) : FR w1 v f := by
 obtain ⟨hl, v1, v2, e, h1, h2⟩ := h
 exact ⟨hl, v1, v2, e, h1.keeps hk, h2.keeps hk⟩
def Leans {α : Type} (E : World → Array Value → α → Prop) : Prop := ∀ w w1 vs x, E w vs x → Keeps w w1 → E w1 vs x
theorem EF.leans : Leans EF := fun _ _ _ _ h hk => FR.keeps h hk
def OwnR (w : World) (base e k : Nat) (v : Value) (n : Nat) (xs : List Value) : Prop :=
 xs.length = n * k ∧ ((v = .slice none 0 0 ∧ n = 0) ∨ ∃ g cap cur, v = .slice (some ⟨g, 0, none⟩) n cap ∧ base ≤ g ∧ Blk w g e cur ∧ n ≤ cap ∧ cap ≤ maxLen ∧ cur.size = cap * k ∧ cur.toList.take (n * k) = xs ∧ ∀ u ∈ cur, notWord u = true)
theorem OwnR.nil (w : World) (base e k : Nat) : OwnR w base e k (.slice none 0 0) 0 [] := ⟨by simp, .inl ⟨rfl, rfl⟩⟩
theorem OwnR.move {w w1 : World} {base e k : Nat} {v : Value} {n : Nat} {xs : List Value} (h : OwnR w base e k v n xs) (hb : ∀ g, v.ownBlock = some g → w1.heap[g]? = w.heap[g]?) : OwnR w1 base e k v n xs := by
 obtain ⟨hl, h⟩ := h
 refine ⟨hl, ?_⟩
 rcases h with h | ⟨g, cap, cur, rfl, h1, h2, h3⟩
 ·exact .inl h
 ·exact .inr ⟨g, cap, cur, rfl, h1, (hb g rfl).trans h2, h3⟩
theorem OwnR.lt {w : World} {base e k : Nat} {v : Value} {n : Nat} {xs : List Value} (h : OwnR w base e k v n xs) : ∀ g, v.ownBlock = some g → base ≤ g ∧ g < w.heap.size := by
 rcases h.2 with ⟨rfl, _⟩ | ⟨g, cap, cur, rfl, h1, h2, h3⟩
 ·intro g hg; simp [Value.ownBlock] at hg
 ·intro g' hg
  simp [Value.ownBlock] at hg
  subst hg
  exact ⟨h1, h2.lt⟩
theorem OwnR.below {w w1 : World} {base e k : Nat} {v : Value} {n : Nat} {xs : List Value} (h : OwnR w base e k v n xs) (hb : Below w.heap.size w w1) : OwnR w1 base e k v n xs := h.move fun g hg => hb.block g (h.lt g hg).2
theorem OwnR.slice {w : World} {base e k : Nat} {v : Value} {n : Nat} {xs : List Value} (h : OwnR w base e k v n xs) : ∃ A c, v = .slice A n c ∧ n ≤ c := by
 rcases h.2 with ⟨rfl, rfl⟩ | ⟨g, cap, cur, rfl, _, _, h3, _⟩
 ·exact ⟨none, 0, rfl, Nat.le_refl _⟩
 ·exact ⟨_, _, rfl, h3⟩
theorem notWord_zeros {z : Array Value} (hz : ∀ u ∈ z, notWord u = true) (n : Nat) : ∀ u ∈ Builtin.zeroCells z n, notWord u = true := fun u hu => by
 simp only [Builtin.zeroCells] at hu
 obtain ⟨i, hi, rfl⟩ := Array.getElem_of_mem hu
 simp at hi
 by_cases h0 : z.size = 0
 ·simp [h0] at hi
 ·have hp : i % z.size < z.size := Nat.mod_lt _ (by omega)
  simp only [Array.getElem_map, Array.getElem_range]
  rw [getElem!_pos z _ hp]
  exact hz _ (Array.getElem_mem hp)
section
variable {P : Program}
theorem OwnR.append {w : World} {base e k : Nat} {v : Value} {n : Nat} {xs : List Value} (h : OwnR w base e k v n xs) (t ty : TypeId) (z : Value) (bytes : Nat) (ht : P.underlying t = some (.slice e))
  (hinfo : (P.info? e).map (fun i => (i.zero, i.size, i.bytes)) = some (some z, k, bytes)) (hzs : z.cells.size = k) (hzw : ∀ u ∈ z.cells, notWord u = true)
  (a : Addr) (m c : Nat) (news : List Value) (hl : news.length = m * k) (hnews : ∀ j u, news[j]? = some u → w.cell? (a.add j) = some u) (h1 : ∀ u ∈ news, u.oneCell' = true) (hnw : ∀ u ∈ news, notWord u = true)
  (hm : 0 < m) (h63 : n + m ≤ 140737488355328) (hbytes : (n + m) * bytes ≤ 140737488355328) (hbase : base ≤ w.heap.size) :
  ∃ v' w', (Builtin.append_ #[t, t] ty #[v, .slice (some a) m c]).run P w = .ok v' w' ∧ OwnR w' base e k v' (n + m) (xs ++ news) ∧ w.grownBy w' v.ownBlock ∧ Keeps w w' ∧ (∀ g, v'.ownBlock = some g → v.ownBlock = some g ∨ w.heap.size ≤ g) := by
 obtain ⟨i, hi, hzz⟩ := Option.map_eq_some_iff.1 hinfo
 simp only [Prod.mk.injEq] at hzz
 obtain ⟨hz, hsz, hby⟩ := hzz
 subst hsz
 subst hby
 have hlen : (xs ++ news).length = (n + m) * i.size := by rw [List.length_append, h.1, hl, Nat.add_mul]
 have grown : ∀ (old : Nat), old < n + m → (∀ u ∈ xs, notWord u = true) → ∀ (row : Option Nat),
   OwnR (w.drew.alloc (.cells (xs.toArray ++ news.toArray ++ Builtin.zeroCells z.cells (grownCap w (n + m) old e - (n + m))) e)) base e i.size
    (.slice (some ⟨w.heap.size, 0, none⟩) (n + m) (grownCap w (n + m) old e)) (n + m) (xs ++ news) ∧
   w.grownBy (w.drew.alloc (.cells (xs.toArray ++ news.toArray ++ Builtin.zeroCells z.cells (grownCap w (n + m) old e - (n + m))) e)) row ∧ Keeps w (w.drew.alloc (.cells (xs.toArray ++ news.toArray ++ Builtin.zeroCells z.cells (grownCap w (n + m) old e - (n + m))) e)) := by
  intro old ho hxw row
  have hge := grownCap_ge w (n + m) old e
  have hcm : grownCap w (n + m) old e ≤ maxLen := grownCap_le_maxLen w (n + m) old e (by unfold maxLen; omega)
  refine ⟨⟨hlen, .inr ⟨w.heap.size, _, _, rfl, hbase, heap_alloc_new w.drew _, hge, hcm, ?_, ?_, fun u hu => ?_⟩⟩, ⟨rfl, rfl, rfl, by simp, fun j hj _ => heap_alloc_old w.drew _ hj⟩, Keeps.of_below (Below.alloc (Below.drew (Below.refl _ _)) (Nat.le_refl _) _)⟩
  ·simp only [Array.size_append, List.size_toArray, size_zeroCells, hzs, h.1, hl, ← Nat.add_mul]
   congr 1
   omega
  ·simp only [Array.toList_append, List.append_assoc]
   rw [← List.append_assoc, ← hlen]
   exact List.take_left
  ·simp only [Array.mem_append, List.mem_toArray] at hu
   rcases hu with (hu | hu) | hu
   ·exact hxw u hu
   ·exact hnw u hu
   ·exact notWord_zeros hzw _ u hu
 rcases h.2 with ⟨rfl, rfl⟩ | ⟨g, cap, cur, rfl, hbg, hg, hnc, hcm, hcs, htake, hcw⟩
 ·have hx : xs = [] := List.eq_nil_of_length_eq_zero (by simpa using h.1)
  subst hx
  have hr := run_append_nil (P := P) w t ty e i z ht hi hz a m c news hl hnews hm (by omega) (by have hb := hbytes; simp only [Nat.zero_add] at hb; omega)
  have hgr := grown 0 (by omega) (by simp) (Value.ownBlock (.slice none 0 0))
  simp only [Nat.zero_add, List.nil_append, Array.empty_append] at hgr ⊢
  exact ⟨_, _, hr, hgr.1, hgr.2.1, hgr.2.2, fun g hg => .inr (by simp [Value.ownBlock] at hg; omega)⟩
 ·by_cases hroom : n + m ≤ cap
  ·have hfit : n * i.size + news.length ≤ cur.size := by rw [hl, hcs, ← Nat.add_mul]; exact Nat.mul_le_mul_right _ hroom
   have hr := run_append_room (P := P) w t ty e i ht hi g n cap cur hg a m c news hl hnews h1 hroom hfit
   have hother : ∀ k, k < w.heap.size → k ≠ g → (w.setRow g (cur.toList.take (n * i.size) ++ news ++ cur.toList.drop (n * i.size + news.length)).toArray).heap[k]? = w.heap[k]? := fun k _ hk => setRow_other w g k _ hk
   refine ⟨_, _, hr, ⟨hlen, .inr ⟨g, cap, _, rfl, hbg, setRow_heap w g cur _ e _ hg, hroom, hcm, ?_, ?_, fun u hu => ?_⟩⟩, ⟨rfl, rfl, rfl, by simp, fun k hk hne => hother k hk (fun e => hne (by simp [Value.ownBlock, e]))⟩, Keeps.apart hg hcw (by simp) hother, fun q hq => .inl hq⟩
   ·simp only [List.size_toArray, List.length_append, List.length_take, List.length_drop, Array.length_toList]
    omega
   ·rw [htake, ← hlen]
    exact List.take_left
   ·simp only [List.mem_toArray, List.mem_append] at hu
    rcases hu with (hu | hu) | hu
    ·exact hcw u (by simpa using List.mem_of_mem_take hu)
    ·exact hnw u hu
    ·exact hcw u (by simpa using List.mem_of_mem_drop hu)
  ·have holds : ∀ j u, xs[j]? = some u → w.cell? ((⟨g, 0, none⟩ : Addr).add j) = some u := fun j u hj => by
    rw [add_zero']
    refine hg.cell ?_
    rw [← htake, List.getElem?_take] at hj
    split at hj
    ·simpa using hj
    ·cases hj
   have hxw : ∀ u ∈ xs, notWord u = true := fun u hu => by
    rw [← htake] at hu
    exact hcw u (by simpa using List.mem_of_mem_take hu)
   have hr := run_append_grow (P := P) w t ty e i z ht hi hz ⟨g, 0, none⟩ n cap xs h.1 holds a m c news hl hnews (by omega) (by omega) (growslice_fits (by omega) hbytes)
   have hgr := grown cap (by omega) hxw (Value.ownBlock (.slice (some ⟨g, 0, none⟩) n cap))
   exact ⟨_, _, hr, hgr.1, hgr.2.1, hgr.2.2, fun q hq => .inr (by simp [Value.ownBlock] at hq; omega)⟩
variable {ops : Array Oper} {rest : List Oper} {o : Oper} {a : Act} {Q : Exit → Act → World → Prop}
theorem wpl_appendR {W : World} (hgd : o.guard = none) (s x : Operand) (t : TypeId) (ho : o.op = .call { callee := .builtin .append, args := #[s, x], argTypes := #[t, t] }) {base e k : Nat} (z : Value) (bytes : Nat)
  (ht : P.underlying t = some (.slice e)) (hinfo : (P.info? e).map (fun i => (i.zero, i.size, i.bytes)) = some (some z, k, bytes)) (hzs : z.cells.size = k) (hzw : ∀ u ∈ z.cells, notWord u = true)
  (v : Value) (n : Nat) (xs : List Value) (hs : a.eval s = v) (hown : OwnR W base e k v n xs)
  (ad : Addr) (m c : Nat) (news : List Value) (hx : a.eval x = .slice (some ad) m c) (hl : news.length = m * k) (hnews : ∀ j u, news[j]? = some u → W.cell? (ad.add j) = some u) (h1 : ∀ u ∈ news, u.oneCell' = true) (hnw : ∀ u ∈ news, notWord u = true)
  (hm : 0 < m) (h63 : n + m ≤ 140737488355328) (hbytes : (n + m) * bytes ≤ 140737488355328) (hbase : base ≤ W.heap.size)
  (h : ∀ v' w', OwnR w' base e k v' (n + m) (xs ++ news) → W.grownBy w' v.ownBlock → Keeps W w' → (∀ g, v'.ownBlock = some g → v.ownBlock = some g ∨ W.heap.size ≤ g) → wpList P ops Q rest (a.put o.dst v') w') : wpList P ops Q (o :: rest) a W :=
 wpList_plain hgd fun K hK => by
  obtain ⟨v', w', hr, h2, h3, h4, h5⟩ := hown.append (P := P) t o.type z bytes ht hinfo hzs hzw ad m c news hl hnews h1 hnw hm h63 hbytes hbase
  unfold Oper.wp execOp
  simp only [ho, resolve, invoke, builtin, Sem.run_bind, Sem.run_pure, Result.andThen_ok, List.map_toArray, List.map_cons, List.map_nil, hs, hx, hr]
  exact hK _ _ (h v' w' h2 h3 h4 h5)
end
def OL {α : Type} (k e : Nat) (E : World → Array Value → α → Prop) (base : Nat) (w : World) (v : Value) (ys : List α) : Prop :=
 ∃ xs, OwnR w base e k v ys.length xs ∧ ∀ j a, ys[j]? = some a → ∃ vs : Array Value, vs.size = k ∧ (∀ i u, vs[i]? = some u → xs[j * k + i]? = some u) ∧ E w vs a
section
variable {α : Type} {k e : Nat} {E : World → Array Value → α → Prop} {base : Nat} {w w1 : World} {v : Value} {ys : List α}
theorem OL.nil (k e : Nat) (E : World → Array Value → α → Prop) (base : Nat) (w : World) : OL k e E base w (.slice none 0 0) [] := ⟨[], OwnR.nil _ _ _ _, fun j a h => by simp at h⟩
theorem OL.below (hE : Stays E) (h : OL k e E base w v ys) (hb : Below w.heap.size w w1) : OL k e E base w1 v ys := by
 obtain ⟨xs, h1, h2⟩ := h
 refine ⟨xs, h1.below hb, fun j a hj => ?_⟩
 obtain ⟨vs, h3, h4, h5⟩ := h2 j a hj
 exact ⟨vs, h3, h4, hE _ _ _ _ h5 hb⟩
theorem OL.slice (h : OL k e E base w v ys) : ∃ A c, v = .slice A ys.length c ∧ ys.length ≤ c := by
 obtain ⟨xs, h1, _⟩ := h
 exact h1.slice
theorem OL.lt (h : OL k e E base w v ys) : ∀ g, v.ownBlock = some g → base ≤ g ∧ g < w.heap.size := by
 obtain ⟨xs, h1, _⟩ := h
 exact h1.lt
theorem OL.sl (h : OL k e E base w v ys) : SL k E w v ys := by
 obtain ⟨xs, ⟨hl, h1⟩, h2⟩ := h
 rcases h1 with ⟨rfl, h0⟩ | ⟨g, cap, cur, rfl, hb, hk, hnc, hcm, hcs, htake, hw⟩
 ·exact ⟨none, 0, by rw [h0], by omega, fun hp => by omega⟩
 ·refine ⟨_, cap, rfl, hnc, fun hp => ⟨g, 0, rfl, hk.lt, fun j x hj => ?_⟩⟩
  obtain ⟨vs, h3, h4, h5⟩ := h2 j x hj
  refine ⟨vs, h3, fun i u hi => ?_, h5⟩
  have h6 := h4 i u hi
  rw [Nat.zero_add]
  refine hk.cell ?_
  rw [← htake, List.getElem?_take] at h6
  split at h6
  ·simpa using h6
  ·cases h6
theorem sq26 (P : Prop) (h : P := by
 have h0 : j - ys.length = 0 := by
  have := (List.getElem?_eq_some_iff.1 hj).1
  simp at this
  omega
 rw [h0] at hj
 have hba : b = a := by simpa using hj
 subst hba
 obtain rfl : j = ys.length := by omega
 refine ⟨vs, hv, fun i u hi => ?_, hE _ _ _ _ hb hk⟩
 rw [← h1.1, List.getElem?_append_right (by omega), Nat.add_sub_cancel_left]
 simpa using hi) : P := h
theorem OL.push (hE : Leans E) {v' : Value} {vs : Array Value} {b : α} (h : OL k e E base w v ys) (hv : vs.size = k) (hb : E w vs b) (hk : Keeps w w1) (hown : ∀ xs, OwnR w base e k v ys.length xs → OwnR w1 base e k v' (ys.length + 1) (xs ++ vs.toList)) : OL k e E base w1 v' (ys ++ [b]) := by
 obtain ⟨xs, h1, h2⟩ := h
 refine ⟨xs ++ vs.toList, by rw [List.length_append]; exact hown xs h1, fun j a hj => ?_⟩
 rw [List.getElem?_append] at hj
 split at hj
 ·rename_i hlt
  obtain ⟨us, h3, h4, h5⟩ := h2 j a hj
  refine ⟨us, h3, fun i u hi => ?_, hE _ _ _ _ h5 hk⟩
  have h6 := h4 i u hi
  rw [List.getElem?_append_left (List.getElem?_eq_some_iff.1 h6).1]
  exact h6
 ·rename_i hge
  exact sq26 _
end
def sumQ (l : List Rat) : Rat := l.foldl (· + ·) 0
theorem sumQ_snoc (l : List Rat) (q : Rat) : sumQ (l ++ [q]) = sumQ l + q := by unfold sumQ; rw [List.foldl_append]; rfl
theorem fit_zero : FitQ 1 0 := by unfold FitQ; decide +kernel
theorem fit_fold (k : Nat) : ∀ (l : List Rat) (c : Nat) (a : Rat), FitQ c a → (∀ q ∈ l, FitQ k q) → FitQ (l.length * (k + 1) + c) (l.foldl (· + ·) a)
 | [], c, a, ha, _ => by simpa using ha
 | q :: l, c, a, ha, h => by
  have := fit_fold k l (c + k + 1) (a + q) (fit_add ha (h q (by simp)) (Nat.le_refl _)) fun x hx => h x (List.mem_cons_of_mem _ hx)
  rw [List.foldl_cons]
  refine fit_mono this ?_
  rw [List.length_cons, Nat.add_mul]
  omega
theorem fit_sum (l : List Rat) (k : Nat) (h : ∀ q ∈ l, FitQ k q) : FitQ (l.length * (k + 1) + 1) (sumQ l) := fit_fold k l 1 0 fit_zero h
def Acc (W : World) (g : Nat) (q : Rat) : Prop := ∃ A1 n1 c1 A2 n2 c2, Blk W g 85 #[.slice A1 n1 c1, .slice A2 n2 c2, .bool (negQ q)] ∧ RQ W (.agg #[.slice A1 n1 c1, .slice A2 n2 c2, .bool (negQ q)]) q
theorem Acc.step {W W' : World} {g : Nat} {q : Rat} (h : Acc W g q) (hb : Below W.heap.size W W') : Acc W' g q := by
 obtain ⟨A1, n1, c1, A2, n2, c2, h1, h2⟩ := h
 exact ⟨A1, n1, c1, A2, n2, c2, h1.below hb h1.lt, h2.of_below hb⟩
theorem ni_acc {A1 A2 : Option Addr} {n1 c1 n2 c2 : Nat} {s : Bool} : ∀ u ∈ #[Value.slice A1 n1 c1, .slice A2 n2 c2, .bool s], notInt u = true := by simp [notInt]
theorem Acc.put {W : World} {g : Nat} {q p : Rat} {A1 A2 : Option Addr} {n1 c1 n2 c2 : Nat} (h : Acc W g q) (hp : RQ W (.agg #[.slice A1 n1 c1, .slice A2 n2 c2, .bool (negQ p)]) p) : Acc (((W.setCell ⟨g, 0, none⟩ (.slice A1 n1 c1)).setCell ⟨g, 1, none⟩ (.slice A2 n2 c2)).setCell ⟨g, 2, none⟩ (.bool (negQ p))) g p := by
 obtain ⟨_, _, _, _, _, _, h1, _⟩ := h
 exact ⟨A1, n1, c1, A2, n2, c2, h1.put3 _ _ _, hp.put3 h1 ni_acc _ _ _⟩
theorem HS.other3 {w W : World} {bs : List (Nat × Nat × Array Value)} {g : Nat} (h : HS w bs W) (hg : w.heap.size ≤ g) (hne : ∀ b ∈ bs, b.1 ≠ g) (x y z : Value) : HS w bs (((W.setCell ⟨g, 0, none⟩ x).setCell ⟨g, 1, none⟩ y).setCell ⟨g, 2, none⟩ z) := by
 refine ⟨fun b hm => ?_, below_put3 h.2 hg x y z⟩
 exact (((h.1 b hm).other (a := ⟨g, 0, none⟩) (hne b hm) x).other (a := ⟨g, 1, none⟩) (hne b hm) y).other (a := ⟨g, 2, none⟩) (hne b hm) z
theorem fit_all (fs : List RawF) : ∀ q ∈ fs.map fixQ, FitQ 4096 q := fun q hq => by
 obtain ⟨f, _, rfl⟩ := List.mem_map.1 hq
 exact fit_fix f
theorem size_sums (fs : List RawF) (i : Nat) (hl : fs.length ≤ 100000) : sizeQ (sumQ ((fs.map fixQ).take i)) ≤ 4000000000 := by
 have := (fit_sum ((fs.map fixQ).take i) 4096 fun q hq => fit_all fs q (List.mem_of_mem_take hq)).size
 have h2 : ((fs.map fixQ).take i).length ≤ 100000 := by rw [List.length_take, List.length_map]; omega
 have h3 := Nat.mul_le_mul_right 4097 h2
 omega
theorem fsum_calls (w : World) (v : Value) (fs : List RawF) (h : FL w v fs) (hl : fs.length ≤ 100000) : Calls Try.prog 54 #[v] w fun e w' => FPost w (capQ (sumQ (fs.map fixQ))) e w' := by
 obtain ⟨A, c, rfl, hc⟩ := h.slice
 have HF := Hd h
 clear h
 go_enter Try.func54, Try.ntmps54
 go_wp2_with fail
 have H0 := Hd (HS.one (w := w) #[.bool false, .slice none 0 0, .slice none 0 0] 40)
 generalize w.alloc (.cells #[.bool false, .slice none 0 0, .slice none 0 0] 40) = W0 at *
 refine (whole_calls W0 0 (by decide) (by decide)).mono ?_
 rintro e w1 ⟨v, rfl, hv, hb⟩
 obtain ⟨A5, n5, c5, A6, n6, c6, rfl, HV⟩ := hv.opened'
 have H1 := Hd (H0.out.step hb)
 clear hb hv
 go_wp2_with fail
 have HA0 := Hd (show Acc (w1.alloc (.cells #[.slice A5 n5 c5, .slice A6 n6 c6, .bool (negQ 0)] 85)) w1.heap.size 0 from ⟨A5, n5, c5, A6, n6, c6, Blk.new _ _ _, HV.out.of_below (below_new _ _)⟩)
 have H2 := Hd (H1.out.more (.cells #[.slice A5 n5 c5, .slice A6 n6 c6, .bool (negQ 0)] 85))
 have hg0 := (H1.out.blk 0 rfl).lt
 have hw0 := H1.out.2.size
 have HF2 := Hd (HF.out.below EF.stays H2.out.2)
 obtain ⟨g3, hg3⟩ : ∃ g3, g3 = w1.heap.size := ⟨_, rfl⟩
 rw [← hg3] at HA0 hg0 hw0
 have HG3 := Hd hg3
 generalize w1.alloc (.cells #[.slice A5 n5 c5, .slice A6 n6 c6, .bool (negQ 0)] 85) = W2 at *
 rw [← hg3]
 clear hg3
 refine (all_calls _ _ fs HF2.out (by omega)).mono ?_
 rintro e w3 ⟨gq, rfl, hgq, hgq2, hql, hb⟩
 have HA3 := Hd (HA0.out.step hb)
 have hgq3 : g3 < gq := by obtain ⟨_, _, _, _, _, _, h1, _⟩ := HA0.out; have := h1.lt; omega
 have H3 := Hd (H2.out.step hb)
 have HQL := Hd hql
 clear hb hql
 go_wp2_with fail
 go_loopw [10] (fun vi wr => ∃ i : Nat, i ≤ fs.length ∧ vi = .int .i64 (i : Int) ∧ Acc wr g3 (sumQ ((fs.map fixQ).take i)) ∧ QL wr (.slice (some ⟨gq, 0, none⟩) fs.length fs.length) (fs.map fixQ) ∧ HS w [(w.heap.size, 40, #[.bool false, .slice none 0 0, .slice none 0 0])] wr) (fun vi _ => fs.length - (intOf vi).toNat)
 case atStart => exact ⟨0, Nat.zero_le _, rfl, HA3.out, HQL.out, H3.out⟩
 case round =>
  obtain ⟨i, hi, rfl, hacc, hq, hs⟩ := hrel
  have HA4 := Hd hacc
  have HQ4 := Hd hq
  have H4 := Hd hs
  clear hacc hq hs
  by_cases hlt : i < fs.length
  ·obtain ⟨q, hqi⟩ : ∃ q, (fs.map fixQ)[i]? = some q := ⟨(fs.map fixQ)[i]'(by simpa using hlt), List.getElem?_eq_getElem (by simpa using hlt)⟩
   obtain ⟨g', o', A1, n1, c1, A2, n2, c2, eA, hg, k0, k1, k2, HE⟩ := QL.at3 HQ4.out hqi
   injection eA with eA
   injection eA with eA1 eA2
   subst eA1 eA2
   rw [Nat.zero_add] at k0 k1 k2
   have HQI := Hd hqi
   have hsq : sizeQ q ≤ 4000000000 := by
    have := (fit_all fs q (List.mem_of_getElem? hqi)).size
    omega
   clear hqi
   have m1 : (i : Int) < (fs.length : Int) := by omega
   have m3 : (i : Int).toNat = i := by omega
   have m4 : (0 : Int) ≤ (i : Int) := by omega
   have hsz := size_sums fs i hl
   obtain ⟨B1, k1', d1, B2, k2', d2, hk, hR⟩ := HA4.out
   have HR1 := Hd hR
   have HK := Hd hk
   obtain ⟨a0, a1, a2⟩ := hk.c3
   have hlt3 := hk.lt
   clear hR hk
   go_wp2_with fail
   have hb1 := below_new wr (.cells #[.slice A1 n1 c1, .slice A2 n2 c2, .bool (negQ q)] 85)
   refine (plus_calls _ _ _ _ _ (HR1.out.of_below hb1) (HE.out.of_below hb1) hsz hsq).mono ?_
   rintro e w2 ⟨v, rfl, hv, hb2⟩
   obtain ⟨A7, n7, c7, A8, n8, c8, rfl, HV⟩ := hv.opened'
   have hbb := below_next hb1 hb2
   have HA5 := Hd (HA4.out.step hbb)
   have HQ5 := Hd (HQ4.out.below EQ.stays hbb)
   have H5 := Hd (H4.out.step hbb)
   obtain ⟨_, _, _, _, _, _, hk5, _⟩ := HA5.out
   obtain ⟨a0', a1', a2'⟩ := hk5.c3
   obtain ⟨f0, f1, f2⟩ := hk5.f3
   have HK5 := Hd hk5
   clear hv hb1 hb2 hbb hk5
   go_wp2_with fail
   go_roundw
   case rel =>
    refine ⟨i + 1, by omega, by go_num, ?_, HQ5.out.put3 EQ.far HK5.out ni_acc (by omega), H5.out.other3 (by omega) (by simp; omega) _ _ _⟩
    rw [List.take_add_one, HQI.out]
    have e : sumQ (List.take i (List.map fixQ fs) ++ (some q).toList) = sumQ (List.take i (List.map fixQ fs)) + q := sumQ_snoc _ _
    rw [e]
    exact HA5.out.put HV.out
   case measure => simp [intOf]; omega
  ·obtain rfl : i = fs.length := by omega
   rw [show (fs.map fixQ).take fs.length = fs.map fixQ from List.take_of_length_le (by simp)] at HA4
   obtain ⟨B1, k1', d1, B2, k2', d2, hk, hR⟩ := HA4.out
   have HR1 := Hd hR
   obtain ⟨a0, a1, a2⟩ := hk.c3
   clear hR hk
   have hsz := size_sums fs fs.length hl
   rw [show (fs.map fixQ).take fs.length = fs.map fixQ from List.take_of_length_le (by simp)] at hsz
   go_wp2_with fail
   refine (told_calls _ _ _ HR1.out hsz).mono ?_
   rintro e w2 ⟨v, rfl, hv, hb2⟩
   obtain ⟨A7, n7, c7, A8, n8, c8, rfl, HV⟩ := hv.opened
   have H5 := Hd (H4.out.step hb2)
   clear hv hb2
   obtain ⟨e0, e1, e2⟩ := (H5.out.blk 0 rfl).c3
   obtain ⟨f0, f1, f2⟩ := (H5.out.blk 0 rfl).f3
   go_wp2_with fail
   exact end40 Try.results54 rfl (H5.out.blk 0 rfl) HV.out (Nat.le_refl _) H5.out.2
def dotQ (a b : List Rat) : Rat := sumQ (List.zipWith (· * ·) a b)
theorem fit_dots (fs gs : List RawF) : ∀ q ∈ List.zipWith (· * ·) (fs.map fixQ) (gs.map fixQ), FitQ 8192 q := fun q hq => by
 obtain ⟨i, hi, rfl⟩ := List.getElem_of_mem hq
 rw [List.getElem_zipWith, List.getElem_map, List.getElem_map]
 exact fit_mul (fit_fix _) (fit_fix _) (by omega)
theorem size_dots (fs gs : List RawF) (i : Nat) (hl : fs.length ≤ 100000) : sizeQ (sumQ ((List.zipWith (· * ·) (fs.map fixQ) (gs.map fixQ)).take i)) ≤ 4000000000 := by
 have := (fit_sum ((List.zipWith (· * ·) (fs.map fixQ) (gs.map fixQ)).take i) 8192 fun q hq => fit_dots fs gs q (List.mem_of_mem_take hq)).size
 have h2 : ((List.zipWith (· * ·) (fs.map fixQ) (gs.map fixQ)).take i).length ≤ 100000 := by rw [List.length_take, List.length_zipWith, List.length_map]; omega
 have h3 := Nat.mul_le_mul_right 8193 h2
 omega
theorem fdot_calls (w : World) (v v2 : Value) (fs gs : List RawF) (h : FL w v fs) (h2 : FL w v2 gs) (hl : fs.length ≤ 100000) (hl2 : gs.length ≤ 100000) : Calls Try.prog 55 #[v, v2] w fun e w' => FPost w (capQ (dotQ (fs.map fixQ) (gs.map fixQ))) e w' := by
 obtain ⟨A, c, rfl, hc⟩ := h.slice
 obtain ⟨A', c', rfl, hc'⟩ := h2.slice
 have HF := Hd h
 have HG := Hd h2
 obtain ⟨ds, hds⟩ : ∃ ds, ds = List.zipWith (· * ·) (fs.map fixQ) (gs.map fixQ) := ⟨_, rfl⟩
 have HDS := Hd hds
 rw [show dotQ (fs.map fixQ) (gs.map fixQ) = sumQ ds from by rw [hds]; rfl]
 have hszs : ∀ i, sizeQ (sumQ (ds.take i)) ≤ 4000000000 := by rw [hds]; exact fun i => size_dots fs gs i hl
 have HSZ := Hd hszs
 clear h h2 hds hszs
 go_enter Try.func55, Try.ntmps55
 obtain ⟨m, hm⟩ : ∃ m : Nat, min (fs.length : Int) (gs.length : Int) = (m : Int) := ⟨min fs.length gs.length, by omega⟩
 have h1 : m ≤ fs.length := by omega
 have h2 : m ≤ gs.length := by omega
 have HM : Hid (m = min fs.length gs.length) := by unfold Hid; omega
 have h3 : (m : Int) ≤ (c : Int) := by omega
 have h4 : (m : Int) ≤ (c' : Int) := by omega
 have h5 : (m : Int).toNat = m := by omega
 go_wp2_with fail
 clear hm
 have H0 := Hd (HS.one (w := w) #[.bool false, .slice none 0 0, .slice none 0 0] 40)
 generalize w.alloc (.cells #[.bool false, .slice none 0 0, .slice none 0 0] 40) = W0 at *
 have HF1 := Hd (HF.out.take m h1 (Nat.le_refl _))
 have HG1 := Hd (HG.out.take m h2 (Nat.le_refl _))
 have lf : (fs.take m).length = m := by rw [List.length_take]; omega
 have lg : (gs.take m).length = m := by rw [List.length_take]; omega
 have LF := Hd lf
 have LG := Hd lg
 clear lf lg
 go_region_held3 (fun W => HS w [(w.heap.size, 40, #[.bool false, .slice none 0 0, .slice none 0 0])] W)
  (first
   | exact H0.out.drew
   | assumption
   | exact HS.step ‹HS _ _ _› ‹_›)
  (first
   | (go_at_call_of 91 (Value.slice A m m); refine (all_calls _ _ (fs.take m) (HF1.out.below EF.stays (HS.step ‹HS _ _ _› (Below.refl _ _)).2) (by rw [LF.out]; omega)).mono ?_; rintro e w3 ⟨gq, rfl, hgq, hgq2, hql, hb⟩; rw [LF.out])
   | (go_at_call_of 91 (Value.slice A' m m); refine (all_calls _ _ (gs.take m) (HG1.out.below EF.stays (HS.step ‹HS _ _ _› (Below.refl _ _)).2) (by rw [LG.out]; omega)).mono ?_; rintro e w4 ⟨gp, rfl, hgp, hgp2, hpl, hb4⟩; have H4 := Hd (HS.step ‹HS _ _ _› hb4); rw [LG.out]))
 have HQL := Hd (hql.below EQ.stays hb4)
 have HPL := Hd hpl
 rw [LF.out] at HQL
 rw [LG.out] at HPL
 clear hql hpl hb hb4
 have hgq4 : gq < w4.heap.size := by have := HQL.out; have := H4.out.2.size; have := HPL; omega
 go_wp2_with fail
 refine (whole_calls w4 0 (by decide) (by decide)).mono ?_
 rintro e w5 ⟨v, rfl, hv, hb⟩
 obtain ⟨A5, n5, c5, A6, n6, c6, rfl, HV⟩ := hv.opened'
 have H5 := Hd (H4.out.step hb)
 have HQ5 := Hd (HQL.out.below EQ.stays hb)
 have HP5 := Hd (HPL.out.below EQ.stays hb)
 have hs5 := hb.size
 have hg0 := (H5.out.blk 0 rfl).lt
 clear hv hb
 have HA0 := Hd (show Acc (w5.alloc (.cells #[.slice A5 n5 c5, .slice A6 n6 c6, .bool (negQ 0)] 85)) w5.heap.size 0 from ⟨A5, n5, c5, A6, n6, c6, Blk.new _ _ _, HV.out.of_below (below_new _ _)⟩)
 have H6 := Hd (H5.out.more (.cells #[.slice A5 n5 c5, .slice A6 n6 c6, .bool (negQ 0)] 85))
 have HQ6 := Hd (HQ5.out.below EQ.stays (below_new w5 (.cells #[.slice A5 n5 c5, .slice A6 n6 c6, .bool (negQ 0)] 85)))
 have HP6 := Hd (HP5.out.below EQ.stays (below_new w5 (.cells #[.slice A5 n5 c5, .slice A6 n6 c6, .bool (negQ 0)] 85)))
 go_wp2_with fail
 obtain ⟨g3, hg3⟩ : ∃ g3, g3 = w5.heap.size := ⟨_, rfl⟩
 rw [← hg3] at HA0
 have hq3 : gq ≠ g3 := by omega
 have hp3 : gp ≠ g3 := by omega
 have h03 : w.heap.size ≠ g3 := by omega
 have hw3 : w.heap.size ≤ g3 := by omega
 generalize w5.alloc (.cells #[.slice A5 n5 c5, .slice A6 n6 c6, .bool (negQ 0)] 85) = W6 at *
 rw [← hg3]
 clear hg3
 go_loopw [28] (fun vi wr => ∃ i : Nat, i ≤ m ∧ vi = .int .i64 (i : Int) ∧ Acc wr g3 (sumQ (ds.take i)) ∧ QL wr (.slice (some ⟨gq, 0, none⟩) m m) ((fs.take m).map fixQ) ∧ QL wr (.slice (some ⟨gp, 0, none⟩) m m) ((gs.take m).map fixQ) ∧ HS w [(w.heap.size, 40, #[.bool false, .slice none 0 0, .slice none 0 0])] wr) (fun vi _ => m - (intOf vi).toNat)
 case atStart => exact ⟨0, Nat.zero_le _, rfl, HA0.out, HQ6.out, HP6.out, H6.out⟩
 case round =>
  obtain ⟨i, hi, rfl, hacc, hq, hp, hs⟩ := hrel
  have HA4 := Hd hacc
  have HQ4 := Hd hq
  have HP4 := Hd hp
  have H7 := Hd hs
  clear hacc hq hp hs
  by_cases hlt : i < m
  ·have hif : i < fs.length := by omega
   have hig : i < gs.length := by omega
   have e1 : ((fs.take m).map fixQ)[i]? = some (fixQ fs[i]) := by simp [List.getElem?_map, List.getElem?_take, hlt, List.getElem?_eq_getElem hif]
   have e2 : ((gs.take m).map fixQ)[i]? = some (fixQ gs[i]) := by simp [List.getElem?_map, List.getElem?_take, hlt, List.getElem?_eq_getElem hig]
   have e3 : ds[i]? = some (fixQ fs[i] * fixQ gs[i]) := by rw [HDS.out]; simp [List.getElem?_zipWith, List.getElem?_eq_getElem hif, List.getElem?_eq_getElem hig]
   obtain ⟨p, hp⟩ : ∃ p, p = fixQ fs[i] := ⟨_, rfl⟩
   obtain ⟨q, hq⟩ : ∃ q, q = fixQ gs[i] := ⟨_, rfl⟩
   have fp : FitQ 4096 p := hp ▸ fit_fix _
   have fq : FitQ 4096 q := hq ▸ fit_fix _
   rw [← hp, ← hq] at e3
   rw [← hp] at e1
   rw [← hq] at e2
   clear hp hq
   obtain ⟨g', o', A1, n1, c1, A2, n2, c2, eA, hg, k0, k1, k2, HE⟩ := QL.at3 HQ4.out e1
   injection eA with eA
   injection eA with eA1 eA2
   subst eA1 eA2
   obtain ⟨g', o', A3, n3, c3, A4, n4, c4, eA, hg', k0', k1', k2', HE'⟩ := QL.at3 HP4.out e2
   injection eA with eA
   injection eA with eA1 eA2
   subst eA1 eA2
   rw [Nat.zero_add] at k0 k1 k2 k0' k1' k2'
   have HE3 := Hd e3
   clear e1 e2 e3
   have s1 : sizeQ p ≤ 4000000000 := by have := fp.size; omega
   have s2 : sizeQ q ≤ 4000000000 := by have := fq.size; omega
   have s3 : sizeQ (p * q) ≤ 4000000000 := by have := (fit_mul fp fq (Nat.le_refl _)).size; omega
   have s4 : sizeQ (sumQ (ds.take i)) ≤ 4000000000 := HSZ.out i
   clear fp fq
   have m1 : (i : Int) < (m : Int) := by omega
   have m3 : (i : Int).toNat = i := by omega
   have m4 : (0 : Int) ≤ (i : Int) := by omega
   obtain ⟨B1, b1, d1, B2, b2, d2, hk, hR⟩ := HA4.out
   have HR1 := Hd hR
   have HK := Hd hk
   obtain ⟨a0, a1, a2⟩ := hk.c3
   obtain ⟨f0, f1, f2⟩ := hk.f3
   have hlt3 := hk.lt
   clear hR hk
   go_wp2_with fail
   have HB0 := Hd (Below.refl wr.heap.size wr)
   refine wp_chain (S := Below wr.heap.size wr) 11 [([0, 1, 2, 3, 4, 5, 6, 7, 8], 9), ([], 10), ([], 11)] (by kernel_rfl) (by kernel_rfl) (by kernel_rfl) rfl (Below.drew (Below.refl _ _)) ?_
   refine ⟨?_, _, ?_, rfl, ?_⟩
   rotate_left
   ·repeat (refine pu ?_; (try simp only [SQ]))
    exact rfl
   go_wp2_with fail
   refine (times_calls _ _ _ p q (HE.out.of_below (Below.drew (Below.refl _ _))) (HE'.out.of_below (Below.drew (Below.refl _ _))) s1 s2).mono ?_
   rintro e w7 ⟨v, rfl, hv, hb⟩
   obtain ⟨A5, n5, c5, A6, n6, c6, rfl, HV5⟩ := hv.opened'
   have HB7 := Hd (below_next (Below.drew (Below.refl wr.heap.size wr)) hb)
   clear hv hb
   go_wp2_with fail
   refine And.intro HB7.out ⟨_, _, rfl, rfl, ?_⟩
   go_wp2_with fail
   refine (plus_calls _ _ _ _ _ (HR1.out.of_below HB7.out) HV5.out s4 s3).mono ?_
   rintro e w8 ⟨v, rfl, hv, hb⟩
   obtain ⟨A7, n7, c7, A8, n8, c8, rfl, HV6⟩ := hv.opened'
   have HB8 := Hd (below_next HB7.out hb)
   clear hv hb
   go_wp2_with fail
   refine And.intro HB8.out ⟨_, _, rfl, rfl, ?_⟩
   have HA5 := Hd (HA4.out.step HB8.out)
   obtain ⟨_, _, _, _, _, _, hk5, _⟩ := HA5.out
   obtain ⟨y0, y1, y2⟩ := hk5.c3
   obtain ⟨f0, f1, f2⟩ := hk5.f3
   have HK5 := Hd hk5
   clear hk5
   go_wp2_with fail
   refine NoPanic.normal ?_
   go_wp2_with fail
   go_roundw
   case rel =>
    refine ⟨i + 1, by omega, by go_num, ?_, (HQ4.out.below EQ.stays HB8.out).put3 EQ.far HK5.out ni_acc hq3, (HP4.out.below EQ.stays HB8.out).put3 EQ.far HK5.out ni_acc hp3, (H7.out.step HB8.out).other3 hw3 (by simp; omega) _ _ _⟩
    rw [List.take_add_one, HE3.out]
    have e : sumQ (List.take i ds ++ (some (p * q)).toList) = sumQ (List.take i ds) + p * q := sumQ_snoc _ _
    rw [e]
    exact HA5.out.put HV6.out
   case measure => simp [intOf]; omega
  ·obtain rfl : i = m := by omega
   have hzl : ds.take i = ds := List.take_of_length_le (by rw [HDS.out, List.length_zipWith, List.length_map, List.length_map]; have := HM.out; omega)
   have hsz := HSZ.out i
   rw [hzl] at HA4 hsz
   obtain ⟨B1, k1', d1, B2, k2', d2, hk, hR⟩ := HA4.out
   have HR1 := Hd hR
   obtain ⟨a0, a1, a2⟩ := hk.c3
   clear hR hk hzl
   go_wp2_with fail
   refine (told_calls _ _ _ HR1.out hsz).mono ?_
   rintro e w2 ⟨v, rfl, hv, hb2⟩
   obtain ⟨A7, n7, c7, A8, n8, c8, rfl, HV⟩ := hv.opened
   have H8 := Hd (H7.out.step hb2)
   clear hv hb2
   obtain ⟨e0, e1, e2⟩ := (H8.out.blk 0 rfl).c3
   obtain ⟨f0, f1, f2⟩ := (H8.out.blk 0 rfl).f3
   go_wp2_with fail
   exact end40 Try.results55 rfl (H8.out.blk 0 rfl) HV.out (Nat.le_refl _) H8.out.2
structure RowF where
 a : List RawF
 s : Int
 b : RawF
structure ProgF where
 vars : Int
 free : List Bool
 goal : List RawF
 rows : List RowF
def I64 (n : Int) : Prop := -9223372036854775808 ≤ n ∧ n ≤ 9223372036854775807
def EB (w : World) (vs : Array Value) (b : Bool) : Prop := vs = #[.bool b]
abbrev BL (w : World) (v : Value) (bs : List Bool) : Prop := SL 1 EB w v bs
def ER (w : World) (vs : Array Value) (r : RowF) : Prop := ∃ v A1 n1 c1 A2 n2 c2, vs = #[v, .int .i64 r.s, .bool r.b.neg, .slice A1 n1 c1, .slice A2 n2 c2] ∧ I64 r.s ∧ FL w v r.a ∧ FR w (.agg #[.bool r.b.neg, .slice A1 n1 c1, .slice A2 n2 c2]) r.b
abbrev RL (w : World) (v : Value) (rs : List RowF) : Prop := SL 5 ER w v rs
def PR (w : World) (v : Value) (p : ProgF) : Prop := ∃ v1 v2 v3, v = .agg #[.int .i64 p.vars, v1, v2, v3] ∧ I64 p.vars ∧ BL w v1 p.free ∧ FL w v2 p.goal ∧ RL w v3 p.rows
theorem EB.stays : Stays EB := fun _ _ _ _ h _ => h
theorem ER.stays : Stays ER := fun _ _ _ _ h hb => by
 obtain ⟨v, A1, n1, c1, A2, n2, c2, e, hs, h1, h2⟩ := h
 exact ⟨v, A1, n1, c1, A2, n2, c2, e, hs, h1.below EF.stays hb, h2.of_below hb⟩
theorem PR.of_below {w w1 : World} {v : Value} {p : ProgF} (h : PR w v p) (hb : Below w.heap.size w w1) : PR w1 v p := by
 obtain ⟨v1, v2, v3, e, hv, h1, h2, h3⟩ := h
 exact ⟨v1, v2, v3, e, hv, h1.below EB.stays hb, h2.below EF.stays hb, h3.below ER.stays hb⟩
theorem PR.opened {w : World} {v : Value} {p : ProgF} (h : PR w v p) : ∃ A1 c1 A2 c2 A3 c3, v = .agg #[.int .i64 p.vars, .slice A1 p.free.length c1, .slice A2 p.goal.length c2, .slice A3 p.rows.length c3] ∧ Hid (I64 p.vars) ∧ Hid (BL w (.slice A1 p.free.length c1) p.free) ∧ Hid (FL w (.slice A2 p.goal.length c2) p.goal) ∧ Hid (RL w (.slice A3 p.rows.length c3) p.rows) := by
 obtain ⟨v1, v2, v3, rfl, hv, h1, h2, h3⟩ := h
 obtain ⟨A1, c1, rfl, _⟩ := h1.slice
 obtain ⟨A2, c2, rfl, _⟩ := h2.slice
 obtain ⟨A3, c3, rfl, _⟩ := h3.slice
 exact ⟨A1, c1, A2, c2, A3, c3, rfl, hv, h1, h2, h3⟩
theorem RL.at5 {w : World} {A : Option Addr} {n c : Nat} {rs : List RowF} (h : RL w (.slice A n c) rs) {j : Nat} {r : RowF} (hj : rs[j]? = some r) :
  ∃ g o A1 c1 A2 n2 c2 A3 n3 c3, A = some ⟨g, o, none⟩ ∧ g < w.heap.size ∧ w.cell? ⟨g, o + j * 5, none⟩ = some (.slice A1 r.a.length c1) ∧ w.cell? ⟨g, o + j * 5 + 1, none⟩ = some (.int .i64 r.s) ∧ w.cell? ⟨g, o + j * 5 + 2, none⟩ = some (.bool r.b.neg) ∧
   w.cell? ⟨g, o + j * 5 + 3, none⟩ = some (.slice A2 n2 c2) ∧ w.cell? ⟨g, o + j * 5 + 4, none⟩ = some (.slice A3 n3 c3) ∧ Hid (I64 r.s) ∧ Hid (FL w (.slice A1 r.a.length c1) r.a) ∧ Hid (FR w (.agg #[.bool r.b.neg, .slice A2 n2 c2, .slice A3 n3 c3]) r.b) := by
 obtain ⟨g, o, vs, hA, hg, hs, hc, v, A2, n2, c2, A3, n3, c3, rfl, hI, h1, h2⟩ := h.at_ hj
 obtain ⟨A1, c1, rfl, _⟩ := h1.slice
 exact ⟨g, o, A1, c1, A2, n2, c2, A3, n3, c3, hA, hg, hc 0 _ rfl, hc 1 _ rfl, hc 2 _ rfl, hc 3 _ rfl, hc 4 _ rfl, hI, h1, h2⟩
def rowBad (vars : Int) (r : RowF) : Bool := decide ((r.a.length : Int) ≠ vars) || decide (r.s < -1) || decide (r.s > 1)
def rightP (p : ProgF) : Int := if p.vars > 160 ∨ p.rows.length > 400 then 1 else if p.vars < 1 ∨ (p.free.length : Int) ≠ p.vars ∨ (p.goal.length : Int) ≠ p.vars then 20 else if p.rows.any (rowBad p.vars) then 20 else 0
theorem rightP_a {p : ProgF} (h : p.vars > 160 ∨ p.rows.length > 400) : rightP p = 1 := by unfold rightP; rw [if_pos h]
theorem rightP_b {p : ProgF} (h : ¬ (p.vars > 160 ∨ p.rows.length > 400)) (h2 : p.vars < 1 ∨ (p.free.length : Int) ≠ p.vars ∨ (p.goal.length : Int) ≠ p.vars) : rightP p = 20 := by unfold rightP; rw [if_neg h, if_pos h2]
theorem rightP_c {p : ProgF} (h : ¬ (p.vars > 160 ∨ p.rows.length > 400)) (h2 : ¬ (p.vars < 1 ∨ (p.free.length : Int) ≠ p.vars ∨ (p.goal.length : Int) ≠ p.vars)) {i : Nat} {r : RowF} (hr : p.rows[i]? = some r) (hb : rowBad p.vars r = true) : rightP p = 20 := by
 unfold rightP
 rw [if_neg h, if_neg h2, if_pos (List.any_eq_true.2 ⟨r, List.mem_of_getElem? hr, hb⟩)]
theorem rightP_d {p : ProgF} (h : ¬ (p.vars > 160 ∨ p.rows.length > 400)) (h2 : ¬ (p.vars < 1 ∨ (p.free.length : Int) ≠ p.vars ∨ (p.goal.length : Int) ≠ p.vars)) (ha : ∀ (j : Nat) (r : RowF), p.rows[j]? = some r → rowBad p.vars r = false) : rightP p = 0 := by
 unfold rightP
 rw [if_neg h, if_neg h2, if_neg]
 rw [List.any_eq_true]
 rintro ⟨r, hr, hb⟩
 obtain ⟨j, hj⟩ := List.getElem?_of_mem hr
 rw [ha j r hj] at hb
 cases hb
theorem bneI {a b : Int} (h : a ≠ b) : (a != b) = true := by simpa using h
theorem beqI {a b : Int} (h : a = b) : (a != b) = false := by simpa using h
theorem pright_calls (w : World) (v : Value) (p : ProgF) (h : PR w v p) : Calls Try.prog 20 #[v] w fun e w' => IPost w (rightP p) e w' := by
 obtain ⟨A1, c1, A2, c2, A3, c3, rfl, HI, H1, H2, H3⟩ := h.opened
 clear h
 obtain ⟨vars, hv⟩ : ∃ n, n = p.vars := ⟨_, rfl⟩
 rw [← hv]
 have HV := Hd hv
 clear hv
 go_enter Try.func20, Try.ntmps20
 by_cases a1 : vars > 160
 ·have t1 : decide (vars > 160) = true := decide_eq_true a1
  have HR := Hd (rightP_a (p := p) (.inl (HV.out ▸ a1)))
  clear a1
  go_wp2_with fail
  go_ret
  exact ⟨by rw [HR.out]; rfl, below_new w _⟩
 have t1 : decide (vars > 160) = false := decide_eq_false a1
 by_cases a2 : p.rows.length > 400
 ·have t2 : decide ((p.rows.length : Int) > 400) = true := decide_eq_true (by omega)
  have HR := Hd (rightP_a (p := p) (.inr a2))
  clear a1 a2
  go_wp2_with fail
  go_ret
  exact ⟨by rw [HR.out]; rfl, below_new w _⟩
 have t2 : decide ((p.rows.length : Int) > 400) = false := decide_eq_false (by omega)
 have N1 : Hid (¬ (p.vars > 160 ∨ p.rows.length > 400)) := by unfold Hid; rw [← HV.out]; omega
 by_cases b1 : vars < 1
 ·have t3 : decide (vars < 1) = true := decide_eq_true b1
  have HR := Hd (rightP_b N1.out (.inl (HV.out ▸ b1)))
  clear a1 a2 b1
  go_wp2_with fail
  go_ret
  exact ⟨by rw [HR.out]; rfl, below_new w _⟩
 have t3 : decide (vars < 1) = false := decide_eq_false b1
 by_cases b2 : (p.free.length : Int) = vars
 case neg =>
  have t4 : ((p.free.length : Int) != vars) = true := bneI b2
  have HR := Hd (rightP_b N1.out (.inr (.inl (HV.out ▸ b2))))
  clear a1 a2 b1 b2
  go_wp2_with fail
  go_ret
  exact ⟨by rw [HR.out]; rfl, below_new w _⟩
 have t4 : ((p.free.length : Int) != vars) = false := beqI b2
 by_cases b3 : (p.goal.length : Int) = vars
 case neg =>
  have t5 : ((p.goal.length : Int) != vars) = true := bneI b3
  have HR := Hd (rightP_b N1.out (.inr (.inr (HV.out ▸ b3))))
  clear a1 a2 b1 b2 b3
  go_wp2_with fail
  go_ret
  exact ⟨by rw [HR.out]; rfl, below_new w _⟩
 have t5 : ((p.goal.length : Int) != vars) = false := beqI b3
 have N2 : Hid (¬ (p.vars < 1 ∨ (p.free.length : Int) ≠ p.vars ∨ (p.goal.length : Int) ≠ p.vars)) := by unfold Hid; rw [← HV.out]; omega
 clear a1 b1 b2 b3
 go_wp2_with fail
 have hb0 := below_new w (.cells #[.int .i64 vars, .slice A1 p.free.length c1, .slice A2 p.goal.length c2, .slice A3 p.rows.length c3] 26)
 have hk0 := Blk.new w 26 #[.int .i64 vars, .slice A1 p.free.length c1, .slice A2 p.goal.length c2, .slice A3 p.rows.length c3]
 generalize w.alloc (.cells #[.int .i64 vars, .slice A1 p.free.length c1, .slice A2 p.goal.length c2, .slice A3 p.rows.length c3] 26) = W0 at *
 go_loopw [36] (fun vi wr => ∃ i : Nat, i ≤ p.rows.length ∧ vi = .int .i64 (i : Int) ∧ (∀ j r, j < i → p.rows[j]? = some r → rowBad p.vars r = false) ∧ Blk wr w.heap.size 26 #[.int .i64 vars, .slice A1 p.free.length c1, .slice A2 p.goal.length c2, .slice A3 p.rows.length c3] ∧ Below w.heap.size w wr) (fun vi _ => p.rows.length - (intOf vi).toNat)
 case atStart => exact ⟨0, Nat.zero_le _, rfl, fun j r h => absurd h (Nat.not_lt_zero _), hk0, hb0⟩
 case round =>
  obtain ⟨i, hi, rfl, hall, hk, hb⟩ := hrel
  have HA := Hd hall
  have HK := Hd hk
  have HB := Hd hb
  clear hall hb hk hk0 hb0
  by_cases hlt : i < p.rows.length
  ·obtain ⟨r, hr⟩ : ∃ r, p.rows[i]? = some r := ⟨p.rows[i], List.getElem?_eq_getElem hlt⟩
   obtain ⟨g, o, B1, d1, B2, n2, d2, B3, n3, d3, rfl, hg, k0, k1, k2, k3, k4, _, _, _⟩ := RL.at5 (H3.out.below ER.stays HB.out) hr
   have HRR := Hd hr
   clear hr
   have m1 : (i : Int) < (p.rows.length : Int) := by omega
   have m3 : (i : Int).toNat = i := by omega
   have m4 : (0 : Int) ≤ (i : Int) := by omega
   have x0 := HK.out.cell (j := 0) rfl
   have hz := HK.out.lt
   by_cases q1 : (r.a.length : Int) = vars
   case neg =>
    have u1 : ((r.a.length : Int) != vars) = true := bneI q1
    have HR := Hd (rightP_c N1.out N2.out HRR.out (by unfold rowBad; rw [← HV.out, decide_eq_true q1]; rfl))
    clear q1
    go_wp2_with fail
    go_ret
    exact ⟨by rw [HR.out]; rfl, below_next HB.out (below_new _ _)⟩
   have u1 : ((r.a.length : Int) != vars) = false := beqI q1
   by_cases q2 : r.s < -1
   ·have u2 : decide (r.s < -1) = true := decide_eq_true q2
    have HR := Hd (rightP_c N1.out N2.out HRR.out (by unfold rowBad; rw [decide_eq_true q2]; simp))
    clear q1 q2
    go_wp2_with fail
    go_ret
    exact ⟨by rw [HR.out]; rfl, below_next HB.out (below_new _ _)⟩
   have u2 : decide (r.s < -1) = false := decide_eq_false q2
   by_cases q3 : r.s > 1
   ·have u3 : decide (r.s > 1) = true := decide_eq_true q3
    have HR := Hd (rightP_c N1.out N2.out HRR.out (by unfold rowBad; rw [decide_eq_true q3]; simp))
    clear q1 q2 q3
    go_wp2_with fail
    go_ret
    exact ⟨by rw [HR.out]; rfl, below_next HB.out (below_new _ _)⟩
   have u3 : decide (r.s > 1) = false := decide_eq_false q3
   have HGood : Hid (rowBad p.vars r = false) := by unfold Hid rowBad; rw [← HV.out, decide_eq_false q2, decide_eq_false q3, decide_eq_false (by simpa using q1)]; rfl
   clear q1 q2 q3
   go_wp2_with fail
   go_roundw
   case rel =>
    refine ⟨i + 1, by omega, by go_num, fun j r' hj hr' => ?_, HK.out.alloc _, below_next HB.out (below_new _ _)⟩
    by_cases hji : j = i
    ·rw [hji, HRR.out] at hr'
     injection hr' with e
     subst e
     exact HGood.out
    ·exact HA.out j r' (by omega) hr'
   case measure => simp [intOf]; omega
  ·obtain rfl : i = p.rows.length := by omega
   have HR := Hd (rightP_d N1.out N2.out fun j r hr => HA.out j r (List.getElem?_eq_some_iff.1 hr).1 hr)
   go_wp2_with fail
   go_ret
   exact ⟨by rw [HR.out]; rfl, HB.out⟩
theorem HS.c4 {w W : World} {bs : List (Nat × Nat × Array Value)} {g t : Nat} {a b c d : Value} (h : HS w bs W) (i : Nat) (hi : bs[i]? = some (g, t, #[a, b, c, d])) : W.cell? ⟨g, 0, none⟩ = some a ∧ W.cell? ⟨g, 1, none⟩ = some b ∧ W.cell? ⟨g, 2, none⟩ = some c ∧ W.cell? ⟨g, 3, none⟩ = some d :=
 ⟨(h.blk i hi).cell rfl, (h.blk i hi).cell rfl, (h.blk i hi).cell rfl, (h.blk i hi).cell rfl⟩
noncomputable def valueP (p : ProgF) (x : List RawF) : Rat := if rightP p ≠ 0 ∨ (x.length : Int) ≠ p.vars then 0 else capQ (dotQ (p.goal.map fixQ) (x.map fixQ))
theorem capQ_zero : capQ 0 = 0 := by unfold capQ; split <;> rfl
theorem FL.nil (w : World) : FL w (.slice none 0 0) [] := ⟨none, 0, rfl, Nat.le_refl _, fun h => absurd h (by simp)⟩
theorem rightP_len {p : ProgF} (h : rightP p = 0) : (p.free.length : Int) = p.vars ∧ (p.goal.length : Int) = p.vars ∧ 1 ≤ p.vars ∧ p.vars ≤ 160 ∧ p.rows.length ≤ 400 ∧ ∀ (r : RowF), r ∈ p.rows → (r.a.length : Int) = p.vars ∧ -1 ≤ r.s ∧ r.s ≤ 1 := by
 unfold rightP at h
 split at h
 ·omega
 ·split at h
  ·omega
  ·split at h
   ·omega
   ·rename_i h1 h2 h3
    refine ⟨by omega, by omega, by omega, by omega, by omega, fun r hr => ?_⟩
    have hb : rowBad p.vars r = false := by
     cases e : rowBad p.vars r with
     | false => rfl
     | true => exact absurd (List.any_eq_true.2 ⟨r, hr, e⟩) h3
    unfold rowBad at hb
    simp only [Bool.or_eq_false_iff, decide_eq_false_iff_not] at hb
    exact ⟨by omega, by omega, by omega⟩
theorem sq28 (P : Prop) (h : P := by
 rintro e w2 ⟨v, rfl, hv, hb⟩
 obtain ⟨A5, n5, c5, A6, n6, c6, rfl, HV2⟩ := hv.opened
 have H2' := Hd (H1'.out.step hb)
 clear hb hv
 obtain ⟨e0, e1, e2⟩ := (H2'.out.blk 0 rfl).c3
 obtain ⟨f0, f1, f2⟩ := (H2'.out.blk 0 rfl).f3
 go_wp2_with fail
 rw [HE.out]
 exact end40 Try.results23 rfl (H2'.out.blk 0 rfl) HV2.out (by omega) H2'.out.2) : P := h
theorem value_calls (w : World) (v v2 : Value) (p : ProgF) (x : List RawF) (h : PR w v p) (h2 : FL w v2 x) : Calls Try.prog 23 #[v, v2] w fun e w' => FPost w (valueP p x) e w' := by
 have HP := Hd h
 obtain ⟨A1, c1, A2, c2, A3, c3, rfl, HI, H1, H2, H3⟩ := h.opened
 obtain ⟨A4, c4, rfl, hc4⟩ := h2.slice
 have HX := Hd h2
 clear h h2
 obtain ⟨vars, hv⟩ : ∃ n, n = p.vars := ⟨_, rfl⟩
 rw [← hv] at HP ⊢
 have HV := Hd hv
 clear hv
 go_enter Try.func23, Try.ntmps23
 go_wp2_with fail
 have H0 := Hd (HS.two (w := w) #[.int .i64 vars, .slice A1 p.free.length c1, .slice A2 p.goal.length c2, .slice A3 p.rows.length c3] #[.bool false, .slice none 0 0, .slice none 0 0] 26 40)
 generalize (w.alloc (.cells #[.int .i64 vars, .slice A1 p.free.length c1, .slice A2 p.goal.length c2, .slice A3 p.rows.length c3] 26)).alloc (.cells #[.bool false, .slice none 0 0, .slice none 0 0] 40) = W0 at *
 refine (pright_calls _ _ p (HP.out.of_below H0.out.2)).mono ?_
 rintro e w1 ⟨rfl, hb⟩
 have H1' := Hd (H0.out.step hb)
 obtain ⟨x0, x1, x2, x3⟩ := H1'.out.c4 1 rfl
 clear hb
 by_cases q1 : rightP p = 0
 case neg =>
  have u1 : (rightP p != 0) = true := bneI q1
  have HE := Hd (show valueP p x = 0 from if_pos (.inl q1))
  clear q1
  go_wp2_with fail
  refine (fsum_calls w1 _ [] (FL.nil _) (by simp)).mono ?_
  exact sq28 _
 have u1 : (rightP p != 0) = false := beqI q1
 by_cases q2 : (x.length : Int) = vars
 case neg =>
  have u2 : ((x.length : Int) != vars) = true := bneI q2
  have HE := Hd (show valueP p x = 0 from if_pos (.inr (by rw [← HV.out]; exact q2)))
  clear q1 q2
  go_wp2_with fail
  refine (fsum_calls w1 _ [] (FL.nil _) (by simp)).mono ?_
  exact sq28 _
 have u2 : ((x.length : Int) != vars) = false := beqI q2
 have HE := Hd (show valueP p x = capQ (dotQ (p.goal.map fixQ) (x.map fixQ)) from if_neg (by rw [← HV.out]; omega))
 have hrl := rightP_len q1
 have hgl : p.goal.length ≤ 100000 := by omega
 have hxl : x.length ≤ 100000 := by have := HV.out; omega
 clear q1 q2 hrl
 go_wp2_with fail
 refine (fdot_calls w1 _ _ p.goal x (H2.out.below EF.stays H1'.out.2) (HX.out.below EF.stays H1'.out.2) hgl hxl).mono ?_
 exact sq28 _
def holdsB (s : Int) (a b : Rat) : Bool := decide (ordQ a b = 0) || (decide (s ≠ 0) && decide (ordQ a b = s))
theorem holds_calls (w : World) (s : Int) (v v2 : Value) (f g : RawF) (h : FR w v f) (h2 : FR w v2 g) : Calls Try.prog 96 #[.int .i64 s, v, v2] w fun e w' => BPost w (holdsB s (fixQ f) (fixQ g)) e w' := by
 obtain ⟨A1, n1, c1, A2, n2, c2, rfl, H⟩ := h.opened
 obtain ⟨A3, n3, c3, A4, n4, c4, rfl, G⟩ := h2.opened
 clear h h2
 go_enter Try.func96, Try.ntmps96
 go_wp2_with fail
 have H0 := Hd (HS.two (w := w) #[.bool f.neg, .slice A1 n1 c1, .slice A2 n2 c2] #[.bool g.neg, .slice A3 n3 c3, .slice A4 n4 c4] 40 40)
 generalize (w.alloc (.cells #[.bool f.neg, .slice A1 n1 c1, .slice A2 n2 c2] 40)).alloc (.cells #[.bool g.neg, .slice A3 n3 c3, .slice A4 n4 c4] 40) = W0 at *
 refine (fcmp_calls W0 _ _ f g (H.out.of_below H0.out.2) (G.out.of_below H0.out.2)).mono ?_
 rintro e w1 ⟨rfl, hb⟩
 have H1 := Hd (H0.out.step hb)
 clear hb
 obtain ⟨c, hc⟩ : ∃ c, c = ordQ (fixQ f) (fixQ g) := ⟨_, rfl⟩
 have HE : Hid (holdsB s (fixQ f) (fixQ g) = (decide (c = 0) || (decide (s ≠ 0) && decide (c = s)))) := by unfold Hid holdsB; rw [hc]
 rw [← hc]
 clear hc
 by_cases q1 : c = 0
 ·have u1 : (c == 0) = true := by simpa using q1
  have HE2 : Hid (holdsB s (fixQ f) (fixQ g) = true) := by unfold Hid; rw [HE.out, decide_eq_true q1]; rfl
  clear q1
  go_wp2_with fail
  go_ret
  exact ⟨by rw [HE2.out]; rfl, H1.out.2⟩
 have u1 : (c == 0) = false := by simpa using q1
 by_cases q2 : s = 0
 ·have u2 : (s != 0) = false := beqI q2
  have HE2 : Hid (holdsB s (fixQ f) (fixQ g) = false) := by unfold Hid; rw [HE.out, decide_eq_false q1, decide_eq_false (by simpa using q2)]; rfl
  clear q1 q2
  go_wp2_with fail
  go_ret
  exact ⟨by rw [HE2.out]; rfl, H1.out.2⟩
 have u2 : (s != 0) = true := bneI q2
 by_cases q3 : c = s
 ·have u3 : (c == s) = true := by simpa using q3
  have HE2 : Hid (holdsB s (fixQ f) (fixQ g) = true) := by unfold Hid; rw [HE.out, decide_eq_true q2, decide_eq_true q3]; simp
  clear q1 q2 q3
  go_wp2_with fail
  go_ret
  exact ⟨by rw [HE2.out]; rfl, H1.out.2⟩
 ·have u3 : (c == s) = false := by simpa using q3
  have HE2 : Hid (holdsB s (fixQ f) (fixQ g) = false) := by unfold Hid; rw [HE.out, decide_eq_false q1, decide_eq_false q3]; simp
  clear q1 q2 q3
  go_wp2_with fail
  go_ret
  exact ⟨by rw [HE2.out]; rfl, H1.out.2⟩
theorem BL.at1 {w : World} {A : Option Addr} {n c : Nat} {bs : List Bool} (h : BL w (.slice A n c) bs) {j : Nat} {b : Bool} (hj : bs[j]? = some b) : ∃ g o, A = some ⟨g, o, none⟩ ∧ g < w.heap.size ∧ w.cell? ⟨g, o + j, none⟩ = some (.bool b) := by
 obtain ⟨g, o, vs, hA, hg, hs, hc, he⟩ := h.at_ hj
 subst he
 have := hc 0 _ rfl
 rw [Nat.mul_one] at this
 exact ⟨g, o, hA, hg, this⟩
def signedB (free : List Bool) (x : List Rat) : Bool := (free.zip x).all fun bq => bq.1 || !decide (signQ bq.2 < 0)
theorem signedB_false {free : List Bool} {x : List Rat} {i : Nat} {b : Bool} {q : Rat} (h1 : free[i]? = some b) (h2 : x[i]? = some q) (h : (b || !decide (signQ q < 0)) = false) : signedB free x = false := by
 unfold signedB
 rw [Bool.eq_false_iff, ne_eq, List.all_eq_true]
 intro h0
 have := h0 (b, q) (List.mem_of_getElem? (i := i) (by rw [List.getElem?_zip_eq_some]; exact ⟨h1, h2⟩))
 rw [h] at this
 cases this
theorem signedB_true {free : List Bool} {x : List Rat} (h : ∀ (i : Nat) (b : Bool) (q : Rat), free[i]? = some b → x[i]? = some q → (b || !decide (signQ q < 0)) = true) : signedB free x = true := by
 unfold signedB
 rw [List.all_eq_true]
 rintro ⟨b, q⟩ hm
 obtain ⟨i, hi⟩ := List.getElem?_of_mem hm
 rw [List.getElem?_zip_eq_some] at hi
 exact h i b q hi.1 hi.2
theorem signed_calls (w : World) (v v2 : Value) (p : ProgF) (x : List RawF) (h : PR w v p) (h2 : FL w v2 x) (hl : x.length = p.free.length) (hs : x.length ≤ 100000) : Calls Try.prog 95 #[v, v2] w fun e w' => BPost w (signedB p.free (x.map fixQ)) e w' := by
 obtain ⟨A1, c1, A2, c2, A3, c3, rfl, HI, H1, H2, H3⟩ := h.opened
 obtain ⟨A4, c4, rfl, hc4⟩ := h2.slice
 have HX := Hd h2
 clear h h2
 obtain ⟨vars, hv⟩ : ∃ n, n = p.vars := ⟨_, rfl⟩
 rw [← hv]
 clear hv
 go_enter Try.func95, Try.ntmps95
 go_wp2_with fail
 have h0 := HS.one (w := w) #[.int .i64 vars, .slice A1 p.free.length c1, .slice A2 p.goal.length c2, .slice A3 p.rows.length c3] 26
 generalize w.alloc (.cells #[.int .i64 vars, .slice A1 p.free.length c1, .slice A2 p.goal.length c2, .slice A3 p.rows.length c3] 26) = W0 at *
 go_loopw [9] (fun vi wr => ∃ i : Nat, i ≤ x.length ∧ vi = .int .i64 (i : Int) ∧ (∀ (j : Nat) (b : Bool) (q : Rat), j < i → p.free[j]? = some b → (x.map fixQ)[j]? = some q → (b || !decide (signQ q < 0)) = true) ∧ HS w [(w.heap.size, 26, #[.int .i64 vars, .slice A1 p.free.length c1, .slice A2 p.goal.length c2, .slice A3 p.rows.length c3])] wr) (fun vi _ => x.length - (intOf vi).toNat)
 case atStart => exact ⟨0, Nat.zero_le _, rfl, fun j _ _ h => absurd h (Nat.not_lt_zero _), h0⟩
 case round =>
  obtain ⟨i, hi, rfl, hall, hk⟩ := hrel
  have HA := Hd hall
  have HK := Hd hk
  clear hall hk h0
  by_cases hlt : i < x.length
  ·obtain ⟨f, hf⟩ : ∃ f, x[i]? = some f := ⟨x[i], List.getElem?_eq_getElem hlt⟩
   obtain ⟨b, hbf⟩ : ∃ b, p.free[i]? = some b := ⟨p.free[i], List.getElem?_eq_getElem (by omega)⟩
   obtain ⟨g, o, B1, n1, d1, B2, n2, d2, rfl, hg, k0, k1, k2, HE⟩ := FL.at3 (HX.out.below EF.stays HK.out.2) hf
   obtain ⟨g2, o2, rfl, hg2, kb⟩ := BL.at1 (H1.out.below EB.stays HK.out.2) hbf
   have HXI : Hid ((x.map fixQ)[i]? = some (fixQ f)) := by unfold Hid; rw [List.getElem?_map, hf]; rfl
   have HFI := Hd hbf
   clear hf hbf
   have m1 : (i : Int) < (x.length : Int) := by omega
   have m2 : (i : Int) < (p.free.length : Int) := by omega
   have m3 : (i : Int).toNat = i := by omega
   have m4 : (0 : Int) ≤ (i : Int) := by omega
   obtain ⟨x0, x1, x2, x3⟩ := HK.out.c4 0 rfl
   have hz := (HK.out.blk 0 rfl).lt
   have hl2 := Hd hl
   clear hl
   have fin : ∀ wz, Below wr.heap.size wr wz → (b || !decide (signQ (fixQ f) < 0)) = true → (∃ i', i' ≤ x.length ∧ Value.int .i64 ((i : Int) + 1) = .int .i64 (i' : Int) ∧ (∀ (j : Nat) (b : Bool) (q : Rat), j < i' → p.free[j]? = some b → (x.map fixQ)[j]? = some q → (b || !decide (signQ q < 0)) = true) ∧ HS w [(w.heap.size, 26, #[.int .i64 vars, .slice (some ⟨g2, o2, none⟩) p.free.length c1, .slice A2 p.goal.length c2, .slice A3 p.rows.length c3])] wz) := fun wz hbz hgood => by
    refine ⟨i + 1, by omega, by go_num, fun j b' q' hj hb' hq' => ?_, HK.out.step hbz⟩
    by_cases hji : j = i
    ·subst hji
     rw [HFI.out] at hb'
     rw [HXI.out] at hq'
     injection hb' with e1
     injection hq' with e2
     rw [← e1, ← e2]
     exact hgood
    ·exact HA.out j b' q' (by omega) hb' hq'
   have HFin := Hd fin
   clear fin
   cases b with
   | true =>
    go_wp2_with fail
    go_roundw
    case rel => exact HFin.out _ (below_new _ _) rfl
    case measure => simp [intOf]; omega
   | false =>
    go_wp2_with fail
    have hb1 := below_new wr (.cells #[.bool f.neg, .slice B1 n1 d1, .slice B2 n2 d2] 40)
    refine (sgn_calls _ _ f (HE.out.of_below hb1)).mono ?_
    rintro e w2 ⟨rfl, hb2⟩
    have HB := Hd (below_next hb1 hb2)
    clear hb1 hb2
    by_cases q1 : signQ (fixQ f) < 0
    ·have u1 : decide (signQ (fixQ f) < 0) = true := decide_eq_true q1
     have HE2 := Hd (signedB_false HFI.out HXI.out (by rw [decide_eq_true q1]; rfl))
     clear q1
     go_wp2_with fail
     go_ret
     exact ⟨by rw [HE2.out]; rfl, (HK.out.step HB.out).2⟩
    ·have u1 : decide (signQ (fixQ f) < 0) = false := decide_eq_false q1
     have HG : Hid ((false || !decide (signQ (fixQ f) < 0)) = true) := by unfold Hid; rw [decide_eq_false q1]; rfl
     clear q1
     go_wp2_with fail
     go_roundw
     case rel => exact HFin.out _ HB.out HG.out
     case measure => simp [intOf]; omega
  ·obtain rfl : i = x.length := by omega
   have HE2 := Hd (signedB_true (free := p.free) (x := x.map fixQ) fun j b q h1 h2 => HA.out j b q (by have := (List.getElem?_eq_some_iff.1 h2).1; simpa using this) h1 h2)
   go_wp2_with fail
   go_ret
   exact ⟨by rw [HE2.out]; rfl, HK.out.2⟩
noncomputable def rowHolds (x : List Rat) (r : RowF) : Bool := holdsB r.s (capQ (dotQ (r.a.map fixQ) x)) (fixQ r.b)
noncomputable def fitsB (p : ProgF) (x : List RawF) : Bool := decide ((x.length : Int) = p.vars) && signedB p.free (x.map fixQ) && p.rows.all (rowHolds (x.map fixQ))
theorem fix_cap (q : Rat) : fixQ (rawQ (capQ q)) = capQ q := fixQ_raw _ (capQ_size q)
theorem all_false {α : Type} {l : List α} {f : α → Bool} {i : Nat} {a : α} (h : l[i]? = some a) (hf : f a = false) : l.all f = false := by
 rw [Bool.eq_false_iff, ne_eq, List.all_eq_true]
 intro h0
 rw [h0 a (List.mem_of_getElem? h)] at hf
 cases hf
theorem all_true {α : Type} {l : List α} {f : α → Bool} (h : ∀ (i : Nat) (a : α), l[i]? = some a → f a = true) : l.all f = true := by
 rw [List.all_eq_true]
 intro a hm
 obtain ⟨i, hi⟩ := List.getElem?_of_mem hm
 exact h i a hi
theorem fits_calls (w : World) (v v2 : Value) (p : ProgF) (x : List RawF) (h : PR w v p) (h2 : FL w v2 x) (hr : rightP p = 0) : Calls Try.prog 58 #[v, v2] w fun e w' => BPost w (fitsB p x) e w' := by
 have hrl := rightP_len hr
 clear hr
 have HP := Hd h
 obtain ⟨A1, c1, A2, c2, A3, c3, rfl, HI, H1, H2, H3⟩ := h.opened
 obtain ⟨A4, c4, rfl, hc4⟩ := h2.slice
 have HX := Hd h2
 clear h h2
 obtain ⟨vars, hv⟩ : ∃ n, n = p.vars := ⟨_, rfl⟩
 rw [← hv] at HP ⊢
 have HV := Hd hv
 have hfl : (p.free.length : Int) = vars := by rw [hv]; exact hrl.1
 have hvl : vars ≤ 160 := by rw [hv]; exact hrl.2.2.2.1
 have hrw : p.rows.length ≤ 400 := hrl.2.2.2.2.1
 have HROW : Hid (∀ (r : RowF), r ∈ p.rows → (r.a.length : Int) = vars) := by unfold Hid; rw [hv]; exact fun r hm => (hrl.2.2.2.2.2 r hm).1
 clear hv hrl
 go_enter Try.func58, Try.ntmps58
 by_cases q1 : (x.length : Int) = vars
 case neg =>
  have u1 : ((x.length : Int) != vars) = true := bneI q1
  have HE : Hid (fitsB p x = false) := by unfold Hid fitsB; rw [decide_eq_false (by rw [← HV.out]; exact q1)]; rfl
  clear q1 hfl
  go_wp2_with fail
  go_ret
  exact ⟨by rw [HE.out]; rfl, below_new w _⟩
 have u1 : ((x.length : Int) != vars) = false := beqI q1
 have hxl : x.length ≤ 100000 := by omega
 have hxf : x.length = p.free.length := by omega
 have HXV := Hd q1
 have HXF := Hd hxf
 clear q1 hfl hxf
 go_wp2_with fail
 have H0 := Hd (HS.one (w := w) #[.int .i64 vars, .slice A1 p.free.length c1, .slice A2 p.goal.length c2, .slice A3 p.rows.length c3] 26)
 generalize w.alloc (.cells #[.int .i64 vars, .slice A1 p.free.length c1, .slice A2 p.goal.length c2, .slice A3 p.rows.length c3] 26) = W0 at *
 refine (signed_calls W0 _ _ p x (HP.out.of_below H0.out.2) (HX.out.below EF.stays H0.out.2) HXF.out hxl).mono ?_
 rintro e w1 ⟨rfl, hb⟩
 have h1' := H0.out.step hb
 have H1' := Hd h1'
 obtain ⟨x0, x1, x2, x3⟩ := H1'.out.c4 0 rfl
 clear hb h1'
 cases hsg : signedB p.free (x.map fixQ) with
 | false =>
  have HE : Hid (fitsB p x = false) := by unfold Hid fitsB; rw [hsg]; simp
  clear hsg
  go_wp2_with fail
  go_ret
  exact ⟨by rw [HE.out]; rfl, H1'.out.2⟩
 | true =>
  have HE : Hid (fitsB p x = p.rows.all (rowHolds (x.map fixQ))) := by unfold Hid fitsB; rw [hsg, decide_eq_true (by rw [← HV.out]; exact HXV.out)]; simp
  clear hsg
  go_wp2_with fail
  clear x0 x1 x2 x3
  go_loopw [21] (fun vi wr => ∃ i : Nat, i ≤ p.rows.length ∧ vi = .int .i64 (i : Int) ∧ (∀ (j : Nat) (r : RowF), j < i → p.rows[j]? = some r → rowHolds (x.map fixQ) r = true) ∧ HS w [(w.heap.size, 26, #[.int .i64 vars, .slice A1 p.free.length c1, .slice A2 p.goal.length c2, .slice A3 p.rows.length c3])] wr) (fun vi _ => p.rows.length - (intOf vi).toNat)
  case atStart => exact ⟨0, Nat.zero_le _, rfl, fun j _ h => absurd h (Nat.not_lt_zero _), H1'.out⟩
  case round =>
   obtain ⟨i, hi, rfl, hall, hk⟩ := hrel
   have HA := Hd hall
   have HK := Hd hk
   clear hall hk
   by_cases hlt : i < p.rows.length
   ·obtain ⟨r, hr⟩ : ∃ r, p.rows[i]? = some r := ⟨p.rows[i], List.getElem?_eq_getElem hlt⟩
    obtain ⟨g, o, B1, d1, B2, n2, d2, B3, n3, d3, rfl, hg, k0, k1, k2, k3, k4, HI', HA', HB'⟩ := RL.at5 (H3.out.below ER.stays HK.out.2) hr
    have hrl : r.a.length ≤ 100000 := by have := HROW.out r (List.mem_of_getElem? hr); omega
    have HRR := Hd hr
    clear hr
    have m1 : (i : Int) < (p.rows.length : Int) := by omega
    have m3 : (i : Int).toNat = i := by omega
    have m4 : (0 : Int) ≤ (i : Int) := by omega
    obtain ⟨s, hs⟩ : ∃ s, s = r.s := ⟨_, rfl⟩
    rw [← hs] at k1
    have HSE := Hd hs
    clear hs
    go_wp2_with fail
    have hb1 := below_new wr (.cells #[.slice B1 r.a.length d1, .int .i64 s, .bool r.b.neg, .slice B2 n2 d2, .slice B3 n3 d3] 65)
    have hk1 := Blk.new wr 65 #[.slice B1 r.a.length d1, .int .i64 s, .bool r.b.neg, .slice B2 n2 d2, .slice B3 n3 d3]
    have HB1 := Hd hb1
    have z0 := hk1.cell (j := 0) rfl
    have z1 := hk1.cell (j := 1) rfl
    have z2 := hk1.cell (j := 2) rfl
    have z3 := hk1.cell (j := 3) rfl
    have z4 := hk1.cell (j := 4) rfl
    have hz := hk1.lt
    generalize wr.alloc (.cells #[.slice B1 r.a.length d1, .int .i64 s, .bool r.b.neg, .slice B2 n2 d2, .slice B3 n3 d3] 65) = W1 at *
    clear hk1 hb1
    refine wp_chainS (S := Below W1.heap.size W1) [([0, 1, 2, 3, 4, 6, 7], 5), ([], 8)] [9] (by kernel_rfl) (by kernel_rfl) (by kernel_rfl) rfl (Below.drew (Below.refl _ _)) ?_
    refine ⟨?_, _, ?_, rfl, ?_⟩
    rotate_left
    ·repeat (refine pu ?_; (try simp only [SQ]))
     exact rfl
    have hbd : Below W1.heap.size W1 W1.drew := Below.drew (Below.refl _ _)
    have hbx := below_next HB1.out hbd
    have HBX := Hd hbx
    go_wp2_with fail
    refine (fdot_calls _ _ _ r.a x (HA'.out.below EF.stays HBX.out) (HX.out.below EF.stays (HK.out.step HBX.out).2) hrl hxl).mono ?_
    rintro e w7 ⟨v, rfl, hv, hb⟩
    obtain ⟨A5, n5, c5, A6, n6, c6, rfl, HV5⟩ := hv.opened
    have HB7 := Hd (below_next hbd hb)
    have HB17 := Hd (below_next HB1.out HB7.out)
    clear hv hb hbd hbx
    go_wp2_with fail
    refine And.intro HB7.out ⟨_, _, rfl, rfl, ?_⟩
    go_wp2_with fail
    refine (holds_calls _ s _ _ _ r.b (FR.of_fq HV5.out (capQ_size _)) (HB'.out.of_below HB17.out)).mono ?_
    rintro e w8 ⟨rfl, hb⟩
    have HB8 := Hd (below_next HB7.out hb)
    have HB18 := Hd (below_next HB1.out HB8.out)
    have HH : Hid (holdsB s (fixQ (rawQ (capQ (dotQ (r.a.map fixQ) (x.map fixQ))))) (fixQ r.b) = rowHolds (x.map fixQ) r) := by unfold Hid rowHolds; rw [fix_cap, HSE.out]
    rw [HH.out]
    clear hb
    go_wp2_with fail
    refine And.intro HB8.out ⟨?_, ?_, ?_⟩
    rotate_left
    ·repeat (refine pu ?_; (try simp only [SQ]))
     exact rfl
    refine NoPanic.normal ?_
    cases hb : rowHolds (x.map fixQ) r with
    | false =>
     have HE2 : Hid (fitsB p x = false) := by unfold Hid; rw [HE.out]; exact all_false HRR.out hb
     clear hb
     go_wp2_with fail
     go_ret
     exact ⟨by rw [HE2.out]; rfl, (HK.out.step HB18.out).2⟩
    | true =>
     have HG := Hd hb
     clear hb
     go_wp2_with fail
     go_roundw
     case rel =>
      refine ⟨i + 1, by omega, by go_num, fun j r' hj hr' => ?_, HK.out.step HB18.out⟩
      by_cases hji : j = i
      ·rw [hji, HRR.out] at hr'
       injection hr' with e
       rw [← e]
       exact HG.out
      ·exact HA.out j r' (by omega) hr'
     case measure => simp [intOf]; omega
   ·obtain rfl : i = p.rows.length := by omega
    have HE2 : Hid (fitsB p x = true) := by unfold Hid; rw [HE.out]; exact all_true fun j r hr => HA.out j r (List.getElem?_eq_some_iff.1 hr).1 hr
    go_wp2_with fail
    go_ret
    exact ⟨by rw [HE2.out]; rfl, HK.out.2⟩
noncomputable def fitsP (p : ProgF) (x : List RawF) : Bool := decide (rightP p = 0) && fitsB p x
theorem pfits_calls (w : World) (v v2 : Value) (p : ProgF) (x : List RawF) (h : PR w v p) (h2 : FL w v2 x) : Calls Try.prog 25 #[v, v2] w fun e w' => BPost w (fitsP p x) e w' := by
 have HP := Hd h
 obtain ⟨A1, c1, A2, c2, A3, c3, rfl, HI, H1, H2, H3⟩ := h.opened
 obtain ⟨A4, c4, rfl, hc4⟩ := h2.slice
 have HX := Hd h2
 clear h h2
 obtain ⟨vars, hv⟩ : ∃ n, n = p.vars := ⟨_, rfl⟩
 rw [← hv] at HP ⊢
 clear hv
 go_enter Try.func25, Try.ntmps25
 go_wp2_with fail
 have H0 := Hd (HS.one (w := w) #[.int .i64 vars, .slice A1 p.free.length c1, .slice A2 p.goal.length c2, .slice A3 p.rows.length c3] 26)
 generalize w.alloc (.cells #[.int .i64 vars, .slice A1 p.free.length c1, .slice A2 p.goal.length c2, .slice A3 p.rows.length c3] 26) = W0 at *
 refine (pright_calls W0 _ p (HP.out.of_below H0.out.2)).mono ?_
 rintro e w1 ⟨rfl, hb⟩
 have H1' := Hd (H0.out.step hb)
 obtain ⟨x0, x1, x2, x3⟩ := H1'.out.c4 0 rfl
 clear hb
 by_cases q1 : rightP p = 0
 ·have u1 : (rightP p == 0) = true := by simpa using q1
  have HR := Hd q1
  have HE : Hid (fitsP p x = fitsB p x) := by unfold Hid fitsP; rw [decide_eq_true q1]; rfl
  clear q1
  go_wp2_with fail
  refine (fits_calls w1 _ _ p x (HP.out.of_below H1'.out.2) (HX.out.below EF.stays H1'.out.2) HR.out).mono ?_
  rintro e w2 ⟨rfl, hb⟩
  have H2' := Hd (H1'.out.step hb)
  clear hb
  go_wp2_with fail
  go_ret
  exact ⟨by rw [HE.out]; rfl, H2'.out.2⟩
 ·have u1 : (rightP p == 0) = false := by simpa using q1
  have HE : Hid (fitsP p x = false) := by unfold Hid fitsP; rw [decide_eq_false q1]; rfl
  clear q1
  go_wp2_with fail
  go_ret
  exact ⟨by rw [HE.out]; rfl, H1'.out.2⟩
theorem HS.grown {w W W' : World} {bs : List (Nat × Nat × Array Value)} {row : Option Nat} (h : HS w bs W) (hg : W.grownBy W' row) (hb : ∀ b ∈ bs, some b.1 ≠ row) (hr : ∀ g, row = some g → w.heap.size ≤ g) : HS w bs W' :=
 ⟨fun b hm => (hg.block b.1 (h.1 b hm).lt (hb b hm)).trans (h.1 b hm), ⟨hg.os.trans h.2.os, hg.tape.trans h.2.tape, hg.output.trans h.2.output, Nat.le_trans h.2.size hg.size, fun k hk => (hg.block k (Nat.lt_of_lt_of_le hk h.2.size) (fun e => by have := hr k e.symm; omega)).trans (h.2.block k hk)⟩⟩
theorem lit_cells {w : World} {g t : Nat} {cs : Array Value} (h : Blk w g t cs) : ∀ j u, cs.toList[j]? = some u → w.cell? ((⟨g, 0, none⟩ : Addr).add j) = some u := fun j u hu => by
 rw [add_zero']
 exact h.cell (by simpa using hu)
theorem Blk.newAt {w : World} {g t : Nat} {cs : Array Value} (h : w.heap.size = g) : Blk (w.alloc (.cells cs t)) g t cs := by rw [← h]; exact Blk.new w t cs
def zeroF : Value := .agg #[.bool false, .slice none 0 0, .slice none 0 0]
theorem info40z : (Try.prog.info? 40).map (fun i => (i.zero, i.size, i.bytes)) = some (some zeroF, 3, 56) := info40m
theorem zeroF_words : ∀ u ∈ zeroF.cells, notWord u = true := by simp [zeroF, Value.cells, notWord]
theorem frac_one {b : Bool} {A1 A2 : Option Addr} {n1 c1 n2 c2 : Nat} : ∀ u ∈ [Value.bool b, .slice A1 n1 c1, .slice A2 n2 c2], u.oneCell' = true := by
 intro u hu
 simp only [List.mem_cons, List.not_mem_nil, or_false] at hu
 rcases hu with rfl | rfl | rfl <;> rfl
theorem frac_word {b : Bool} {A1 A2 : Option Addr} {n1 c1 n2 c2 : Nat} : ∀ u ∈ [Value.bool b, .slice A1 n1 c1, .slice A2 n2 c2], notWord u = true := by
 intro u hu
 simp only [List.mem_cons, List.not_mem_nil, or_false] at hu
 rcases hu with rfl | rfl | rfl <;> rfl
theorem wpl_appendF {ops : Array Oper} {rest : List Oper} {o : Oper} {a : Act} {Q : Exit → Act → World → Prop} {W : World} (hgd : o.guard = none) (s x : Operand) (ho : o.op = .call { callee := .builtin .append, args := #[s, x], argTypes := #[23, 23] }) {base : Nat}
  (v : Value) (fs : List RawF) (hs : a.eval s = v) (hown : OL 3 40 EF base W v fs) {g : Nat} {b : Bool} {A1 A2 : Option Addr} {n1 c1 n2 c2 : Nat} (f : RawF) (hx : a.eval x = .slice (some ⟨g, 0, none⟩) 1 1) (hk : Blk W g 40 #[.bool b, .slice A1 n1 c1, .slice A2 n2 c2]) (hf : FR W (.agg #[.bool b, .slice A1 n1 c1, .slice A2 n2 c2]) f)
  (hl : fs.length ≤ 1000000000) (hbase : base ≤ W.heap.size)
  (h : ∀ v' w', OL 3 40 EF base w' v' (fs ++ [f]) → W.grownBy w' v.ownBlock → Keeps W w' → (∀ g, v'.ownBlock = some g → v.ownBlock = some g ∨ W.heap.size ≤ g) → wpList Try.prog ops Q rest (a.put o.dst v') w') : wpList Try.prog ops Q (o :: rest) a W := by
 obtain ⟨xs, h1, h2⟩ := hown
 refine wpl_appendR hgd s x 23 ho (base := base) zeroF 56 Try.underlying23 info40z rfl zeroF_words v fs.length xs hs h1 ⟨g, 0, none⟩ 1 1 [.bool b, .slice A1 n1 c1, .slice A2 n2 c2] hx rfl (lit_cells hk) frac_one frac_word (by decide) (by omega) (by omega) hbase fun v' w' h3 h4 h5 h6 => h v' w' ?_ h4 h5 h6
 refine OL.push EF.leans (k := 3) (e := 40) (vs := #[.bool b, .slice A1 n1 c1, .slice A2 n2 c2]) ⟨xs, h1, h2⟩ rfl hf h5 fun ys hys => ?_
 have hxy : ys.length = xs.length := by rw [hys.1, h1.1]
 obtain rfl : ys = xs := by
  rcases h1.2 with ⟨e, h0⟩ | ⟨g1, c1', cu1, e1, _, hb1, _, _, _, ht1, _⟩
  ·have l1 : xs = [] := List.eq_nil_of_length_eq_zero (by rw [h1.1, h0, Nat.zero_mul])
   rw [l1] at hxy ⊢
   exact List.eq_nil_of_length_eq_zero hxy
  ·rcases hys.2 with ⟨e, h0⟩ | ⟨g2, c2', cu2, e2, _, hb2, _, _, _, ht2, _⟩
   ·rw [e1] at e; cases e
   ·rw [e1] at e2
    injection e2 with e2 _ _
    injection e2 with e2
    injection e2 with e2
    subst e2
    have : cu1 = cu2 := by
     have h7 := hb1.symm.trans hb2
     injection h7 with h7
     injection h7
    rw [← ht1, ← ht2, this]
 exact h3
noncomputable def rightsQ (p : ProgF) (y : List RawF) : Rat := capQ (dotQ (y.map fixQ) (p.rows.map fun r => fixQ r.b))
theorem rights_calls (w : World) (v v2 : Value) (p : ProgF) (y : List RawF) (h : PR w v p) (h2 : FL w v2 y) (hr : p.rows.length ≤ 400) (hy : y.length ≤ 100000) : Calls Try.prog 62 #[v, v2] w fun e w' => FPost w (rightsQ p y) e w' := by
 obtain ⟨A1, c1, A2, c2, A3, c3, rfl, HI, H1, H2, H3⟩ := h.opened
 obtain ⟨A4, c4, rfl, hc4⟩ := h2.slice
 have HY := Hd h2
 clear h h2
 obtain ⟨vars, hv⟩ : ∃ n, n = p.vars := ⟨_, rfl⟩
 rw [← hv]
 clear hv
 obtain ⟨bs, hbs⟩ : ∃ bs, bs = p.rows.map (fun r => r.b) := ⟨_, rfl⟩
 have HBS := Hd hbs
 have hbl : bs.length = p.rows.length := by rw [hbs, List.length_map]
 have HBL := Hd hbl
 have HQ : Hid (rightsQ p y = capQ (dotQ (y.map fixQ) (bs.map fixQ))) := by unfold Hid rightsQ; rw [hbs, List.map_map]; rfl
 clear hbs hbl
 rw [HQ.out]
 go_enter Try.func62, Try.ntmps62
 go_wp2_with fail
 have H0 := Hd (HS.two (w := w) #[.int .i64 vars, .slice A1 p.free.length c1, .slice A2 p.goal.length c2, .slice A3 p.rows.length c3] #[.bool false, .slice none 0 0, .slice none 0 0] 26 40)
 have hsz0 : ((w.alloc (.cells #[.int .i64 vars, .slice A1 p.free.length c1, .slice A2 p.goal.length c2, .slice A3 p.rows.length c3] 26)).alloc (.cells #[.bool false, .slice none 0 0, .slice none 0 0] 40)).heap.size = w.heap.size + 2 := by simp
 generalize (w.alloc (.cells #[.int .i64 vars, .slice A1 p.free.length c1, .slice A2 p.goal.length c2, .slice A3 p.rows.length c3] 26)).alloc (.cells #[.bool false, .slice none 0 0, .slice none 0 0] 40) = W0 at *
 have hsz : w.heap.size + 2 ≤ W0.heap.size := by omega
 clear hsz0
 go_loopw [5, 11] (fun v5 vi wr => ∃ i : Nat, i ≤ p.rows.length ∧ vi = .int .i64 (i : Int) ∧ OL 3 40 EF (w.heap.size + 2) wr v5 (bs.take i) ∧ w.heap.size + 2 ≤ wr.heap.size ∧ HS w [(w.heap.size + 1, 40, #[.bool false, .slice none 0 0, .slice none 0 0]), (w.heap.size, 26, #[.int .i64 vars, .slice A1 p.free.length c1, .slice A2 p.goal.length c2, .slice A3 p.rows.length c3])] wr) (fun _ vi _ => p.rows.length - (intOf vi).toNat)
 case atStart => exact ⟨0, Nat.zero_le _, rfl, OL.nil _ _ _ _ _, hsz, H0.out⟩
 case round =>
  obtain ⟨i, hi, rfl, hol, hsz2, hs⟩ := hrel
  have HOL := Hd hol
  have HK := Hd hs
  obtain ⟨A5, c5, hv5, _⟩ := hol.slice
  have htl : (bs.take i).length = i := by rw [List.length_take, HBL.out]; omega
  rw [htl] at hv5
  subst hv5
  clear hol hs
  by_cases hlt : i < p.rows.length
  ·obtain ⟨r, hr'⟩ : ∃ r, p.rows[i]? = some r := ⟨p.rows[i], List.getElem?_eq_getElem hlt⟩
   obtain ⟨g, o, B1, d1, B2, n2, d2, B3, n3, d3, rfl, hg, k0, k1, k2, k3, k4, HI', HA', HB'⟩ := RL.at5 (H3.out.below ER.stays HK.out.2) hr'
   have HNX : Hid (bs.take (i + 1) = bs.take i ++ [r.b]) := by
    unfold Hid
    rw [List.take_add_one, HBS.out, List.getElem?_map, hr']
    rfl
   clear hr'
   have m1 : (i : Int) < (p.rows.length : Int) := by omega
   have m3 : (i : Int).toNat = i := by omega
   have m4 : (0 : Int) ≤ (i : Int) := by omega
   obtain ⟨s, hs⟩ : ∃ s, s = r.s := ⟨_, rfl⟩
   rw [← hs] at k1
   have hll : (bs.take i).length ≤ 1000000000 := by omega
   clear hs htl
   go_wp2_with (at_builtin; refine wpl_appendF rfl (.tmp 15) (.tmp 18) rfl (base := w.heap.size + 2) (.slice A5 i c5) (bs.take i) rfl ((HOL.out.below EF.stays (below_new _ _)).below EF.stays (below_new _ _)) r.b rfl (Blk.newAt (by simp)) ((HB'.out.of_below (below_new _ _)).of_below (below_new _ _)) hll (by simp; omega) ?_; intro v6 w6 hown6 hg6 hk6 hb6)
   have HOL6 := Hd hown6
   have HK6 := Hd (HS.grown ((HK.out.step (below_new _ _)).step (below_new _ _)) hg6 (fun b hm e => by
    have := (HOL.out.lt b.1 e.symm).1
    simp only [List.mem_cons, List.not_mem_nil, or_false] at hm
    rcases hm with rfl | rfl <;> (simp only at this; omega)) (fun g e => by have := (HOL.out.lt g e).1; omega))
   have hsz6 : w.heap.size + 2 ≤ w6.heap.size := by have := hk6.1; simp at this; omega
   clear hown6 hg6 hk6 hb6
   go_wp2_with fail
   go_roundw
   case rel => exact ⟨i + 1, by omega, by go_num, by rw [HNX.out]; exact HOL6.out, hsz6, HK6.out⟩
   case measure => simp [intOf]; omega
  ·obtain rfl : i = p.rows.length := by omega
   have hbt : bs.take p.rows.length = bs := List.take_of_length_le (by rw [HBL.out]; exact Nat.le_refl _)
   rw [hbt] at HOL
   have HFL := Hd HOL.out.sl
   clear hbt htl
   go_wp2_with fail
   refine (fdot_calls _ _ _ y bs (HY.out.below EF.stays HK.out.2) HFL.out hy (by rw [HBL.out]; omega)).mono ?_
   rintro e w2 ⟨v, rfl, hv, hb⟩
   obtain ⟨A5, n5, c5, A6, n6, c6, rfl, HV2⟩ := hv.opened
   have H2' := Hd (HK.out.step hb)
   clear hb hv
   obtain ⟨e0, e1, e2⟩ := (H2'.out.blk 0 rfl).c3
   obtain ⟨f0, f1, f2⟩ := (H2'.out.blk 0 rfl).f3
   go_wp2_with fail
   exact end40 Try.results62 rfl (H2'.out.blk 0 rfl) HV2.out (by omega) H2'.out.2
theorem rwide_calls (w : World) (n : Nat) (hn : n < 18446744073709551616) :
  Calls Try.prog 131 #[.int .u64 n] w fun e w' => WPost w n e w' := by
 have c0 := mask_low n hn
 have c1 : IntKind.u32.wrap ((n % 4294967296 : Nat) : Int) = ((n % 4294967296 : Nat) : Int) := by rw [IntKind.wrap_u32]; omega
 have c2 : IntKind.u32.wrap ((n : Int) / 4294967296) = ((n / 4294967296 : Nat) : Int) := by rw [IntKind.wrap_u32]; omega
 obtain ⟨a, ha⟩ : ∃ a, a = n % 4294967296 := ⟨_, rfl⟩
 obtain ⟨b, hb⟩ : ∃ b, b = n / 4294967296 := ⟨_, rfl⟩
 rw [← ha] at c0 c1
 rw [← hb] at c2
 have hr := rd_two w a b (by omega) (by omega)
 have hval : valN [a, b] = n := by simp only [valN]; omega
 have HR := Hd hr
 have HV := Hd hval
 clear ha hb hr hval
 go_enter Try.func131, Try.ntmps131
 go_wp2_with fail
 refine (rtrim_rn HR.out (by simp)).mono ?_
 rintro e w' ⟨v, rfl, hv, hb⟩
 rw [HV.out] at hv
 go_wp2_with fail
 go_ret
 exact ⟨_, rfl, hv, below_next (below_new w _) hb⟩
theorem RN.head {w : World} {A : Option Addr} {l c n : Nat} (h : RN w (.slice A l c) n) (h0 : n ≠ 0) : (1 < l ∧ n ≠ 1) ∨ (l = 1 ∧ n < 4294967296 ∧ ∃ g o, A = some ⟨g, o, none⟩ ∧ g < w.heap.size ∧ w.cell? ⟨g, o, none⟩ = some (.int .u32 (n : Int))) := by
 obtain ⟨A', c', xs, e, _, hx, hr⟩ := h.opened
 injection e with e1 e2 e3
 subst e1 e2 e3
 have hp : 0 < xs.length := by rw [hx.out]; exact wlen_pos.2 h0
 by_cases h1 : xs.length = 1
 ·right
  obtain ⟨g, o, rfl, hg, hc⟩ := hr.out.cell (j := 0) hp
  have hn : nat xs 0 = n := by
   rw [← valN_dg n, ← hx.out]
   match xs, h1 with
   | [y], _ => simp [nat, valN]
  rw [hn, Nat.add_zero] at hc
  exact ⟨h1, by rw [← hn]; exact nat_lt hr.out.wd 0, g, o, rfl, hg, hc⟩
 ·left
  refine ⟨by omega, ?_⟩
  rintro rfl
  exact h1 (by rw [hx.out]; rfl)
theorem rone_calls (w : World) : Calls Try.prog 117 #[] w fun e w' => ∃ g, e = .returned (.slice (some ⟨g, 0, none⟩) 1 1) ∧ RN w' (.slice (some ⟨g, 0, none⟩) 1 1) 1 ∧ Below w.heap.size w w' := by
 go_enter Try.func117, Try.ntmps117
 go_wp2_with fail
 go_ret
 exact ⟨w.heap.size, rfl, rn_one w 103, below_new w _⟩
theorem rzero_calls (w : World) : Calls Try.prog 88 #[] w fun e w' => FPost w 0 e w' := by
 go_enter Try.func88, Try.ntmps88
 go_wp2_with fail
 have H0 := Hd (HS.one (w := w) #[.bool false, .slice none 0 0, .slice none 0 0] 40)
 generalize w.alloc (.cells #[.bool false, .slice none 0 0, .slice none 0 0] 40) = W0 at *
 refine (rone_calls W0).mono ?_
 rintro e w1 ⟨g, rfl, h1, hb⟩
 have H1 := Hd (H0.out.step hb)
 have HV := Hd h1
 clear hb h1
 obtain ⟨e0, e1, e2⟩ := (H1.out.blk 0 rfl).c3
 obtain ⟨f0, f1, f2⟩ := (H1.out.blk 0 rfl).f3
 go_wp2_with fail
 exact end40 Try.results88 rfl (H1.out.blk 0 rfl) ⟨_, _, rfl, Rd.nil _, HV.out⟩ (Nat.le_refl _) H1.out.2
theorem fq_mk {w : World} {v1 v2 : Value} {neg : Bool} {m n g : Nat} (hn : n ≠ 0) (hm : m ≠ 0) (hg : g = Nat.gcd m n) (h1 : RN w v1 (m / g)) (h2 : RN w v2 (n / g)) : FQ w (.agg #[.bool neg, v1, v2]) (mkRat (sg neg m) n) := by
 subst hg
 exact ⟨v1, v2, by rw [mk_neg neg m n hn hm], by rw [mk_num neg m n hn, sg_natAbs]; exact h1, by rw [mk_den neg m n hn]; exact h2⟩
theorem FQ.parts {w : World} {s : Bool} {v1 v2 : Value} {q : Rat} (h : FQ w (.agg #[.bool s, v1, v2]) q) : s = negQ q ∧ RN w v1 q.num.natAbs ∧ RN w v2 q.den := by
 obtain ⟨x, y, e, h1, h2⟩ := h
 injection e with e
 have e : s = negQ q ∧ v1 = x ∧ v2 = y := by simpa using e
 obtain ⟨rfl, rfl, rfl⟩ := e
 exact ⟨rfl, h1, h2⟩
theorem FQ.len {w : World} {A1 A2 : Option Addr} {n1 c1 n2 c2 : Nat} {s : Bool} {q : Rat} (h : FQ w (.agg #[.bool s, .slice A1 n1 c1, .slice A2 n2 c2]) q) : n1 = wlen q.num.natAbs := by
 obtain ⟨_, h1, _⟩ := FQ.parts h
 obtain ⟨A, c, xs, e, _, hx, _⟩ := RN.opened h1
 injection e with _ e _
 rw [e, hx.out]; rfl
theorem ret40i {fn : Func} {p t : Tmp} {Post : Ending → World → Prop} {tmps : Array Value} {w : World} {g : Nat} {a b c r : Value} (hres : fn.results = #[.cell p 40, .tmp t]) (hp : tmps.getD p undef = .pointer (some ⟨g, 0, none⟩)) (ht : tmps.getD t undef = r) (hb : Blk w g 40 #[a, b, c])
  (hP : Post (.returned (.tuple #[.agg #[a, b, c], r])) w) : bodyPost Try.prog fn Post Exit.ret { tmps := tmps, defers := [] } w := by
 refine bodyPost_ret (v := .tuple #[.agg #[a, b, c], r]) ?_ rfl hP
 have hp' : tmps[p]?.getD undef = .pointer (some ⟨g, 0, none⟩) := by simpa using hp
 have ht' : tmps[t]?.getD undef = r := by simpa using ht
 simp [results, hres, hp', ht', asAddr, run_loadVar_row (P := Try.prog) w g 40 40 #[a, b, c] (0, 0) _ hb Try.underlying40 rfl info40]
theorem boxes_put {w W : World} {g2 g3 g4 : Nat} {x y z x' y' z' a b c a' b' c' r s u : Value} (h : HS w [(g4, 40, #[r, s, u]), (g3, 40, #[x', y', z']), (g2, 40, #[x, y, z])] W) (h2 : w.heap.size ≤ g2) (h3 : w.heap.size ≤ g3) (n23 : g2 ≠ g3) (n24 : g2 ≠ g4) (n34 : g3 ≠ g4) :
  HS w [(g4, 40, #[r, s, u]), (g3, 40, #[a', b', c']), (g2, 40, #[a, b, c])] ((((((W.setCell ⟨g2, 0, none⟩ a).setCell ⟨g2, 1, none⟩ b).setCell ⟨g2, 2, none⟩ c).setCell ⟨g3, 0, none⟩ a').setCell ⟨g3, 1, none⟩ b').setCell ⟨g3, 2, none⟩ c') := by
 have k4 := h.blk 0 rfl
 have k3 := h.blk 1 rfl
 have k2 := h.blk 2 rfl
 have e2 := k2.put3 a b c
 have e3 := ((k3.other (a := ⟨g2, 0, none⟩) n23.symm a).other (a := ⟨g2, 1, none⟩) n23.symm b).other (a := ⟨g2, 2, none⟩) n23.symm c
 have e4 := ((k4.other (a := ⟨g2, 0, none⟩) n24.symm a).other (a := ⟨g2, 1, none⟩) n24.symm b).other (a := ⟨g2, 2, none⟩) n24.symm c
 have f2 := ((e2.other (a := ⟨g3, 0, none⟩) n23 a').other (a := ⟨g3, 1, none⟩) n23 b').other (a := ⟨g3, 2, none⟩) n23 c'
 have f3 := e3.put3 a' b' c'
 have f4 := ((e4.other (a := ⟨g3, 0, none⟩) n34.symm a').other (a := ⟨g3, 1, none⟩) n34.symm b').other (a := ⟨g3, 2, none⟩) n34.symm c'
 refine ⟨fun b hb => ?_, below_put3 (below_put3 h.2 h2 _ _ _) h3 _ _ _⟩
 simp only [List.mem_cons, List.not_mem_nil, or_false] at hb
 rcases hb with rfl | rfl | rfl
 ·exact f4
 ·exact f3
 ·exact f2
theorem ni_box {s : Bool} {A1 A2 : Option Addr} {n1 c1 n2 c2 : Nat} : ∀ u ∈ #[Value.bool s, .slice A1 n1 c1, .slice A2 n2 c2], notInt u = true := by simp [notInt]
theorem FQ.put33 {w : World} {v : Value} {q : Rat} {g2 g3 : Nat} {x y z x' y' z' a b c a' b' c' : Value} (h : FQ w v q) (n23 : g2 ≠ g3) (k2 : Blk w g2 40 #[x, y, z]) (k3 : Blk w g3 40 #[x', y', z']) (m2 : ∀ u ∈ #[x, y, z], notInt u = true) (m3 : ∀ u ∈ #[x', y', z'], notInt u = true) :
  FQ ((((((w.setCell ⟨g2, 0, none⟩ a).setCell ⟨g2, 1, none⟩ b).setCell ⟨g2, 2, none⟩ c).setCell ⟨g3, 0, none⟩ a').setCell ⟨g3, 1, none⟩ b').setCell ⟨g3, 2, none⟩ c') v q :=
 (h.put3 k2 m2 a b c).put3 (((k3.other (a := ⟨g2, 0, none⟩) n23.symm a).other (a := ⟨g2, 1, none⟩) n23.symm b).other (a := ⟨g2, 2, none⟩) n23.symm c) m3 a' b' c'
theorem fq_inv {w : World} {s : Bool} {v1 v2 : Value} {q : Rat} (h : FQ w (.agg #[.bool s, v1, v2]) q) (hq : q ≠ 0) : FQ w (.agg #[.bool s, v2, v1]) q⁻¹ := by
 obtain ⟨e, h1, h2⟩ := FQ.parts h
 subst e
 have hnz : q.num ≠ 0 := fun h => hq (Rat.num_eq_zero.1 h)
 refine ⟨v2, v1, by rw [negQ_inv], ?_, ?_⟩
 ·rw [Rat.num_inv, Int.natAbs_mul, Int.natAbs_sign_of_ne_zero hnz, Nat.one_mul, Int.natAbs_natCast]; exact h2
 ·rw [Rat.den_inv, if_neg hnz]; exact h1
theorem size_inv {q : Rat} (hq : q ≠ 0) : sizeQ q⁻¹ = sizeQ q := by
 have hnz : q.num ≠ 0 := fun h => hq (Rat.num_eq_zero.1 h)
 unfold sizeQ
 rw [Rat.num_inv, Int.natAbs_mul, Int.natAbs_sign_of_ne_zero hnz, Nat.one_mul, Int.natAbs_natCast, Rat.den_inv, if_neg hnz, Nat.add_comm]
theorem rat_inv_one : ((1 : Rat))⁻¹ = 1 := by
 have h := Rat.mul_inv_cancel (1 : Rat) (by decide)
 rwa [Rat.one_mul] at h
theorem size_int (n : Int) (h0 : -9223372036854775808 ≤ n) (h1 : n < 9223372036854775808) : sizeQ (n : Rat) ≤ 3 := by
 unfold sizeQ
 have a : wlen n.natAbs ≤ 2 := dg_len_two.2 (by omega)
 have b : wlen 1 = 1 := by decide
 show wlen n.natAbs + wlen 1 ≤ 3
 omega
end Go.Proofs.Ytfhambfgjigneaa

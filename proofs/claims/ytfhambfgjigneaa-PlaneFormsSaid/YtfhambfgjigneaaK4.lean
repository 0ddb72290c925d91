/- Contracts of Go functions that the statement reaches, proved by walking their text, and plain laws over them (texts put together). -/
import Derived.Test.YtfhambfgjigneaaK3
set_option linter.unusedVariables false
set_option linter.unusedSimpArgs false
namespace Go.Proofs.Ytfhambfgjigneaa
open Go.RowKit
theorem add_same (p q : Int) (d : Nat) (hd : d ≠ 0) : mkRat p d + mkRat q d = mkRat (p + q) d := by
  rw [Rat.mkRat_add_mkRat _ _ hd hd, ← Int.add_mul, Rat.mkRat_mul_right hd]
theorem plus_eq (s : Bool) (x y d : Nat) (hd : d ≠ 0) : mkRat (sg s x) d + mkRat (sg s y) d = mkRat (sg s (x + y)) d := by
  rw [add_same _ _ _ hd]
  congr 1
  unfold sg
  cases s <;> simp <;> omega
theorem plus_gt (s t : Bool) (hst : s ≠ t) (x y d : Nat) (hd : d ≠ 0) (h : y ≤ x) : mkRat (sg s x) d + mkRat (sg t y) d = mkRat (sg s (x - y)) d := by
  rw [add_same _ _ _ hd]
  congr 1
  unfold sg
  cases s <;> cases t <;> simp at hst ⊢ <;> omega
theorem plus_lt (s t : Bool) (hst : s ≠ t) (x y d : Nat) (hd : d ≠ 0) (h : x ≤ y) : mkRat (sg s x) d + mkRat (sg t y) d = mkRat (sg t (y - x)) d := by
  rw [Rat.add_comm]
  exact plus_gt t s (Ne.symm hst) y x d hd h
theorem scale_left (a : Rat) (k : Nat) (hk : k ≠ 0) : a = mkRat (sg (negQ a) (a.num.natAbs * k)) (a.den * k) := by
  conv => lhs; rw [← mk_self a, ← Rat.mkRat_mul_right hk]
  congr 1
  unfold sg
  split <;> simp [Int.neg_mul]
theorem scale_right (b : Rat) (k : Nat) (hk : k ≠ 0) : b = mkRat (sg (negQ b) (b.num.natAbs * k)) (k * b.den) := by
  rw [Nat.mul_comm k]
  exact scale_left b k hk
/-- .. and what is added, and the denominator. -/
def HP (w : World) (g1 g2 g3 t3 : Nat) (cs1 cs2 : Array Value) (vx vy vd : Value) (x y d : Nat) (W : World) : Prop := HX w g1 g2 g3 t3 cs1 cs2 W ∧ RN W vx x ∧ RN W vy y ∧ RN W vd d
theorem HP.step {w W W' : World} {g1 g2 g3 t3 : Nat} {cs1 cs2 : Array Value} {vx vy vd : Value} {x y d : Nat} (h : HP w g1 g2 g3 t3 cs1 cs2 vx vy vd x y d W) (hb : Below W.heap.size W W') : HP w g1 g2 g3 t3 cs1 cs2 vx vy vd x y d W' :=
  ⟨h.1.step hb, h.2.1.of_below hb, h.2.2.1.of_below hb, h.2.2.2.of_below hb⟩
theorem HP.put {w W : World} {g1 g2 g3 t3 : Nat} {cs1 cs2 : Array Value} {vx vy vd : Value} {x y d : Nat} (h : HP w g1 g2 g3 t3 cs1 cs2 vx vy vd x y d W) (h13 : g1 ≠ g3) (h23 : g2 ≠ g3) (hg : w.heap.size ≤ g3) (p q r : Value) (hn : ∀ u ∈ #[p, q, r], notInt u = true) :
    HP w g1 g2 g3 t3 cs1 cs2 vx vy vd x y d (((W.setCell ⟨g3, 0, none⟩ p).setCell ⟨g3, 1, none⟩ q).setCell ⟨g3, 2, none⟩ r) := by
  obtain ⟨a, b, c, hn0, hk⟩ := h.1.at3
  exact ⟨h.1.put h13 h23 hg p q r hn, h.2.1.put3 hk hn0 _ _ _, h.2.2.1.put3 hk hn0 _ _ _, h.2.2.2.put3 hk hn0 _ _ _⟩
set_option maxHeartbeats 16000000 in
set_option maxRecDepth 100000 in
theorem plus_calls (w : World) (v v2 : Value) (a b : Rat) (h : RQ w v a) (h2 : RQ w v2 b) (ha : sizeQ a ≤ 4000000000) (hb : sizeQ b ≤ 4000000000) :
    Calls Try.prog 72 #[v, v2] w fun e w' => QPost w (a + b) e w' := by
  obtain ⟨A1, n1, c1, A2, n2, c2, rfl, hn1, hn2, R1, R2⟩ := h.opened
  obtain ⟨A3, n3, c3, A4, n4, c4, rfl, hn3, hn4, R3, R4⟩ := h2.opened
  clear h h2
  have l1 : wlen a.num.natAbs ≤ 4000000000 := by unfold sizeQ at ha; omega
  have l2 : wlen a.den ≤ 4000000000 := by unfold sizeQ at ha; omega
  have l3 : wlen b.num.natAbs ≤ 4000000000 := by unfold sizeQ at hb; omega
  have l4 : wlen b.den ≤ 4000000000 := by unfold sizeQ at hb; omega
  obtain ⟨s1, hs1⟩ : ∃ s1, s1 = negQ a := ⟨_, rfl⟩
  obtain ⟨s2, hs2⟩ : ∃ s2, s2 = negQ b := ⟨_, rfl⟩
  rw [← hs1, ← hs2]
  have HS1 := Lib.hid hs1
  have HS2 := Lib.hid hs2
  have HN1 := Lib.hid hn1
  have HN2 := Lib.hid hn2
  have HN3 := Lib.hid hn3
  have HN4 := Lib.hid hn4
  clear hs1 hs2 hn1 hn2 hn3 hn4 ha hb
  have l5 := wlen_mul a.num.natAbs b.den
  have l6 := wlen_mul b.num.natAbs a.den
  have l7 := wlen_mul a.den b.den
  obtain ⟨q, hq⟩ : ∃ q, q = a + b := ⟨_, rfl⟩
  rw [← hq]
  have HQE := Lib.hid hq
  clear hq
  go_enter Try.func72, Try.ntmps72
  go_wp2_with fail
  have HX0 := HX.start w 85 #[.slice A1 n1 c1, .slice A2 n2 c2, .bool s1] #[.slice A3 n3 c3, .slice A4 n4 c4, .bool s2] #[.slice none 0 0, .slice none 0 0, .bool false] _ _ _ rfl ni85
  generalize ((w.alloc (.cells #[.slice A1 n1 c1, .slice A2 n2 c2, .bool s1] 85)).alloc (.cells #[.slice A3 n3 c3, .slice A4 n4 c4, .bool s2] 85)).alloc (.cells #[.slice none 0 0, .slice none 0 0, .bool false] 85) = W0 at *
  obtain ⟨k0, k1, k2, k3, k4, k5⟩ := HX0.cells
  go_quiet (fail)
  go_wp2_with fail
  refine (cmp_calls _ _ _ a.den b.den (R2.out.of_below (HX.bel (HX.step HX0 (Below.drewN0 (Below.refl _ _) nq)))) (R4.out.of_below (HX.bel (HX.step HX0 (Below.drewN0 (Below.refl _ _) nq)))) (by omega) (by omega)).mono ?_
  rintro e W1 ⟨rfl, hb1⟩
  have HX1 := HX.step (HX.step HX0 (Below.drewN0 (Below.refl _ _) nq)) hb1
  clear HX0 k0 k1 k2 k3 k4 k5 hb1
  obtain ⟨k0, k1, k2, k3, k4, k5⟩ := HX1.cells
  by_cases hde : a.den = b.den
  · have hc0 : cmpI a.den b.den = 0 := by unfold cmpI; rw [if_pos hde]
    rw [hc0]
    obtain ⟨x, hx⟩ : ∃ x, x = a.num.natAbs := ⟨_, rfl⟩
    obtain ⟨y, hy⟩ : ∃ y, y = b.num.natAbs := ⟨_, rfl⟩
    obtain ⟨d, hd0⟩ : ∃ d, d = a.den := ⟨_, rfl⟩
    have hd : d ≠ 0 := by rw [hd0]; exact a.den_nz
    have HEA : Hid (a = mkRat (sg s1 x) d) := by unfold Hid; rw [HS1.out, hx, hd0, mk_self]
    have HEB : Hid (b = mkRat (sg s2 y) d) := by unfold Hid; rw [HS2.out, hy, hd0, hde, mk_self]
    have lx : wlen x ≤ 8000000000 := by rw [hx]; omega
    have ly : wlen y ≤ 8000000000 := by rw [hy]; omega
    have ld : wlen d ≤ 8000000000 := by rw [hd0]; omega
    have HP0 : HP w w.heap.size (w.heap.size + 1) (w.heap.size + 1 + 1) 85 #[.slice A1 n1 c1, .slice A2 n2 c2, .bool s1] #[.slice A3 n3 c3, .slice A4 n4 c4, .bool s2] (.slice A1 n1 c1) (.slice A3 n3 c3) (.slice A2 n2 c2) x y d W1 :=
      ⟨HX1, by rw [hx]; exact R1.out.of_below HX1.bel, by rw [hy]; exact R3.out.of_below HX1.bel, by rw [hd0]; exact R2.out.of_below HX1.bel⟩
    clear hx hy hd0 hde hc0 HX1 l5 l6 l7
    obtain ⟨k0, k1, k2, k3, k4, k5⟩ := HP0.1.cells
    cases s1 with
    | true =>
      cases s2 with
      | true =>
        have HQ : Hid (mkRat (sg true (x + y)) d = q) := by
          unfold Hid
          rw [HQE.out, HEA.out, HEB.out, plus_eq _ _ _ _ hd]
        have hwa := wlen_add x y
        go_wp2_with fail
        go_region_held3 (fun W => (W.cell? ⟨w.heap.size, 0, none⟩ = some (.slice A1 n1 c1) ∧ W.cell? ⟨w.heap.size, 1, none⟩ = some (.slice A2 n2 c2) ∧ W.cell? ⟨w.heap.size, 2, none⟩ = some (.bool true) ∧
              W.cell? ⟨w.heap.size + 1, 0, none⟩ = some (.slice A3 n3 c3) ∧ W.cell? ⟨w.heap.size + 1, 1, none⟩ = some (.slice A4 n4 c4) ∧ W.cell? ⟨w.heap.size + 1, 2, none⟩ = some (.bool true)) ∧ HP w w.heap.size (w.heap.size + 1) (w.heap.size + 1 + 1) 85 #[.slice A1 n1 c1, .slice A2 n2 c2, .bool true] #[.slice A3 n3 c3, .slice A4 n4 c4, .bool true] (.slice A1 n1 c1) (.slice A3 n3 c3) (.slice A2 n2 c2) x y d W)
          (first | exact ⟨HX.cells (HP.step HP0 (Below.drew (Below.refl _ _))).1, HP.step HP0 (Below.drew (Below.refl _ _))⟩ | (have hk9 := (And.right ‹_ ∧ HP _ _ _ _ _ _ _ _ _ _ _ _ _ _›); have hk8 := HP.step hk9 ‹_›; exact ⟨HX.cells hk8.1, hk8⟩) | (have hk9 := (And.right ‹_ ∧ HP _ _ _ _ _ _ _ _ _ _ _ _ _ _›); exact ⟨HX.cells (HP.put hk9 (by omega) (by omega) (by omega) _ _ _ (by simp [notInt])).1, HP.put hk9 (by omega) (by omega) (by omega) _ _ _ (by simp [notInt])⟩))
          (first
            | (go_at_call 100; refine (add_calls _ (.slice A1 n1 c1) (.slice A3 n3 c3) x y ?_ ?_ ?_ ?_).mono ?_; exact ((And.right ‹_ ∧ HP _ _ _ _ _ _ _ _ _ _ _ _ _ _›)).2.1; exact ((And.right ‹_ ∧ HP _ _ _ _ _ _ _ _ _ _ _ _ _ _›)).2.2.1; omega; omega; rintro e w' ⟨v, rfl, hv, hb⟩)
            | (go_at_call 99; refine (reduced_q _ _ _ (x + y) (d) _ (q) HQ.out ?_ ?_ ?_ ?_ ?_).mono ?_; assumption; exact ((And.right ‹_ ∧ HP _ _ _ _ _ _ _ _ _ _ _ _ _ _›)).2.2.2; omega; omega; exact hd; rintro e w' ⟨v, rfl, hv, hb⟩; obtain ⟨A5, n5, c5, A6, n6, c6, rfl, hn5, hn6, h5, h6⟩ := hv.opened; clear hn5 hn6; obtain ⟨x3, y3, z3, hni3, hk3⟩ := HX.at3 (HP.step (And.right ‹_ ∧ HP _ _ _ _ _ _ _ _ _ _ _ _ _ _›) hb).1; have e0 := hk3.cell (j := 0) rfl; have e1 := hk3.cell (j := 1) rfl; have e2 := hk3.cell (j := 2) rfl; have f0 := hk3.frozen 0; have f1 := hk3.frozen 1; have f2 := hk3.frozen 2; have hb7 := HX.bel (HP.step (And.right ‹_ ∧ HP _ _ _ _ _ _ _ _ _ _ _ _ _ _›) hb).1))
        go_wp2_with fail
        exact ret85 Try.results72 rfl (hk3.put3 _ _ _) ⟨_, rfl, ⟨_, _, rfl, h5.out.put3 hk3 hni3 _ _ _, h6.out.put3 hk3 hni3 _ _ _⟩, below_put3 hb7 (by omega) _ _ _⟩
      | false =>
        go_wp2_with fail
        refine (cmp_calls _ _ _ x y HP0.2.1 HP0.2.2.1 (by omega) (by omega)).mono ?_
        rintro e W2 ⟨rfl, hb2⟩
        have HP1 := HP0.step hb2
        clear HP0 k0 k1 k2 k3 k4 k5
        have HP0 := HP1
        clear hb2 HP1
        obtain ⟨k0, k1, k2, k3, k4, k5⟩ := HP0.1.cells
        by_cases hxy : x = y
        · have hc : cmpI x y = 0 := by unfold cmpI; rw [if_pos hxy]
          rw [hc]
          have HQ0 : Hid (q = 0) := by unfold Hid; rw [HQE.out, HEA.out, HEB.out, plus_gt _ _ (by decide) _ _ _ hd (by omega), hxy, Nat.sub_self, mk_zero]
          clear hxy hc
          go_wp2_with fail
          refine (whole_calls W2 0 (by decide) (by decide)).mono ?_
          rintro e w1 ⟨v, rfl, hv, hb⟩
          obtain ⟨A5, n5, c5, A6, n6, c6, rfl, hn5, hn6, h5, h6⟩ := hv.opened
          clear hn5 hn6
          have hx1 := HX.step HP0.1 hb
          obtain ⟨x3, y3, z3, hni3, hk3⟩ := HX.at3 hx1
          have e0 := hk3.cell (j := 0) rfl
          have e1 := hk3.cell (j := 1) rfl
          have e2 := hk3.cell (j := 2) rfl
          have f0 := hk3.frozen 0
          have f1 := hk3.frozen 1
          have f2 := hk3.frozen 2
          have hb7 := HX.bel hx1
          go_wp2_with fail
          exact ret85 Try.results72 rfl (hk3.put3 _ _ _) ⟨_, rfl, by rw [HQ0.out]; exact ⟨_, _, rfl, h5.out.put3 hk3 hni3 _ _ _, h6.out.put3 hk3 hni3 _ _ _⟩, below_put3 hb7 (by omega) _ _ _⟩
        by_cases hlt : x < y
        · have hc : cmpI x y = -1 := by unfold cmpI; rw [if_neg hxy, if_pos hlt]
          rw [hc]
          have HQ : Hid (mkRat (sg false (y - x)) d = q) := by
            unfold Hid
            rw [HQE.out, HEA.out, HEB.out, plus_lt _ _ (by decide) _ _ _ hd (by omega)]
          have hwa := wlen_mono (Nat.sub_le y x)
          clear hc
          go_wp2_with fail
          go_region_held3 (fun W => (W.cell? ⟨w.heap.size, 0, none⟩ = some (.slice A1 n1 c1) ∧ W.cell? ⟨w.heap.size, 1, none⟩ = some (.slice A2 n2 c2) ∧ W.cell? ⟨w.heap.size, 2, none⟩ = some (.bool true) ∧
              W.cell? ⟨w.heap.size + 1, 0, none⟩ = some (.slice A3 n3 c3) ∧ W.cell? ⟨w.heap.size + 1, 1, none⟩ = some (.slice A4 n4 c4) ∧ W.cell? ⟨w.heap.size + 1, 2, none⟩ = some (.bool false)) ∧ HP w w.heap.size (w.heap.size + 1) (w.heap.size + 1 + 1) 85 #[.slice A1 n1 c1, .slice A2 n2 c2, .bool true] #[.slice A3 n3 c3, .slice A4 n4 c4, .bool false] (.slice A1 n1 c1) (.slice A3 n3 c3) (.slice A2 n2 c2) x y d W)
            (first | exact ⟨HX.cells (HP.step HP0 (Below.drew (Below.refl _ _))).1, HP.step HP0 (Below.drew (Below.refl _ _))⟩ | (have hk9 := (And.right ‹_ ∧ HP _ _ _ _ _ _ _ _ _ _ _ _ _ _›); have hk8 := HP.step hk9 ‹_›; exact ⟨HX.cells hk8.1, hk8⟩) | (have hk9 := (And.right ‹_ ∧ HP _ _ _ _ _ _ _ _ _ _ _ _ _ _›); exact ⟨HX.cells (HP.put hk9 (by omega) (by omega) (by omega) _ _ _ (by simp [notInt])).1, HP.put hk9 (by omega) (by omega) (by omega) _ _ _ (by simp [notInt])⟩))
            (first
              | (go_at_call 101; refine (sub_calls _ (.slice A3 n3 c3) (.slice A1 n1 c1) y x ?_ ?_ ?_ ?_).mono ?_; exact ((And.right ‹_ ∧ HP _ _ _ _ _ _ _ _ _ _ _ _ _ _›)).2.2.1; exact ((And.right ‹_ ∧ HP _ _ _ _ _ _ _ _ _ _ _ _ _ _›)).2.1; omega; omega; rintro e w' ⟨v, rfl, hv, hb⟩)
              | (go_at_call 99; refine (reduced_q _ _ _ (y - x) (d) _ (q) HQ.out ?_ ?_ ?_ ?_ ?_).mono ?_; assumption; exact ((And.right ‹_ ∧ HP _ _ _ _ _ _ _ _ _ _ _ _ _ _›)).2.2.2; omega; omega; exact hd; rintro e w' ⟨v, rfl, hv, hb⟩; obtain ⟨A5, n5, c5, A6, n6, c6, rfl, hn5, hn6, h5, h6⟩ := hv.opened; clear hn5 hn6; obtain ⟨x3, y3, z3, hni3, hk3⟩ := HX.at3 (HP.step (And.right ‹_ ∧ HP _ _ _ _ _ _ _ _ _ _ _ _ _ _›) hb).1; have e0 := hk3.cell (j := 0) rfl; have e1 := hk3.cell (j := 1) rfl; have e2 := hk3.cell (j := 2) rfl; have f0 := hk3.frozen 0; have f1 := hk3.frozen 1; have f2 := hk3.frozen 2; have hb7 := HX.bel (HP.step (And.right ‹_ ∧ HP _ _ _ _ _ _ _ _ _ _ _ _ _ _›) hb).1))
          go_wp2_with fail
          exact ret85 Try.results72 rfl (hk3.put3 _ _ _) ⟨_, rfl, ⟨_, _, rfl, h5.out.put3 hk3 hni3 _ _ _, h6.out.put3 hk3 hni3 _ _ _⟩, below_put3 hb7 (by omega) _ _ _⟩
        · have hc : cmpI x y = 1 := by unfold cmpI; rw [if_neg hxy, if_neg hlt]
          rw [hc]
          have HQ : Hid (mkRat (sg true (x - y)) d = q) := by
            unfold Hid
            rw [HQE.out, HEA.out, HEB.out, plus_gt _ _ (by decide) _ _ _ hd (by omega)]
          have hwa := wlen_mono (Nat.sub_le x y)
          clear hc
          go_wp2_with fail
          go_region_held3 (fun W => (W.cell? ⟨w.heap.size, 0, none⟩ = some (.slice A1 n1 c1) ∧ W.cell? ⟨w.heap.size, 1, none⟩ = some (.slice A2 n2 c2) ∧ W.cell? ⟨w.heap.size, 2, none⟩ = some (.bool true) ∧
              W.cell? ⟨w.heap.size + 1, 0, none⟩ = some (.slice A3 n3 c3) ∧ W.cell? ⟨w.heap.size + 1, 1, none⟩ = some (.slice A4 n4 c4) ∧ W.cell? ⟨w.heap.size + 1, 2, none⟩ = some (.bool false)) ∧ HP w w.heap.size (w.heap.size + 1) (w.heap.size + 1 + 1) 85 #[.slice A1 n1 c1, .slice A2 n2 c2, .bool true] #[.slice A3 n3 c3, .slice A4 n4 c4, .bool false] (.slice A1 n1 c1) (.slice A3 n3 c3) (.slice A2 n2 c2) x y d W)
            (first | exact ⟨HX.cells (HP.step HP0 (Below.drew (Below.refl _ _))).1, HP.step HP0 (Below.drew (Below.refl _ _))⟩ | (have hk9 := (And.right ‹_ ∧ HP _ _ _ _ _ _ _ _ _ _ _ _ _ _›); have hk8 := HP.step hk9 ‹_›; exact ⟨HX.cells hk8.1, hk8⟩) | (have hk9 := (And.right ‹_ ∧ HP _ _ _ _ _ _ _ _ _ _ _ _ _ _›); exact ⟨HX.cells (HP.put hk9 (by omega) (by omega) (by omega) _ _ _ (by simp [notInt])).1, HP.put hk9 (by omega) (by omega) (by omega) _ _ _ (by simp [notInt])⟩))
            (first
              | (go_at_call 101; refine (sub_calls _ (.slice A1 n1 c1) (.slice A3 n3 c3) x y ?_ ?_ ?_ ?_).mono ?_; exact ((And.right ‹_ ∧ HP _ _ _ _ _ _ _ _ _ _ _ _ _ _›)).2.1; exact ((And.right ‹_ ∧ HP _ _ _ _ _ _ _ _ _ _ _ _ _ _›)).2.2.1; omega; omega; rintro e w' ⟨v, rfl, hv, hb⟩)
              | (go_at_call 99; refine (reduced_q _ _ _ (x - y) (d) _ (q) HQ.out ?_ ?_ ?_ ?_ ?_).mono ?_; assumption; exact ((And.right ‹_ ∧ HP _ _ _ _ _ _ _ _ _ _ _ _ _ _›)).2.2.2; omega; omega; exact hd; rintro e w' ⟨v, rfl, hv, hb⟩; obtain ⟨A5, n5, c5, A6, n6, c6, rfl, hn5, hn6, h5, h6⟩ := hv.opened; clear hn5 hn6; obtain ⟨x3, y3, z3, hni3, hk3⟩ := HX.at3 (HP.step (And.right ‹_ ∧ HP _ _ _ _ _ _ _ _ _ _ _ _ _ _›) hb).1; have e0 := hk3.cell (j := 0) rfl; have e1 := hk3.cell (j := 1) rfl; have e2 := hk3.cell (j := 2) rfl; have f0 := hk3.frozen 0; have f1 := hk3.frozen 1; have f2 := hk3.frozen 2; have hb7 := HX.bel (HP.step (And.right ‹_ ∧ HP _ _ _ _ _ _ _ _ _ _ _ _ _ _›) hb).1))
          go_wp2_with fail
          exact ret85 Try.results72 rfl (hk3.put3 _ _ _) ⟨_, rfl, ⟨_, _, rfl, h5.out.put3 hk3 hni3 _ _ _, h6.out.put3 hk3 hni3 _ _ _⟩, below_put3 hb7 (by omega) _ _ _⟩
    | false =>
      cases s2 with
      | true =>
        go_wp2_with fail
        refine (cmp_calls _ _ _ x y HP0.2.1 HP0.2.2.1 (by omega) (by omega)).mono ?_
        rintro e W2 ⟨rfl, hb2⟩
        have HP1 := HP0.step hb2
        clear HP0 k0 k1 k2 k3 k4 k5
        have HP0 := HP1
        clear hb2 HP1
        obtain ⟨k0, k1, k2, k3, k4, k5⟩ := HP0.1.cells
        by_cases hxy : x = y
        · have hc : cmpI x y = 0 := by unfold cmpI; rw [if_pos hxy]
          rw [hc]
          have HQ0 : Hid (q = 0) := by unfold Hid; rw [HQE.out, HEA.out, HEB.out, plus_gt _ _ (by decide) _ _ _ hd (by omega), hxy, Nat.sub_self, mk_zero]
          clear hxy hc
          go_wp2_with fail
          refine (whole_calls W2 0 (by decide) (by decide)).mono ?_
          rintro e w1 ⟨v, rfl, hv, hb⟩
          obtain ⟨A5, n5, c5, A6, n6, c6, rfl, hn5, hn6, h5, h6⟩ := hv.opened
          clear hn5 hn6
          have hx1 := HX.step HP0.1 hb
          obtain ⟨x3, y3, z3, hni3, hk3⟩ := HX.at3 hx1
          have e0 := hk3.cell (j := 0) rfl
          have e1 := hk3.cell (j := 1) rfl
          have e2 := hk3.cell (j := 2) rfl
          have f0 := hk3.frozen 0
          have f1 := hk3.frozen 1
          have f2 := hk3.frozen 2
          have hb7 := HX.bel hx1
          go_wp2_with fail
          exact ret85 Try.results72 rfl (hk3.put3 _ _ _) ⟨_, rfl, by rw [HQ0.out]; exact ⟨_, _, rfl, h5.out.put3 hk3 hni3 _ _ _, h6.out.put3 hk3 hni3 _ _ _⟩, below_put3 hb7 (by omega) _ _ _⟩
        by_cases hlt : x < y
        · have hc : cmpI x y = -1 := by unfold cmpI; rw [if_neg hxy, if_pos hlt]
          rw [hc]
          have HQ : Hid (mkRat (sg true (y - x)) d = q) := by
            unfold Hid
            rw [HQE.out, HEA.out, HEB.out, plus_lt _ _ (by decide) _ _ _ hd (by omega)]
          have hwa := wlen_mono (Nat.sub_le y x)
          clear hc
          go_wp2_with fail
          go_region_held3 (fun W => (W.cell? ⟨w.heap.size, 0, none⟩ = some (.slice A1 n1 c1) ∧ W.cell? ⟨w.heap.size, 1, none⟩ = some (.slice A2 n2 c2) ∧ W.cell? ⟨w.heap.size, 2, none⟩ = some (.bool false) ∧
              W.cell? ⟨w.heap.size + 1, 0, none⟩ = some (.slice A3 n3 c3) ∧ W.cell? ⟨w.heap.size + 1, 1, none⟩ = some (.slice A4 n4 c4) ∧ W.cell? ⟨w.heap.size + 1, 2, none⟩ = some (.bool true)) ∧ HP w w.heap.size (w.heap.size + 1) (w.heap.size + 1 + 1) 85 #[.slice A1 n1 c1, .slice A2 n2 c2, .bool false] #[.slice A3 n3 c3, .slice A4 n4 c4, .bool true] (.slice A1 n1 c1) (.slice A3 n3 c3) (.slice A2 n2 c2) x y d W)
            (first | exact ⟨HX.cells (HP.step HP0 (Below.drew (Below.refl _ _))).1, HP.step HP0 (Below.drew (Below.refl _ _))⟩ | (have hk9 := (And.right ‹_ ∧ HP _ _ _ _ _ _ _ _ _ _ _ _ _ _›); have hk8 := HP.step hk9 ‹_›; exact ⟨HX.cells hk8.1, hk8⟩) | (have hk9 := (And.right ‹_ ∧ HP _ _ _ _ _ _ _ _ _ _ _ _ _ _›); exact ⟨HX.cells (HP.put hk9 (by omega) (by omega) (by omega) _ _ _ (by simp [notInt])).1, HP.put hk9 (by omega) (by omega) (by omega) _ _ _ (by simp [notInt])⟩))
            (first
              | (go_at_call 101; refine (sub_calls _ (.slice A3 n3 c3) (.slice A1 n1 c1) y x ?_ ?_ ?_ ?_).mono ?_; exact ((And.right ‹_ ∧ HP _ _ _ _ _ _ _ _ _ _ _ _ _ _›)).2.2.1; exact ((And.right ‹_ ∧ HP _ _ _ _ _ _ _ _ _ _ _ _ _ _›)).2.1; omega; omega; rintro e w' ⟨v, rfl, hv, hb⟩)
              | (go_at_call 99; refine (reduced_q _ _ _ (y - x) (d) _ (q) HQ.out ?_ ?_ ?_ ?_ ?_).mono ?_; assumption; exact ((And.right ‹_ ∧ HP _ _ _ _ _ _ _ _ _ _ _ _ _ _›)).2.2.2; omega; omega; exact hd; rintro e w' ⟨v, rfl, hv, hb⟩; obtain ⟨A5, n5, c5, A6, n6, c6, rfl, hn5, hn6, h5, h6⟩ := hv.opened; clear hn5 hn6; obtain ⟨x3, y3, z3, hni3, hk3⟩ := HX.at3 (HP.step (And.right ‹_ ∧ HP _ _ _ _ _ _ _ _ _ _ _ _ _ _›) hb).1; have e0 := hk3.cell (j := 0) rfl; have e1 := hk3.cell (j := 1) rfl; have e2 := hk3.cell (j := 2) rfl; have f0 := hk3.frozen 0; have f1 := hk3.frozen 1; have f2 := hk3.frozen 2; have hb7 := HX.bel (HP.step (And.right ‹_ ∧ HP _ _ _ _ _ _ _ _ _ _ _ _ _ _›) hb).1))
          go_wp2_with fail
          exact ret85 Try.results72 rfl (hk3.put3 _ _ _) ⟨_, rfl, ⟨_, _, rfl, h5.out.put3 hk3 hni3 _ _ _, h6.out.put3 hk3 hni3 _ _ _⟩, below_put3 hb7 (by omega) _ _ _⟩
        · have hc : cmpI x y = 1 := by unfold cmpI; rw [if_neg hxy, if_neg hlt]
          rw [hc]
          have HQ : Hid (mkRat (sg false (x - y)) d = q) := by
            unfold Hid
            rw [HQE.out, HEA.out, HEB.out, plus_gt _ _ (by decide) _ _ _ hd (by omega)]
          have hwa := wlen_mono (Nat.sub_le x y)
          clear hc
          go_wp2_with fail
          go_region_held3 (fun W => (W.cell? ⟨w.heap.size, 0, none⟩ = some (.slice A1 n1 c1) ∧ W.cell? ⟨w.heap.size, 1, none⟩ = some (.slice A2 n2 c2) ∧ W.cell? ⟨w.heap.size, 2, none⟩ = some (.bool false) ∧
              W.cell? ⟨w.heap.size + 1, 0, none⟩ = some (.slice A3 n3 c3) ∧ W.cell? ⟨w.heap.size + 1, 1, none⟩ = some (.slice A4 n4 c4) ∧ W.cell? ⟨w.heap.size + 1, 2, none⟩ = some (.bool true)) ∧ HP w w.heap.size (w.heap.size + 1) (w.heap.size + 1 + 1) 85 #[.slice A1 n1 c1, .slice A2 n2 c2, .bool false] #[.slice A3 n3 c3, .slice A4 n4 c4, .bool true] (.slice A1 n1 c1) (.slice A3 n3 c3) (.slice A2 n2 c2) x y d W)
            (first | exact ⟨HX.cells (HP.step HP0 (Below.drew (Below.refl _ _))).1, HP.step HP0 (Below.drew (Below.refl _ _))⟩ | (have hk9 := (And.right ‹_ ∧ HP _ _ _ _ _ _ _ _ _ _ _ _ _ _›); have hk8 := HP.step hk9 ‹_›; exact ⟨HX.cells hk8.1, hk8⟩) | (have hk9 := (And.right ‹_ ∧ HP _ _ _ _ _ _ _ _ _ _ _ _ _ _›); exact ⟨HX.cells (HP.put hk9 (by omega) (by omega) (by omega) _ _ _ (by simp [notInt])).1, HP.put hk9 (by omega) (by omega) (by omega) _ _ _ (by simp [notInt])⟩))
            (first
              | (go_at_call 101; refine (sub_calls _ (.slice A1 n1 c1) (.slice A3 n3 c3) x y ?_ ?_ ?_ ?_).mono ?_; exact ((And.right ‹_ ∧ HP _ _ _ _ _ _ _ _ _ _ _ _ _ _›)).2.1; exact ((And.right ‹_ ∧ HP _ _ _ _ _ _ _ _ _ _ _ _ _ _›)).2.2.1; omega; omega; rintro e w' ⟨v, rfl, hv, hb⟩)
              | (go_at_call 99; refine (reduced_q _ _ _ (x - y) (d) _ (q) HQ.out ?_ ?_ ?_ ?_ ?_).mono ?_; assumption; exact ((And.right ‹_ ∧ HP _ _ _ _ _ _ _ _ _ _ _ _ _ _›)).2.2.2; omega; omega; exact hd; rintro e w' ⟨v, rfl, hv, hb⟩; obtain ⟨A5, n5, c5, A6, n6, c6, rfl, hn5, hn6, h5, h6⟩ := hv.opened; clear hn5 hn6; obtain ⟨x3, y3, z3, hni3, hk3⟩ := HX.at3 (HP.step (And.right ‹_ ∧ HP _ _ _ _ _ _ _ _ _ _ _ _ _ _›) hb).1; have e0 := hk3.cell (j := 0) rfl; have e1 := hk3.cell (j := 1) rfl; have e2 := hk3.cell (j := 2) rfl; have f0 := hk3.frozen 0; have f1 := hk3.frozen 1; have f2 := hk3.frozen 2; have hb7 := HX.bel (HP.step (And.right ‹_ ∧ HP _ _ _ _ _ _ _ _ _ _ _ _ _ _›) hb).1))
          go_wp2_with fail
          exact ret85 Try.results72 rfl (hk3.put3 _ _ _) ⟨_, rfl, ⟨_, _, rfl, h5.out.put3 hk3 hni3 _ _ _, h6.out.put3 hk3 hni3 _ _ _⟩, below_put3 hb7 (by omega) _ _ _⟩
      | false =>
        have HQ : Hid (mkRat (sg false (x + y)) d = q) := by
          unfold Hid
          rw [HQE.out, HEA.out, HEB.out, plus_eq _ _ _ _ hd]
        have hwa := wlen_add x y
        go_wp2_with fail
        go_region_held3 (fun W => (W.cell? ⟨w.heap.size, 0, none⟩ = some (.slice A1 n1 c1) ∧ W.cell? ⟨w.heap.size, 1, none⟩ = some (.slice A2 n2 c2) ∧ W.cell? ⟨w.heap.size, 2, none⟩ = some (.bool false) ∧
              W.cell? ⟨w.heap.size + 1, 0, none⟩ = some (.slice A3 n3 c3) ∧ W.cell? ⟨w.heap.size + 1, 1, none⟩ = some (.slice A4 n4 c4) ∧ W.cell? ⟨w.heap.size + 1, 2, none⟩ = some (.bool false)) ∧ HP w w.heap.size (w.heap.size + 1) (w.heap.size + 1 + 1) 85 #[.slice A1 n1 c1, .slice A2 n2 c2, .bool false] #[.slice A3 n3 c3, .slice A4 n4 c4, .bool false] (.slice A1 n1 c1) (.slice A3 n3 c3) (.slice A2 n2 c2) x y d W)
          (first | exact ⟨HX.cells (HP.step HP0 (Below.drew (Below.refl _ _))).1, HP.step HP0 (Below.drew (Below.refl _ _))⟩ | (have hk9 := (And.right ‹_ ∧ HP _ _ _ _ _ _ _ _ _ _ _ _ _ _›); have hk8 := HP.step hk9 ‹_›; exact ⟨HX.cells hk8.1, hk8⟩) | (have hk9 := (And.right ‹_ ∧ HP _ _ _ _ _ _ _ _ _ _ _ _ _ _›); exact ⟨HX.cells (HP.put hk9 (by omega) (by omega) (by omega) _ _ _ (by simp [notInt])).1, HP.put hk9 (by omega) (by omega) (by omega) _ _ _ (by simp [notInt])⟩))
          (first
            | (go_at_call 100; refine (add_calls _ (.slice A1 n1 c1) (.slice A3 n3 c3) x y ?_ ?_ ?_ ?_).mono ?_; exact ((And.right ‹_ ∧ HP _ _ _ _ _ _ _ _ _ _ _ _ _ _›)).2.1; exact ((And.right ‹_ ∧ HP _ _ _ _ _ _ _ _ _ _ _ _ _ _›)).2.2.1; omega; omega; rintro e w' ⟨v, rfl, hv, hb⟩)
            | (go_at_call 99; refine (reduced_q _ _ _ (x + y) (d) _ (q) HQ.out ?_ ?_ ?_ ?_ ?_).mono ?_; assumption; exact ((And.right ‹_ ∧ HP _ _ _ _ _ _ _ _ _ _ _ _ _ _›)).2.2.2; omega; omega; exact hd; rintro e w' ⟨v, rfl, hv, hb⟩; obtain ⟨A5, n5, c5, A6, n6, c6, rfl, hn5, hn6, h5, h6⟩ := hv.opened; clear hn5 hn6; obtain ⟨x3, y3, z3, hni3, hk3⟩ := HX.at3 (HP.step (And.right ‹_ ∧ HP _ _ _ _ _ _ _ _ _ _ _ _ _ _›) hb).1; have e0 := hk3.cell (j := 0) rfl; have e1 := hk3.cell (j := 1) rfl; have e2 := hk3.cell (j := 2) rfl; have f0 := hk3.frozen 0; have f1 := hk3.frozen 1; have f2 := hk3.frozen 2; have hb7 := HX.bel (HP.step (And.right ‹_ ∧ HP _ _ _ _ _ _ _ _ _ _ _ _ _ _›) hb).1))
        go_wp2_with fail
        exact ret85 Try.results72 rfl (hk3.put3 _ _ _) ⟨_, rfl, ⟨_, _, rfl, h5.out.put3 hk3 hni3 _ _ _, h6.out.put3 hk3 hni3 _ _ _⟩, below_put3 hb7 (by omega) _ _ _⟩
  · have hc0 : cmpI a.den b.den ≠ 0 := by unfold cmpI; rw [if_neg hde]; split <;> omega
    obtain ⟨ci, hci⟩ : ∃ ci, cmpI a.den b.den = ci := ⟨_, rfl⟩
    rw [hci] at hc0 ⊢
    have t0 : (ci != 0) = true := by simpa using hc0
    clear hci
    go_wp2_with fail
    go_region_held3 (fun W => (W.cell? ⟨w.heap.size, 0, none⟩ = some (.slice A1 n1 c1) ∧ W.cell? ⟨w.heap.size, 1, none⟩ = some (.slice A2 n2 c2) ∧ W.cell? ⟨w.heap.size, 2, none⟩ = some (.bool s1) ∧
      W.cell? ⟨w.heap.size + 1, 0, none⟩ = some (.slice A3 n3 c3) ∧ W.cell? ⟨w.heap.size + 1, 1, none⟩ = some (.slice A4 n4 c4) ∧ W.cell? ⟨w.heap.size + 1, 2, none⟩ = some (.bool s2)) ∧ HX w w.heap.size (w.heap.size + 1) (w.heap.size + 1 + 1) 85 #[.slice A1 n1 c1, .slice A2 n2 c2, .bool s1] #[.slice A3 n3 c3, .slice A4 n4 c4, .bool s2] W)
      (first | exact ⟨(HX.drew HX1).cells, HX.drew HX1⟩ | (have hk9 := (And.right ‹_ ∧ HX _ _ _ _ _ _ _ _›); have hk8 := HX.step hk9 ‹_›; exact ⟨hk8.cells, hk8⟩) | (have hk9 := (And.right ‹_ ∧ HX _ _ _ _ _ _ _ _›); exact ⟨HX.cells (HX.put hk9 (by omega) (by omega) (by omega) _ _ _ (by simp [notInt])), HX.put hk9 (by omega) (by omega) (by omega) _ _ _ (by simp [notInt])⟩))
      (first
        | (go_at_call_of 97 (Value.slice A1 n1 c1); refine (mul_calls _ (.slice A1 n1 c1) (.slice A4 n4 c4) a.num.natAbs b.den ?_ ?_ ?_ ?_).mono ?_; exact R1.out.of_below (HX.bel (And.right ‹_ ∧ HX _ _ _ _ _ _ _ _›)); exact R4.out.of_below (HX.bel (And.right ‹_ ∧ HX _ _ _ _ _ _ _ _›)); omega; omega; rintro e w' ⟨v, rfl, hvX, hbX⟩; obtain ⟨AX, cX, lX, eX, _, _, _⟩ := hvX.opened; subst eX)
        | (go_at_call_of 97 (Value.slice A3 n3 c3); refine (mul_calls _ (.slice A3 n3 c3) (.slice A2 n2 c2) b.num.natAbs a.den ?_ ?_ ?_ ?_).mono ?_; exact R3.out.of_below (HX.bel (And.right ‹_ ∧ HX _ _ _ _ _ _ _ _›)); exact R2.out.of_below (HX.bel (And.right ‹_ ∧ HX _ _ _ _ _ _ _ _›)); omega; omega; rintro e w' ⟨v, rfl, hvY, hbY⟩; obtain ⟨AY, cY, lY, eY, _, _, _⟩ := hvY.opened; subst eY)
        | (go_at_call_of 97 (Value.slice A2 n2 c2); refine (mul_calls _ (.slice A2 n2 c2) (.slice A4 n4 c4) a.den b.den ?_ ?_ ?_ ?_).mono ?_; exact R2.out.of_below (HX.bel (And.right ‹_ ∧ HX _ _ _ _ _ _ _ _›)); exact R4.out.of_below (HX.bel (And.right ‹_ ∧ HX _ _ _ _ _ _ _ _›)); omega; omega; rintro e w' ⟨v, rfl, hvD, hbD⟩; obtain ⟨AD, cD, lD, eD, _, _, _⟩ := hvD.opened; subst eD))
    have HX9 := And.right ‹_ ∧ HX _ _ _ _ _ _ _ _›
    obtain ⟨x, hx⟩ : ∃ x, x = a.num.natAbs * b.den := ⟨_, rfl⟩
    obtain ⟨y, hy⟩ : ∃ y, y = b.num.natAbs * a.den := ⟨_, rfl⟩
    obtain ⟨d, hd0⟩ : ∃ d, d = a.den * b.den := ⟨_, rfl⟩
    have hd : d ≠ 0 := by rw [hd0]; exact Nat.mul_ne_zero a.den_nz b.den_nz
    have HEA : Hid (a = mkRat (sg s1 x) d) := by unfold Hid; rw [HS1.out, hx, hd0]; exact scale_left a b.den b.den_nz
    have HEB : Hid (b = mkRat (sg s2 y) d) := by unfold Hid; rw [HS2.out, hy, hd0]; exact scale_right b a.den a.den_nz
    have lx : wlen x ≤ 8000000000 := by rw [hx]; omega
    have ly : wlen y ≤ 8000000000 := by rw [hy]; omega
    have ld : wlen d ≤ 8000000000 := by rw [hd0]; omega
    rw [← hx] at hvX
    rw [← hy] at hvY
    rw [← hd0] at hvD
    have HP0 := (show HP w w.heap.size (w.heap.size + 1) (w.heap.size + 1 + 1) 85 #[.slice A1 n1 c1, .slice A2 n2 c2, .bool s1] #[.slice A3 n3 c3, .slice A4 n4 c4, .bool s2] (.slice AX lX.length cX) (.slice AY lY.length cY) (.slice AD lD.length cD) x y d _ from
      ⟨HX9, (hvX.of_below hbY).of_below hbD, hvY.of_below hbD, hvD⟩)
    clear hx hy hd0 hde hc0 HX1 HX9 l5 l6 l7 hvX hvY hvD hbX hbY hbD k0 k1 k2 k3 k4 k5
    generalize hW1 : w' = W1 at *
    obtain ⟨k0, k1, k2, k3, k4, k5⟩ := HP0.1.cells
    cases s1 with
    | true =>
      cases s2 with
      | true =>
        have HQ : Hid (mkRat (sg true (x + y)) d = q) := by
          unfold Hid
          rw [HQE.out, HEA.out, HEB.out, plus_eq _ _ _ _ hd]
        have hwa := wlen_add x y
        go_wp2_with fail
        go_region_held3 (fun W => (W.cell? ⟨w.heap.size, 0, none⟩ = some (.slice A1 n1 c1) ∧ W.cell? ⟨w.heap.size, 1, none⟩ = some (.slice A2 n2 c2) ∧ W.cell? ⟨w.heap.size, 2, none⟩ = some (.bool true) ∧
              W.cell? ⟨w.heap.size + 1, 0, none⟩ = some (.slice A3 n3 c3) ∧ W.cell? ⟨w.heap.size + 1, 1, none⟩ = some (.slice A4 n4 c4) ∧ W.cell? ⟨w.heap.size + 1, 2, none⟩ = some (.bool true)) ∧ HP w w.heap.size (w.heap.size + 1) (w.heap.size + 1 + 1) 85 #[.slice A1 n1 c1, .slice A2 n2 c2, .bool true] #[.slice A3 n3 c3, .slice A4 n4 c4, .bool true] (.slice AX lX.length cX) (.slice AY lY.length cY) (.slice AD lD.length cD) x y d W)
          (first | exact ⟨HX.cells (HP.step HP0 (Below.drew (Below.refl _ _))).1, HP.step HP0 (Below.drew (Below.refl _ _))⟩ | (have hk9 := (And.right ‹_ ∧ HP _ _ _ _ _ _ _ _ _ _ _ _ _ _›); have hk8 := HP.step hk9 ‹_›; exact ⟨HX.cells hk8.1, hk8⟩) | (have hk9 := (And.right ‹_ ∧ HP _ _ _ _ _ _ _ _ _ _ _ _ _ _›); exact ⟨HX.cells (HP.put hk9 (by omega) (by omega) (by omega) _ _ _ (by simp [notInt])).1, HP.put hk9 (by omega) (by omega) (by omega) _ _ _ (by simp [notInt])⟩))
          (first
            | (go_at_call 100; refine (add_calls _ (.slice AX lX.length cX) (.slice AY lY.length cY) x y ?_ ?_ ?_ ?_).mono ?_; exact ((And.right ‹_ ∧ HP _ _ _ _ _ _ _ _ _ _ _ _ _ _›)).2.1; exact ((And.right ‹_ ∧ HP _ _ _ _ _ _ _ _ _ _ _ _ _ _›)).2.2.1; omega; omega; rintro e w' ⟨v, rfl, hv, hb⟩)
            | (go_at_call 99; refine (reduced_q _ _ _ (x + y) (d) _ (q) HQ.out ?_ ?_ ?_ ?_ ?_).mono ?_; assumption; exact ((And.right ‹_ ∧ HP _ _ _ _ _ _ _ _ _ _ _ _ _ _›)).2.2.2; omega; omega; exact hd; rintro e w' ⟨v, rfl, hv, hb⟩; obtain ⟨A5, n5, c5, A6, n6, c6, rfl, hn5, hn6, h5, h6⟩ := hv.opened; clear hn5 hn6; obtain ⟨x3, y3, z3, hni3, hk3⟩ := HX.at3 (HP.step (And.right ‹_ ∧ HP _ _ _ _ _ _ _ _ _ _ _ _ _ _›) hb).1; have e0 := hk3.cell (j := 0) rfl; have e1 := hk3.cell (j := 1) rfl; have e2 := hk3.cell (j := 2) rfl; have f0 := hk3.frozen 0; have f1 := hk3.frozen 1; have f2 := hk3.frozen 2; have hb7 := HX.bel (HP.step (And.right ‹_ ∧ HP _ _ _ _ _ _ _ _ _ _ _ _ _ _›) hb).1))
        go_wp2_with fail
        exact ret85 Try.results72 rfl (hk3.put3 _ _ _) ⟨_, rfl, ⟨_, _, rfl, h5.out.put3 hk3 hni3 _ _ _, h6.out.put3 hk3 hni3 _ _ _⟩, below_put3 hb7 (by omega) _ _ _⟩
      | false =>
        go_wp2_with fail
        refine (cmp_calls _ _ _ x y HP0.2.1 HP0.2.2.1 (by omega) (by omega)).mono ?_
        rintro e W2 ⟨rfl, hb2⟩
        have HP1 := HP0.step hb2
        clear HP0 k0 k1 k2 k3 k4 k5
        have HP0 := HP1
        clear hb2 HP1
        obtain ⟨k0, k1, k2, k3, k4, k5⟩ := HP0.1.cells
        by_cases hxy : x = y
        · have hc : cmpI x y = 0 := by unfold cmpI; rw [if_pos hxy]
          rw [hc]
          have HQ0 : Hid (q = 0) := by unfold Hid; rw [HQE.out, HEA.out, HEB.out, plus_gt _ _ (by decide) _ _ _ hd (by omega), hxy, Nat.sub_self, mk_zero]
          clear hxy hc
          go_wp2_with fail
          refine (whole_calls W2 0 (by decide) (by decide)).mono ?_
          rintro e w1 ⟨v, rfl, hv, hb⟩
          obtain ⟨A5, n5, c5, A6, n6, c6, rfl, hn5, hn6, h5, h6⟩ := hv.opened
          clear hn5 hn6
          have hx1 := HX.step HP0.1 hb
          obtain ⟨x3, y3, z3, hni3, hk3⟩ := HX.at3 hx1
          have e0 := hk3.cell (j := 0) rfl
          have e1 := hk3.cell (j := 1) rfl
          have e2 := hk3.cell (j := 2) rfl
          have f0 := hk3.frozen 0
          have f1 := hk3.frozen 1
          have f2 := hk3.frozen 2
          have hb7 := HX.bel hx1
          go_wp2_with fail
          exact ret85 Try.results72 rfl (hk3.put3 _ _ _) ⟨_, rfl, by rw [HQ0.out]; exact ⟨_, _, rfl, h5.out.put3 hk3 hni3 _ _ _, h6.out.put3 hk3 hni3 _ _ _⟩, below_put3 hb7 (by omega) _ _ _⟩
        by_cases hlt : x < y
        · have hc : cmpI x y = -1 := by unfold cmpI; rw [if_neg hxy, if_pos hlt]
          rw [hc]
          have HQ : Hid (mkRat (sg false (y - x)) d = q) := by
            unfold Hid
            rw [HQE.out, HEA.out, HEB.out, plus_lt _ _ (by decide) _ _ _ hd (by omega)]
          have hwa := wlen_mono (Nat.sub_le y x)
          clear hc
          go_wp2_with fail
          go_region_held3 (fun W => (W.cell? ⟨w.heap.size, 0, none⟩ = some (.slice A1 n1 c1) ∧ W.cell? ⟨w.heap.size, 1, none⟩ = some (.slice A2 n2 c2) ∧ W.cell? ⟨w.heap.size, 2, none⟩ = some (.bool true) ∧
              W.cell? ⟨w.heap.size + 1, 0, none⟩ = some (.slice A3 n3 c3) ∧ W.cell? ⟨w.heap.size + 1, 1, none⟩ = some (.slice A4 n4 c4) ∧ W.cell? ⟨w.heap.size + 1, 2, none⟩ = some (.bool false)) ∧ HP w w.heap.size (w.heap.size + 1) (w.heap.size + 1 + 1) 85 #[.slice A1 n1 c1, .slice A2 n2 c2, .bool true] #[.slice A3 n3 c3, .slice A4 n4 c4, .bool false] (.slice AX lX.length cX) (.slice AY lY.length cY) (.slice AD lD.length cD) x y d W)
            (first | exact ⟨HX.cells (HP.step HP0 (Below.drew (Below.refl _ _))).1, HP.step HP0 (Below.drew (Below.refl _ _))⟩ | (have hk9 := (And.right ‹_ ∧ HP _ _ _ _ _ _ _ _ _ _ _ _ _ _›); have hk8 := HP.step hk9 ‹_›; exact ⟨HX.cells hk8.1, hk8⟩) | (have hk9 := (And.right ‹_ ∧ HP _ _ _ _ _ _ _ _ _ _ _ _ _ _›); exact ⟨HX.cells (HP.put hk9 (by omega) (by omega) (by omega) _ _ _ (by simp [notInt])).1, HP.put hk9 (by omega) (by omega) (by omega) _ _ _ (by simp [notInt])⟩))
            (first
              | (go_at_call 101; refine (sub_calls _ (.slice AY lY.length cY) (.slice AX lX.length cX) y x ?_ ?_ ?_ ?_).mono ?_; exact ((And.right ‹_ ∧ HP _ _ _ _ _ _ _ _ _ _ _ _ _ _›)).2.2.1; exact ((And.right ‹_ ∧ HP _ _ _ _ _ _ _ _ _ _ _ _ _ _›)).2.1; omega; omega; rintro e w' ⟨v, rfl, hv, hb⟩)
              | (go_at_call 99; refine (reduced_q _ _ _ (y - x) (d) _ (q) HQ.out ?_ ?_ ?_ ?_ ?_).mono ?_; assumption; exact ((And.right ‹_ ∧ HP _ _ _ _ _ _ _ _ _ _ _ _ _ _›)).2.2.2; omega; omega; exact hd; rintro e w' ⟨v, rfl, hv, hb⟩; obtain ⟨A5, n5, c5, A6, n6, c6, rfl, hn5, hn6, h5, h6⟩ := hv.opened; clear hn5 hn6; obtain ⟨x3, y3, z3, hni3, hk3⟩ := HX.at3 (HP.step (And.right ‹_ ∧ HP _ _ _ _ _ _ _ _ _ _ _ _ _ _›) hb).1; have e0 := hk3.cell (j := 0) rfl; have e1 := hk3.cell (j := 1) rfl; have e2 := hk3.cell (j := 2) rfl; have f0 := hk3.frozen 0; have f1 := hk3.frozen 1; have f2 := hk3.frozen 2; have hb7 := HX.bel (HP.step (And.right ‹_ ∧ HP _ _ _ _ _ _ _ _ _ _ _ _ _ _›) hb).1))
          go_wp2_with fail
          exact ret85 Try.results72 rfl (hk3.put3 _ _ _) ⟨_, rfl, ⟨_, _, rfl, h5.out.put3 hk3 hni3 _ _ _, h6.out.put3 hk3 hni3 _ _ _⟩, below_put3 hb7 (by omega) _ _ _⟩
        · have hc : cmpI x y = 1 := by unfold cmpI; rw [if_neg hxy, if_neg hlt]
          rw [hc]
          have HQ : Hid (mkRat (sg true (x - y)) d = q) := by
            unfold Hid
            rw [HQE.out, HEA.out, HEB.out, plus_gt _ _ (by decide) _ _ _ hd (by omega)]
          have hwa := wlen_mono (Nat.sub_le x y)
          clear hc
          go_wp2_with fail
          go_region_held3 (fun W => (W.cell? ⟨w.heap.size, 0, none⟩ = some (.slice A1 n1 c1) ∧ W.cell? ⟨w.heap.size, 1, none⟩ = some (.slice A2 n2 c2) ∧ W.cell? ⟨w.heap.size, 2, none⟩ = some (.bool true) ∧
              W.cell? ⟨w.heap.size + 1, 0, none⟩ = some (.slice A3 n3 c3) ∧ W.cell? ⟨w.heap.size + 1, 1, none⟩ = some (.slice A4 n4 c4) ∧ W.cell? ⟨w.heap.size + 1, 2, none⟩ = some (.bool false)) ∧ HP w w.heap.size (w.heap.size + 1) (w.heap.size + 1 + 1) 85 #[.slice A1 n1 c1, .slice A2 n2 c2, .bool true] #[.slice A3 n3 c3, .slice A4 n4 c4, .bool false] (.slice AX lX.length cX) (.slice AY lY.length cY) (.slice AD lD.length cD) x y d W)
            (first | exact ⟨HX.cells (HP.step HP0 (Below.drew (Below.refl _ _))).1, HP.step HP0 (Below.drew (Below.refl _ _))⟩ | (have hk9 := (And.right ‹_ ∧ HP _ _ _ _ _ _ _ _ _ _ _ _ _ _›); have hk8 := HP.step hk9 ‹_›; exact ⟨HX.cells hk8.1, hk8⟩) | (have hk9 := (And.right ‹_ ∧ HP _ _ _ _ _ _ _ _ _ _ _ _ _ _›); exact ⟨HX.cells (HP.put hk9 (by omega) (by omega) (by omega) _ _ _ (by simp [notInt])).1, HP.put hk9 (by omega) (by omega) (by omega) _ _ _ (by simp [notInt])⟩))
            (first
              | (go_at_call 101; refine (sub_calls _ (.slice AX lX.length cX) (.slice AY lY.length cY) x y ?_ ?_ ?_ ?_).mono ?_; exact ((And.right ‹_ ∧ HP _ _ _ _ _ _ _ _ _ _ _ _ _ _›)).2.1; exact ((And.right ‹_ ∧ HP _ _ _ _ _ _ _ _ _ _ _ _ _ _›)).2.2.1; omega; omega; rintro e w' ⟨v, rfl, hv, hb⟩)
              | (go_at_call 99; refine (reduced_q _ _ _ (x - y) (d) _ (q) HQ.out ?_ ?_ ?_ ?_ ?_).mono ?_; assumption; exact ((And.right ‹_ ∧ HP _ _ _ _ _ _ _ _ _ _ _ _ _ _›)).2.2.2; omega; omega; exact hd; rintro e w' ⟨v, rfl, hv, hb⟩; obtain ⟨A5, n5, c5, A6, n6, c6, rfl, hn5, hn6, h5, h6⟩ := hv.opened; clear hn5 hn6; obtain ⟨x3, y3, z3, hni3, hk3⟩ := HX.at3 (HP.step (And.right ‹_ ∧ HP _ _ _ _ _ _ _ _ _ _ _ _ _ _›) hb).1; have e0 := hk3.cell (j := 0) rfl; have e1 := hk3.cell (j := 1) rfl; have e2 := hk3.cell (j := 2) rfl; have f0 := hk3.frozen 0; have f1 := hk3.frozen 1; have f2 := hk3.frozen 2; have hb7 := HX.bel (HP.step (And.right ‹_ ∧ HP _ _ _ _ _ _ _ _ _ _ _ _ _ _›) hb).1))
          go_wp2_with fail
          exact ret85 Try.results72 rfl (hk3.put3 _ _ _) ⟨_, rfl, ⟨_, _, rfl, h5.out.put3 hk3 hni3 _ _ _, h6.out.put3 hk3 hni3 _ _ _⟩, below_put3 hb7 (by omega) _ _ _⟩
    | false =>
      cases s2 with
      | true =>
        go_wp2_with fail
        refine (cmp_calls _ _ _ x y HP0.2.1 HP0.2.2.1 (by omega) (by omega)).mono ?_
        rintro e W2 ⟨rfl, hb2⟩
        have HP1 := HP0.step hb2
        clear HP0 k0 k1 k2 k3 k4 k5
        have HP0 := HP1
        clear hb2 HP1
        obtain ⟨k0, k1, k2, k3, k4, k5⟩ := HP0.1.cells
        by_cases hxy : x = y
        · have hc : cmpI x y = 0 := by unfold cmpI; rw [if_pos hxy]
          rw [hc]
          have HQ0 : Hid (q = 0) := by unfold Hid; rw [HQE.out, HEA.out, HEB.out, plus_gt _ _ (by decide) _ _ _ hd (by omega), hxy, Nat.sub_self, mk_zero]
          clear hxy hc
          go_wp2_with fail
          refine (whole_calls W2 0 (by decide) (by decide)).mono ?_
          rintro e w1 ⟨v, rfl, hv, hb⟩
          obtain ⟨A5, n5, c5, A6, n6, c6, rfl, hn5, hn6, h5, h6⟩ := hv.opened
          clear hn5 hn6
          have hx1 := HX.step HP0.1 hb
          obtain ⟨x3, y3, z3, hni3, hk3⟩ := HX.at3 hx1
          have e0 := hk3.cell (j := 0) rfl
          have e1 := hk3.cell (j := 1) rfl
          have e2 := hk3.cell (j := 2) rfl
          have f0 := hk3.frozen 0
          have f1 := hk3.frozen 1
          have f2 := hk3.frozen 2
          have hb7 := HX.bel hx1
          go_wp2_with fail
          exact ret85 Try.results72 rfl (hk3.put3 _ _ _) ⟨_, rfl, by rw [HQ0.out]; exact ⟨_, _, rfl, h5.out.put3 hk3 hni3 _ _ _, h6.out.put3 hk3 hni3 _ _ _⟩, below_put3 hb7 (by omega) _ _ _⟩
        by_cases hlt : x < y
        · have hc : cmpI x y = -1 := by unfold cmpI; rw [if_neg hxy, if_pos hlt]
          rw [hc]
          have HQ : Hid (mkRat (sg true (y - x)) d = q) := by
            unfold Hid
            rw [HQE.out, HEA.out, HEB.out, plus_lt _ _ (by decide) _ _ _ hd (by omega)]
          have hwa := wlen_mono (Nat.sub_le y x)
          clear hc
          go_wp2_with fail
          go_region_held3 (fun W => (W.cell? ⟨w.heap.size, 0, none⟩ = some (.slice A1 n1 c1) ∧ W.cell? ⟨w.heap.size, 1, none⟩ = some (.slice A2 n2 c2) ∧ W.cell? ⟨w.heap.size, 2, none⟩ = some (.bool false) ∧
              W.cell? ⟨w.heap.size + 1, 0, none⟩ = some (.slice A3 n3 c3) ∧ W.cell? ⟨w.heap.size + 1, 1, none⟩ = some (.slice A4 n4 c4) ∧ W.cell? ⟨w.heap.size + 1, 2, none⟩ = some (.bool true)) ∧ HP w w.heap.size (w.heap.size + 1) (w.heap.size + 1 + 1) 85 #[.slice A1 n1 c1, .slice A2 n2 c2, .bool false] #[.slice A3 n3 c3, .slice A4 n4 c4, .bool true] (.slice AX lX.length cX) (.slice AY lY.length cY) (.slice AD lD.length cD) x y d W)
            (first | exact ⟨HX.cells (HP.step HP0 (Below.drew (Below.refl _ _))).1, HP.step HP0 (Below.drew (Below.refl _ _))⟩ | (have hk9 := (And.right ‹_ ∧ HP _ _ _ _ _ _ _ _ _ _ _ _ _ _›); have hk8 := HP.step hk9 ‹_›; exact ⟨HX.cells hk8.1, hk8⟩) | (have hk9 := (And.right ‹_ ∧ HP _ _ _ _ _ _ _ _ _ _ _ _ _ _›); exact ⟨HX.cells (HP.put hk9 (by omega) (by omega) (by omega) _ _ _ (by simp [notInt])).1, HP.put hk9 (by omega) (by omega) (by omega) _ _ _ (by simp [notInt])⟩))
            (first
              | (go_at_call 101; refine (sub_calls _ (.slice AY lY.length cY) (.slice AX lX.length cX) y x ?_ ?_ ?_ ?_).mono ?_; exact ((And.right ‹_ ∧ HP _ _ _ _ _ _ _ _ _ _ _ _ _ _›)).2.2.1; exact ((And.right ‹_ ∧ HP _ _ _ _ _ _ _ _ _ _ _ _ _ _›)).2.1; omega; omega; rintro e w' ⟨v, rfl, hv, hb⟩)
              | (go_at_call 99; refine (reduced_q _ _ _ (y - x) (d) _ (q) HQ.out ?_ ?_ ?_ ?_ ?_).mono ?_; assumption; exact ((And.right ‹_ ∧ HP _ _ _ _ _ _ _ _ _ _ _ _ _ _›)).2.2.2; omega; omega; exact hd; rintro e w' ⟨v, rfl, hv, hb⟩; obtain ⟨A5, n5, c5, A6, n6, c6, rfl, hn5, hn6, h5, h6⟩ := hv.opened; clear hn5 hn6; obtain ⟨x3, y3, z3, hni3, hk3⟩ := HX.at3 (HP.step (And.right ‹_ ∧ HP _ _ _ _ _ _ _ _ _ _ _ _ _ _›) hb).1; have e0 := hk3.cell (j := 0) rfl; have e1 := hk3.cell (j := 1) rfl; have e2 := hk3.cell (j := 2) rfl; have f0 := hk3.frozen 0; have f1 := hk3.frozen 1; have f2 := hk3.frozen 2; have hb7 := HX.bel (HP.step (And.right ‹_ ∧ HP _ _ _ _ _ _ _ _ _ _ _ _ _ _›) hb).1))
          go_wp2_with fail
          exact ret85 Try.results72 rfl (hk3.put3 _ _ _) ⟨_, rfl, ⟨_, _, rfl, h5.out.put3 hk3 hni3 _ _ _, h6.out.put3 hk3 hni3 _ _ _⟩, below_put3 hb7 (by omega) _ _ _⟩
        · have hc : cmpI x y = 1 := by unfold cmpI; rw [if_neg hxy, if_neg hlt]
          rw [hc]
          have HQ : Hid (mkRat (sg false (x - y)) d = q) := by
            unfold Hid
            rw [HQE.out, HEA.out, HEB.out, plus_gt _ _ (by decide) _ _ _ hd (by omega)]
          have hwa := wlen_mono (Nat.sub_le x y)
          clear hc
          go_wp2_with fail
          go_region_held3 (fun W => (W.cell? ⟨w.heap.size, 0, none⟩ = some (.slice A1 n1 c1) ∧ W.cell? ⟨w.heap.size, 1, none⟩ = some (.slice A2 n2 c2) ∧ W.cell? ⟨w.heap.size, 2, none⟩ = some (.bool false) ∧
              W.cell? ⟨w.heap.size + 1, 0, none⟩ = some (.slice A3 n3 c3) ∧ W.cell? ⟨w.heap.size + 1, 1, none⟩ = some (.slice A4 n4 c4) ∧ W.cell? ⟨w.heap.size + 1, 2, none⟩ = some (.bool true)) ∧ HP w w.heap.size (w.heap.size + 1) (w.heap.size + 1 + 1) 85 #[.slice A1 n1 c1, .slice A2 n2 c2, .bool false] #[.slice A3 n3 c3, .slice A4 n4 c4, .bool true] (.slice AX lX.length cX) (.slice AY lY.length cY) (.slice AD lD.length cD) x y d W)
            (first | exact ⟨HX.cells (HP.step HP0 (Below.drew (Below.refl _ _))).1, HP.step HP0 (Below.drew (Below.refl _ _))⟩ | (have hk9 := (And.right ‹_ ∧ HP _ _ _ _ _ _ _ _ _ _ _ _ _ _›); have hk8 := HP.step hk9 ‹_›; exact ⟨HX.cells hk8.1, hk8⟩) | (have hk9 := (And.right ‹_ ∧ HP _ _ _ _ _ _ _ _ _ _ _ _ _ _›); exact ⟨HX.cells (HP.put hk9 (by omega) (by omega) (by omega) _ _ _ (by simp [notInt])).1, HP.put hk9 (by omega) (by omega) (by omega) _ _ _ (by simp [notInt])⟩))
            (first
              | (go_at_call 101; refine (sub_calls _ (.slice AX lX.length cX) (.slice AY lY.length cY) x y ?_ ?_ ?_ ?_).mono ?_; exact ((And.right ‹_ ∧ HP _ _ _ _ _ _ _ _ _ _ _ _ _ _›)).2.1; exact ((And.right ‹_ ∧ HP _ _ _ _ _ _ _ _ _ _ _ _ _ _›)).2.2.1; omega; omega; rintro e w' ⟨v, rfl, hv, hb⟩)
              | (go_at_call 99; refine (reduced_q _ _ _ (x - y) (d) _ (q) HQ.out ?_ ?_ ?_ ?_ ?_).mono ?_; assumption; exact ((And.right ‹_ ∧ HP _ _ _ _ _ _ _ _ _ _ _ _ _ _›)).2.2.2; omega; omega; exact hd; rintro e w' ⟨v, rfl, hv, hb⟩; obtain ⟨A5, n5, c5, A6, n6, c6, rfl, hn5, hn6, h5, h6⟩ := hv.opened; clear hn5 hn6; obtain ⟨x3, y3, z3, hni3, hk3⟩ := HX.at3 (HP.step (And.right ‹_ ∧ HP _ _ _ _ _ _ _ _ _ _ _ _ _ _›) hb).1; have e0 := hk3.cell (j := 0) rfl; have e1 := hk3.cell (j := 1) rfl; have e2 := hk3.cell (j := 2) rfl; have f0 := hk3.frozen 0; have f1 := hk3.frozen 1; have f2 := hk3.frozen 2; have hb7 := HX.bel (HP.step (And.right ‹_ ∧ HP _ _ _ _ _ _ _ _ _ _ _ _ _ _›) hb).1))
          go_wp2_with fail
          exact ret85 Try.results72 rfl (hk3.put3 _ _ _) ⟨_, rfl, ⟨_, _, rfl, h5.out.put3 hk3 hni3 _ _ _, h6.out.put3 hk3 hni3 _ _ _⟩, below_put3 hb7 (by omega) _ _ _⟩
      | false =>
        have HQ : Hid (mkRat (sg false (x + y)) d = q) := by
          unfold Hid
          rw [HQE.out, HEA.out, HEB.out, plus_eq _ _ _ _ hd]
        have hwa := wlen_add x y
        go_wp2_with fail
        go_region_held3 (fun W => (W.cell? ⟨w.heap.size, 0, none⟩ = some (.slice A1 n1 c1) ∧ W.cell? ⟨w.heap.size, 1, none⟩ = some (.slice A2 n2 c2) ∧ W.cell? ⟨w.heap.size, 2, none⟩ = some (.bool false) ∧
              W.cell? ⟨w.heap.size + 1, 0, none⟩ = some (.slice A3 n3 c3) ∧ W.cell? ⟨w.heap.size + 1, 1, none⟩ = some (.slice A4 n4 c4) ∧ W.cell? ⟨w.heap.size + 1, 2, none⟩ = some (.bool false)) ∧ HP w w.heap.size (w.heap.size + 1) (w.heap.size + 1 + 1) 85 #[.slice A1 n1 c1, .slice A2 n2 c2, .bool false] #[.slice A3 n3 c3, .slice A4 n4 c4, .bool false] (.slice AX lX.length cX) (.slice AY lY.length cY) (.slice AD lD.length cD) x y d W)
          (first | exact ⟨HX.cells (HP.step HP0 (Below.drew (Below.refl _ _))).1, HP.step HP0 (Below.drew (Below.refl _ _))⟩ | (have hk9 := (And.right ‹_ ∧ HP _ _ _ _ _ _ _ _ _ _ _ _ _ _›); have hk8 := HP.step hk9 ‹_›; exact ⟨HX.cells hk8.1, hk8⟩) | (have hk9 := (And.right ‹_ ∧ HP _ _ _ _ _ _ _ _ _ _ _ _ _ _›); exact ⟨HX.cells (HP.put hk9 (by omega) (by omega) (by omega) _ _ _ (by simp [notInt])).1, HP.put hk9 (by omega) (by omega) (by omega) _ _ _ (by simp [notInt])⟩))
          (first
            | (go_at_call 100; refine (add_calls _ (.slice AX lX.length cX) (.slice AY lY.length cY) x y ?_ ?_ ?_ ?_).mono ?_; exact ((And.right ‹_ ∧ HP _ _ _ _ _ _ _ _ _ _ _ _ _ _›)).2.1; exact ((And.right ‹_ ∧ HP _ _ _ _ _ _ _ _ _ _ _ _ _ _›)).2.2.1; omega; omega; rintro e w' ⟨v, rfl, hv, hb⟩)
            | (go_at_call 99; refine (reduced_q _ _ _ (x + y) (d) _ (q) HQ.out ?_ ?_ ?_ ?_ ?_).mono ?_; assumption; exact ((And.right ‹_ ∧ HP _ _ _ _ _ _ _ _ _ _ _ _ _ _›)).2.2.2; omega; omega; exact hd; rintro e w' ⟨v, rfl, hv, hb⟩; obtain ⟨A5, n5, c5, A6, n6, c6, rfl, hn5, hn6, h5, h6⟩ := hv.opened; clear hn5 hn6; obtain ⟨x3, y3, z3, hni3, hk3⟩ := HX.at3 (HP.step (And.right ‹_ ∧ HP _ _ _ _ _ _ _ _ _ _ _ _ _ _›) hb).1; have e0 := hk3.cell (j := 0) rfl; have e1 := hk3.cell (j := 1) rfl; have e2 := hk3.cell (j := 2) rfl; have f0 := hk3.frozen 0; have f1 := hk3.frozen 1; have f2 := hk3.frozen 2; have hb7 := HX.bel (HP.step (And.right ‹_ ∧ HP _ _ _ _ _ _ _ _ _ _ _ _ _ _›) hb).1))
        go_wp2_with fail
        exact ret85 Try.results72 rfl (hk3.put3 _ _ _) ⟨_, rfl, ⟨_, _, rfl, h5.out.put3 hk3 hni3 _ _ _, h6.out.put3 hk3 hni3 _ _ _⟩, below_put3 hb7 (by omega) _ _ _⟩
end Go.Proofs.Ytfhambfgjigneaa
set_option linter.unusedVariables false
set_option linter.unusedSimpArgs false
namespace Go.Proofs.Ytfhambfgjigneaa
open Go.RowKit
def capQ (q : Rat) : Rat := if sizeQ q ≤ 4096 then q else 0
def FPost (w : World) (q : Rat) (e : Ending) (w' : World) : Prop := ∃ v, e = .returned v ∧ FQ w' v q ∧ Below w.heap.size w w'
theorem fq_zero {w : World} {v : Value} (h : RN w v 1) : FQ w (.agg #[.bool false, .slice none 0 0, v]) 0 := ⟨_, _, rfl, Rd.nil _, h⟩

def HT (w : World) (g1 g3 t3 : Nat) (cs1 : Array Value) (W : World) : Prop := Blk W g1 85 cs1 ∧ (∃ x y z, (∀ u ∈ #[x, y, z], notInt u = true) ∧ Blk W g3 t3 #[x, y, z]) ∧ Below w.heap.size w W
theorem HT.step {w W W' : World} {g1 g3 t3 : Nat} {cs1 : Array Value} (h : HT w g1 g3 t3 cs1 W) (hb : Below W.heap.size W W') : HT w g1 g3 t3 cs1 W' := by
  obtain ⟨h1, ⟨x, y, z, hn, h3⟩, h4⟩ := h
  exact ⟨h1.below hb h1.lt, ⟨x, y, z, hn, h3.below hb h3.lt⟩, h4.trans (hb.mono h4.size)⟩
theorem HT.put {w W : World} {g1 g3 t3 : Nat} {cs1 : Array Value} (h : HT w g1 g3 t3 cs1 W) (h13 : g1 ≠ g3) (hg : w.heap.size ≤ g3) (x y z : Value) (hn : ∀ u ∈ #[x, y, z], notInt u = true) :
    HT w g1 g3 t3 cs1 (((W.setCell ⟨g3, 0, none⟩ x).setCell ⟨g3, 1, none⟩ y).setCell ⟨g3, 2, none⟩ z) := by
  obtain ⟨h1, ⟨_, _, _, _, h3⟩, h4⟩ := h
  exact ⟨((h1.other (a := ⟨g3, 0, none⟩) h13 x).other (a := ⟨g3, 1, none⟩) h13 y).other (a := ⟨g3, 2, none⟩) h13 z, ⟨x, y, z, hn, h3.put3 x y z⟩, below_put3 h4 hg x y z⟩
theorem HT.cells {w W : World} {g1 g3 t3 : Nat} {a b c : Value} (h : HT w g1 g3 t3 #[a, b, c] W) : W.cell? ⟨g1, 0, none⟩ = some a ∧ W.cell? ⟨g1, 1, none⟩ = some b ∧ W.cell? ⟨g1, 2, none⟩ = some c := ⟨h.1.cell rfl, h.1.cell rfl, h.1.cell rfl⟩
theorem HT.bel {w W : World} {g1 g3 t3 : Nat} {cs1 : Array Value} (h : HT w g1 g3 t3 cs1 W) : Below w.heap.size w W := h.2.2
theorem HT.start (w : World) (t3 : Nat) (cs1 cs3 : Array Value) (x y z : Value) (h3 : cs3 = #[x, y, z]) (hn : ∀ u ∈ #[x, y, z], notInt u = true) :
    HT w w.heap.size (w.heap.size + 1) t3 cs1 ((w.alloc (.cells cs1 85)).alloc (.cells cs3 t3)) := by
  subst h3
  have k3 := Blk.new (w.alloc (.cells cs1 85)) t3 #[x, y, z]
  rw [size_alloc] at k3
  exact ⟨(Blk.new w 85 cs1).alloc _, ⟨x, y, z, hn, k3⟩, below_step (below_new w _) (Nat.le_refl _) _⟩
theorem own_rn (w : World) (v : Value) (n : Nat) (h : RN w v n) (hn : wlen n ≤ 1000000000000) : Calls Try.prog 102 #[v] w fun e w' => WPost w n e w' :=
  (own_calls w v (dg n) h hn).mono fun _ _ ⟨v, he, hr, hb⟩ => ⟨v, he, hr, hb⟩
set_option maxHeartbeats 16000000 in
set_option maxRecDepth 100000 in
theorem told_calls (w : World) (v : Value) (q : Rat) (h : RQ w v q) (hq : sizeQ q ≤ 4000000000) :
    Calls Try.prog 73 #[v] w fun e w' => FPost w (capQ q) e w' := by
  obtain ⟨A1, n1, c1, A2, n2, c2, rfl, hn1, hn2, R1, R2⟩ := h.opened
  clear h
  obtain ⟨s1, hs1⟩ : ∃ s1, s1 = negQ q := ⟨_, rfl⟩
  rw [← hs1]
  have HS1 := Lib.hid hs1
  have hnn : n1 + n2 = sizeQ q := by rw [hn1, hn2]; rfl
  have HNN := Lib.hid hnn
  have HN1 := Lib.hid hn1
  have HN2 := Lib.hid hn2
  clear hs1 hn1 hn2
  go_enter Try.func73, Try.ntmps73
  have wl : IntKind.i64.wrap ((n1 : Int) + (n2 : Int)) = (n1 : Int) + (n2 : Int) := IntWalk.i64_in _ (by omega)
  by_cases hbig : sizeQ q ≤ 4096
  · have t1 : decide ((n1 : Int) + (n2 : Int) > 4096) = false := decide_eq_false (by omega)
    have hcap : capQ q = q := by unfold capQ; rw [if_pos hbig]
    rw [hcap]
    clear hnn hbig hcap
    go_wp2_with fail
    have HT0 := HT.start w 40 #[.slice A1 n1 c1, .slice A2 n2 c2, .bool s1] #[.bool false, .slice none 0 0, .slice none 0 0] _ _ _ rfl ni40
    generalize (w.alloc (.cells #[.slice A1 n1 c1, .slice A2 n2 c2, .bool s1] 85)).alloc (.cells #[.bool false, .slice none 0 0, .slice none 0 0] 40) = W0 at *
    have l1 : wlen q.num.natAbs ≤ 4000000000 := by unfold sizeQ at hq; omega
    have l2 : wlen q.den ≤ 4000000000 := by unfold sizeQ at hq; omega
    go_region_held3 (fun W => (W.cell? ⟨w.heap.size, 0, none⟩ = some (.slice A1 n1 c1) ∧ W.cell? ⟨w.heap.size, 1, none⟩ = some (.slice A2 n2 c2) ∧ W.cell? ⟨w.heap.size, 2, none⟩ = some (.bool s1)) ∧ HT w w.heap.size (w.heap.size + 1) 40 #[.slice A1 n1 c1, .slice A2 n2 c2, .bool s1] W)
      (first | exact ⟨HT.cells (HT.step HT0 (Below.drew (Below.refl _ _))), HT.step HT0 (Below.drew (Below.refl _ _))⟩ | (have hk9 := (And.right ‹_ ∧ HT _ _ _ _ _ _›); have hk8 := HT.step hk9 ‹_›; exact ⟨HT.cells hk8, hk8⟩) | (have hk9 := (And.right ‹_ ∧ HT _ _ _ _ _ _›); exact ⟨HT.cells (HT.put hk9 (by omega) (by omega) _ _ _ (by simp [notInt])), HT.put hk9 (by omega) (by omega) _ _ _ (by simp [notInt])⟩))
      (first
        | (go_at_call_of 102 (Value.slice A1 n1 c1); refine (own_rn _ (.slice A1 n1 c1) q.num.natAbs ?_ ?_).mono ?_; exact R1.out.of_below (HT.bel (And.right ‹_ ∧ HT _ _ _ _ _ _›)); omega; rintro e w' ⟨v, rfl, hvX, hbX⟩; obtain ⟨AX, cX, lX, eX, _, _, _⟩ := hvX.opened; subst eX)
        | (go_at_call_of 102 (Value.slice A2 n2 c2); refine (own_rn _ (.slice A2 n2 c2) q.den ?_ ?_).mono ?_; exact R2.out.of_below (HT.bel (And.right ‹_ ∧ HT _ _ _ _ _ _›)); omega; rintro e w' ⟨v, rfl, hvY, hbY⟩; obtain ⟨AY, cY, lY, eY, _, _, _⟩ := hvY.opened; subst eY; obtain ⟨x3, y3, z3, hni3, hk3⟩ := (HT.step (And.right ‹_ ∧ HT _ _ _ _ _ _›) hbY).2.1; have e0 := hk3.cell (j := 0) rfl; have e1 := hk3.cell (j := 1) rfl; have e2 := hk3.cell (j := 2) rfl; have f0 := hk3.frozen 0; have f1 := hk3.frozen 1; have f2 := hk3.frozen 2; have hb7 := HT.bel (HT.step (And.right ‹_ ∧ HT _ _ _ _ _ _›) hbY)))
    go_wp2_with fail
    exact ret40 Try.results73 rfl (hk3.put3 _ _ _) ⟨_, rfl, ⟨_, _, by rw [HS1.out], (hvX.of_below hbY).put3 hk3 hni3 _ _ _, hvY.put3 hk3 hni3 _ _ _⟩, below_put3 hb7 (by omega) _ _ _⟩
  · have t1 : decide ((n1 : Int) + (n2 : Int) > 4096) = true := decide_eq_true (by omega)
    have hcap : capQ q = 0 := by unfold capQ; rw [if_neg hbig]
    rw [hcap]
    clear hnn hbig hcap
    go_wp2_with fail
    have k := (Blk.new (w.alloc (.cells #[.slice A1 n1 c1, .slice A2 n2 c2, .bool s1] 85)) 40 #[.bool false, .slice none 0 0, .slice (some ⟨w.heap.size + 1 + 1, 0, none⟩) 1 1]).alloc (.cells #[.int .u32 1] 103)
    have ho := rn_one ((w.alloc (.cells #[.slice A1 n1 c1, .slice A2 n2 c2, .bool s1] 85)).alloc (.cells #[.bool false, .slice none 0 0, .slice (some ⟨w.heap.size + 1 + 1, 0, none⟩) 1 1] 40)) 103
    rw [size_alloc] at k
    rw [size_alloc, size_alloc] at ho
    exact ret40 Try.results73 rfl k ⟨_, rfl, fq_zero ho, below_step (below_step (below_new w _) (Nat.le_refl _) _) (Nat.le_refl _) _⟩
end Go.Proofs.Ytfhambfgjigneaa
set_option linter.unusedVariables false
set_option linter.unusedSimpArgs false
namespace Go.Proofs.Ytfhambfgjigneaa
open Go.RowKit
/-- A fraction of the interface as it comes: its sign, words, those below the line. -/
structure RawF where
  neg : Bool
  num : List Nat
  den : List Nat
def FR (w : World) (v : Value) (f : RawF) : Prop := (f.num.length ≤ 1000000000 ∧ f.den.length ≤ 1000000000) ∧ ∃ v1 v2, v = .agg #[.bool f.neg, v1, v2] ∧ Rd w v1 f.num ∧ Rd w v2 f.den
def rawQ (q : Rat) : RawF := ⟨negQ q, dg q.num.natAbs, dg q.den⟩
def RightF (f : RawF) : Prop := ∃ q, sizeQ q ≤ 4096 ∧ f = rawQ q
theorem rawQ_inj {p q : Rat} (h : rawQ p = rawQ q) : p = q := by
  unfold rawQ at h
  injection h with h1 h2 h3
  rw [← mk_self p, ← mk_self q, h1, dg_inj h2, dg_inj h3]
open Classical in
noncomputable def fixQ (f : RawF) : Rat := if h : RightF f then h.choose else 0
theorem fixQ_raw (q : Rat) (h : sizeQ q ≤ 4096) : fixQ (rawQ q) = q := by
  have hr : RightF (rawQ q) := ⟨q, h, rfl⟩
  unfold fixQ
  rw [dif_pos hr]
  exact (rawQ_inj hr.choose_spec.2).symm
theorem fixQ_wrong {f : RawF} (h : ¬ RightF f) : fixQ f = 0 := by unfold fixQ; rw [dif_neg h]
theorem sizeQ_zero : sizeQ 0 = 1 := by unfold sizeQ; decide +kernel
theorem sizeQ_fix (f : RawF) : sizeQ (fixQ f) ≤ 4096 := by
  unfold fixQ
  split
  · rename_i h; exact h.choose_spec.1
  · rw [sizeQ_zero]; decide
theorem right_raw {f : RawF} (h : RightF f) : f = rawQ (fixQ f) := by
  unfold fixQ
  rw [dif_pos h]
  exact h.choose_spec.2
theorem FR.of_fq {w : World} {v : Value} {q : Rat} (h : FQ w v q) (hs : sizeQ q ≤ 4096) : FR w v (rawQ q) := ⟨by unfold sizeQ wlen at hs; unfold rawQ; simp only; omega, h⟩
theorem FR.of_below {w w1 : World} {v : Value} {f : RawF} (h : FR w v f) (hb : Below w.heap.size w w1) : FR w1 v f := by
  obtain ⟨hl, v1, v2, e, h1, h2⟩ := h
  exact ⟨hl, v1, v2, e, h1.below hb, h2.below hb⟩
theorem FR.opened {w : World} {v : Value} {f : RawF} (h : FR w v f) : ∃ A1 n1 c1 A2 n2 c2, v = .agg #[.bool f.neg, .slice A1 n1 c1, .slice A2 n2 c2] ∧ Hid (FR w (.agg #[.bool f.neg, .slice A1 n1 c1, .slice A2 n2 c2]) f) := by
  have h0 := h
  obtain ⟨hl, v1, v2, rfl, h1, h2⟩ := h
  obtain ⟨A1, c1, rfl, _⟩ := h1.slice
  obtain ⟨A2, c2, rfl, _⟩ := h2.slice
  exact ⟨A1, _, c1, A2, _, c2, rfl, h0⟩
theorem FQ.opened {w : World} {v : Value} {q : Rat} (h : FQ w v q) : ∃ A1 n1 c1 A2 n2 c2, v = .agg #[.bool (negQ q), .slice A1 n1 c1, .slice A2 n2 c2] ∧ Hid (FQ w (.agg #[.bool (negQ q), .slice A1 n1 c1, .slice A2 n2 c2]) q) := by
  have h0 := h
  obtain ⟨v1, v2, rfl, h1, h2⟩ := h
  obtain ⟨A1, c1, rfl, _⟩ := Rd.slice h1
  obtain ⟨A2, c2, rfl, _⟩ := Rd.slice h2
  exact ⟨A1, _, c1, A2, _, c2, rfl, h0⟩
theorem den_words {q : Rat} : dg q.den ≠ [] := fun h => q.den_nz (dg_nil.1 h)
theorem rightF_den {f : RawF} (h : RightF f) : f.den ≠ [] ∧ f.num.length + f.den.length ≤ 4096 ∧ nat f.den (f.den.length - 1) ≠ 0 := by
  obtain ⟨q, hs, rfl⟩ := h
  exact ⟨den_words, hs, dg_top _ q.den_nz⟩
theorem rightF_zero {f : RawF} (h : RightF f) (h0 : f.num = []) : valN f.den = 1 ∧ f.neg = false := by
  obtain ⟨q, hs, rfl⟩ := h
  have hz : q.num = 0 := Int.natAbs_eq_zero.1 (dg_nil.1 h0)
  have hq : q = 0 := Rat.num_eq_zero.1 hz
  subst hq
  exact ⟨by show valN (dg _) = 1; rw [valN_dg]; rfl, rfl⟩
theorem rightF_num {f : RawF} (h : RightF f) (h0 : f.num ≠ []) : nat f.num (f.num.length - 1) ≠ 0 ∧ Nat.gcd (valN f.num) (valN f.den) = 1 := by
  obtain ⟨q, hs, rfl⟩ := h
  have hz : q.num.natAbs ≠ 0 := fun h => h0 (dg_nil.2 h)
  refine ⟨dg_top _ hz, ?_⟩
  show Nat.gcd (valN (dg _)) (valN (dg _)) = 1
  rw [valN_dg, valN_dg]
  exact q.reduced
theorem rightF_mk0 {f : RawF} (h1 : nat f.den (f.den.length - 1) ≠ 0) (h2 : f.num = []) (hd : Wd f.den) (h3 : valN f.den = 1) (h4 : f.neg = false) : RightF f := by
  obtain ⟨s, xs, ys⟩ := f
  simp only at h1 h2 hd h3 h4
  subst h2 h4
  refine ⟨0, by rw [sizeQ_zero]; decide, ?_⟩
  have := canon hd (.inr h1)
  rw [h3] at this
  subst this
  rfl
theorem rightF_mk {f : RawF} (hl : f.num.length + f.den.length ≤ 4096) (hd0 : f.den ≠ []) (h1 : nat f.den (f.den.length - 1) ≠ 0) (h2 : nat f.num (f.num.length - 1) ≠ 0) (hn : Wd f.num) (hd : Wd f.den) (hn0 : f.num ≠ []) (hg : Nat.gcd (valN f.num) (valN f.den) = 1) : RightF f := by
  obtain ⟨s, xs, ys⟩ := f
  simp only at *
  have e1 := canon hn (.inr h2)
  have e2 := canon hd (.inr h1)
  have m0 : valN xs ≠ 0 := fun h => hn0 (by rw [e1, h]; rfl)
  have n0 : valN ys ≠ 0 := fun h => hd0 (by rw [e2, h]; rfl)
  have hr : rawQ (mkRat (sg s (valN xs)) (valN ys)) = ⟨s, xs, ys⟩ := by
    unfold rawQ
    rw [mk_neg s _ _ n0 m0, mk_num s _ _ n0, mk_den s _ _ n0, hg, Nat.div_one, Nat.div_one, sg_natAbs, ← e1, ← e2]
  refine ⟨_, ?_, hr.symm⟩
  have h5 := hr
  unfold rawQ at h5
  injection h5 with h6 h7 h8
  unfold sizeQ wlen
  rw [h7, h8]
  exact hl
open Classical in
noncomputable def rightB (f : RawF) : Bool := decide (RightF f)
theorem rightB_true {f : RawF} (h : RightF f) : rightB f = true := by unfold rightB; simp [h]
theorem rightB_false {f : RawF} (h : ¬ RightF f) : rightB f = false := by unfold rightB; simp [h]
def BPost (w : World) (b : Bool) (e : Ending) (w' : World) : Prop := e = .returned (.bool b) ∧ Below w.heap.size w w'
def IPost (w : World) (n : Int) (e : Ending) (w' : World) : Prop := e = .returned (.int .i64 n) ∧ Below w.heap.size w w'
/-- The cells and marks of what was there, as they were. -/
theorem bcell {W w1 : World} (hb : Below W.heap.size W w1) : (∀ b o, b < W.heap.size → w1.cell? ⟨b, o, none⟩ = W.cell? ⟨b, o, none⟩) ∧ (∀ b o, b < W.heap.size → w1.frozen? ⟨b, o, none⟩ = W.frozen? ⟨b, o, none⟩) :=
  ⟨fun b o h => hb.cell (p := ⟨b, o, none⟩) h, fun b o h => hb.frozen (p := ⟨b, o, none⟩) h⟩
theorem eqb0 {n : Nat} (h : n = 0) : ((n : Int) == 0) = true := by subst h; rfl
theorem neb0 {n : Nat} (h : n ≠ 0) : ((n : Int) == 0) = false := by
  have : (n : Int) ≠ 0 := by omega
  simpa using this
theorem Rd.at_ {w : World} {A : Option Addr} {c : Nat} {xs : List Nat} (h : Rd w (.slice A xs.length c) xs) (hp : 0 < xs.length) : ∃ g o, A = some ⟨g, o, none⟩ ∧ g < w.heap.size ∧ w.cell? ⟨g, o + (xs.length - 1), none⟩ = some (.int .u32 (nat xs (xs.length - 1) : Nat)) :=
  h.cell (by omega)
theorem lt_maxLen {n : Nat} (h : n ≤ 1000000000000) : (n : Int) ≤ 1000000000000 := by omega
set_option maxHeartbeats 16000000 in
set_option maxRecDepth 100000 in
theorem right_calls (w : World) (v : Value) (f : RawF) (h : FR w v f) :
    Calls Try.prog 86 #[v] w fun e w' => BPost w (rightB f) e w' := by
  obtain ⟨⟨hl, hl2⟩, v1, v2, rfl, h1, h2⟩ := h
  obtain ⟨A1, c1, rfl, hc1⟩ := h1.slice
  obtain ⟨A2, c2, rfl, hc2⟩ := h2.slice
  obtain ⟨s, xs, ys⟩ := f
  simp only at *
  have R1 := Lib.hid h1
  have R2 := Lib.hid h2
  clear h1 h2
  go_enter Try.func86, Try.ntmps86
  go_wp2_with fail
  go_quiet (fail)
  have HB := Lib.hid (pw_drewN (below_new w (.cells #[.bool s, .slice A1 xs.length c1, .slice A2 ys.length c2] 40)) nq)
  by_cases d0 : ys.length = 0
  · have q0 := eqb0 d0
    have HR := Lib.hid (rightB_false (f := ⟨s, xs, ys⟩) fun h => (rightF_den h).1 (List.eq_nil_of_length_eq_zero d0))
    clear d0
    go_wp2_with fail
    go_ret
    exact ⟨by rw [HR.out]; rfl, pw_drewN (below_new w _) _⟩
  have q0 := neb0 d0
  have wl : IntKind.i64.wrap ((xs.length : Int) + (ys.length : Int)) = (xs.length : Int) + (ys.length : Int) := IntWalk.i64_in _ (by omega)
  by_cases d1 : 4096 < xs.length + ys.length
  · have q1 : decide ((xs.length : Int) + (ys.length : Int) > 4096) = true := decide_eq_true (by omega)
    have HR := Lib.hid (rightB_false (f := ⟨s, xs, ys⟩) fun h => by have h1 := (rightF_den h).2.1; simp only at h1; omega)
    clear d0 d1
    go_wp2_with fail
    go_ret
    exact ⟨by rw [HR.out]; rfl, pw_drewN (below_new w _) _⟩
  have q1 : decide ((xs.length : Int) + (ys.length : Int) > 4096) = false := decide_eq_false (by omega)
  obtain ⟨g2, o2, rfl, hg2, hcell2⟩ := R2.out.at_ (by omega)
  have n2 : ((ys.length : Int) - 1).toNat = ys.length - 1 := by omega
  have n3 : 0 ≤ (ys.length : Int) - 1 := by omega
  have n4 : (ys.length : Int) - 1 < (ys.length : Int) := by omega
  have nw : IntKind.i64.wrap ((ys.length : Int) - 1) = (ys.length : Int) - 1 := IntWalk.i64_in _ (by omega)
  have hcw := (bcell (pw_drewN (below_new w (.cells #[.bool s, .slice A1 xs.length c1, .slice (some ⟨g2, o2, none⟩) ys.length c2] 40)) nq)).1
  by_cases d2 : nat ys (ys.length - 1) = 0
  · rw [d2] at hcell2
    have hcell0 : w.cell? ⟨g2, o2 + (ys.length - 1), none⟩ = some (.int .u32 0) := hcell2
    have HR := Lib.hid (rightB_false (f := ⟨s, xs, ys⟩) fun h => (rightF_den h).2.2 d2)
    have hz0 : ((0 : Int) == 0) = true := rfl
    clear d0 d1 d2 hcell2
    go_wp2_with fail
    go_ret
    exact ⟨by rw [HR.out]; rfl, pw_drewN (below_new w _) _⟩
  have z2 : ((nat ys (ys.length - 1) : Int) == 0) = false := neb0 d2
  have HCN2 := Lib.hid (canon R2.out.wd (.inr d2))
  have HW1 := Lib.hid (pw_drewN (below_new w (.cells #[.bool s, .slice A1 xs.length c1, .slice (some ⟨g2, o2, none⟩) ys.length c2] 40)) nq)
  have RN2 : Hid (RN w (.slice (some ⟨g2, o2, none⟩) ys.length c2) (valN ys)) := by have := R2.out; unfold Hid RN; rw [← HCN2.out]; exact this
  by_cases x0 : xs.length = 0
  · have y0 := eqb0 x0
    have HX0 := Lib.hid (List.eq_nil_of_length_eq_zero x0)
    have HL0 := Lib.hid d0
    have HD2 := Lib.hid d2
    clear d0 d1 d2 x0
    go_wp2_with fail
    refine (one_calls _ _ _ (RN2.out.of_below HW1.out)).mono ?_
    rintro e w2 ⟨rfl, hb2⟩
    have HB2 := Lib.hid (HW1.out.trans (hb2.mono HW1.out.size))
    have hc2 := (bcell hb2).1
    clear hb2
    by_cases v1 : valN ys = 1
    · have u1 : decide (valN ys = 1) = true := decide_eq_true v1
      have HV1 := Lib.hid v1
      clear v1
      cases s with
      | true =>
        have HR := Lib.hid (rightB_false (f := ⟨true, xs, ys⟩) fun h => absurd (rightF_zero h HX0.out).2 (by simp))
        go_wp2_with fail
        go_ret
        exact ⟨by rw [HR.out]; rfl, HB2.out⟩
      | false =>
        have HR := Lib.hid (rightB_true (f := ⟨false, xs, ys⟩) (rightF_mk0 HD2.out HX0.out R2.out.wd HV1.out rfl))
        go_wp2_with fail
        go_ret
        exact ⟨by rw [HR.out]; rfl, HB2.out⟩
    · have u1 : decide (valN ys = 1) = false := decide_eq_false v1
      have HR := Lib.hid (rightB_false (f := ⟨s, xs, ys⟩) fun h => v1 (rightF_zero h HX0.out).1)
      clear v1
      go_wp2_with fail
      go_ret
      exact ⟨by rw [HR.out]; rfl, HB2.out⟩
  have y0 := neb0 x0
  obtain ⟨g1, o1, rfl, hg1, hcell1⟩ := R1.out.at_ (by omega)
  have m2 : ((xs.length : Int) - 1).toNat = xs.length - 1 := by omega
  have m3 : 0 ≤ (xs.length : Int) - 1 := by omega
  have m4 : (xs.length : Int) - 1 < (xs.length : Int) := by omega
  have mw : IntKind.i64.wrap ((xs.length : Int) - 1) = (xs.length : Int) - 1 := IntWalk.i64_in _ (by omega)
  have HX0 : Hid (xs ≠ []) := fun h => x0 (by rw [h]; rfl)
  have HY0 : Hid (ys ≠ []) := fun h => d0 (by rw [h]; rfl)
  have HLL : Hid (xs.length + ys.length ≤ 4096) := by unfold Hid; omega
  have HD2 := Lib.hid d2
  by_cases e2 : nat xs (xs.length - 1) = 0
  · rw [e2] at hcell1
    have hcell0 : w.cell? ⟨g1, o1 + (xs.length - 1), none⟩ = some (.int .u32 0) := hcell1
    have HR := Lib.hid (rightB_false (f := ⟨s, xs, ys⟩) fun h => (rightF_num h HX0.out).1 e2)
    have hz0 : ((0 : Int) != 0) = false := rfl
    clear d0 d1 d2 x0 e2 hcell1
    go_wp2_with fail
    go_ret
    exact ⟨by rw [HR.out]; rfl, pw_drewN (below_new w _) _⟩
  have z3 : ((nat xs (xs.length - 1) : Int) != 0) = true := by
    have : (nat xs (xs.length - 1) : Int) ≠ 0 := by omega
    simpa using this
  have HCN1 := Lib.hid (canon R1.out.wd (.inr e2))
  have RN1 : Hid (RN w (.slice (some ⟨g1, o1, none⟩) xs.length c1) (valN xs)) := by have := R1.out; unfold Hid RN; rw [← HCN1.out]; exact this
  have HE2 := Lib.hid e2
  have hlm : wlen (valN xs) ≤ 10000000000 := by unfold wlen; rw [← HCN1.out]; omega
  have hln : wlen (valN ys) ≤ 10000000000 := by unfold wlen; rw [← HCN2.out]; omega
  clear d0 d1 d2 x0 e2
  go_wp2_with fail
  refine (one_calls _ _ _ (RN2.out.of_below HW1.out)).mono ?_
  rintro e w2 ⟨rfl, hb2⟩
  have HB2 := Lib.hid (HW1.out.trans (hb2.mono HW1.out.size))
  have hc2 := (bcell hb2).1
  by_cases v1 : valN ys = 1
  · have u1 : decide (valN ys = 1) = true := decide_eq_true v1
    have HR := Lib.hid (rightB_true (f := ⟨s, xs, ys⟩) (rightF_mk HLL.out HY0.out HD2.out HE2.out R1.out.wd R2.out.wd HX0.out (by simp only; rw [v1, Nat.gcd_one_right])))
    clear v1
    go_wp2_with fail
    go_ret
    exact ⟨by rw [HR.out]; rfl, HB2.out⟩
  · have u1 : decide (valN ys = 1) = false := decide_eq_false v1
    clear v1
    go_wp2_with fail
    refine (gcd_calls _ _ _ _ _ (RN1.out.of_below HB2.out) (RN2.out.of_below HB2.out) hlm hln).mono ?_
    rintro e w3 ⟨v3, rfl, hv3, hb3⟩
    have HB3 := Lib.hid (HB2.out.trans (hb3.mono HB2.out.size))
    have HV3 := Lib.hid hv3
    obtain ⟨A3, c3, zs, rfl, _, _, _⟩ := hv3.opened
    clear hb3 hv3
    go_wp2_with fail
    refine (one_calls _ _ _ HV3.out).mono ?_
    rintro e w4 ⟨rfl, hb4⟩
    have HB4 := Lib.hid (HB3.out.trans (hb4.mono HB3.out.size))
    clear hb4
    by_cases g1 : Nat.gcd (valN xs) (valN ys) = 1
    · have u2 : decide (Nat.gcd (valN xs) (valN ys) = 1) = true := decide_eq_true g1
      have HR := Lib.hid (rightB_true (f := ⟨s, xs, ys⟩) (rightF_mk HLL.out HY0.out HD2.out HE2.out R1.out.wd R2.out.wd HX0.out g1))
      clear g1
      go_wp2_with fail
      go_ret
      exact ⟨by rw [HR.out]; rfl, HB4.out⟩
    · have u2 : decide (Nat.gcd (valN xs) (valN ys) = 1) = false := decide_eq_false g1
      have HR := Lib.hid (rightB_false (f := ⟨s, xs, ys⟩) fun h => g1 (rightF_num h HX0.out).2)
      clear g1
      go_wp2_with fail
      go_ret
      exact ⟨by rw [HR.out]; rfl, HB4.out⟩
end Go.Proofs.Ytfhambfgjigneaa
set_option linter.unusedVariables false
set_option linter.unusedSimpArgs false
namespace Go.Proofs.Ytfhambfgjigneaa
open Go.RowKit
theorem below_next {a b c : World} (h : Below a.heap.size a b) (h2 : Below b.heap.size b c) : Below a.heap.size a c := h.trans (h2.mono h.size)
/-- What stands while a function goes on: blocks of its own, as they are, and what was below. -/
def HS (w : World) (bs : List (Nat × Nat × Array Value)) (W : World) : Prop := (∀ b ∈ bs, Blk W b.1 b.2.1 b.2.2) ∧ Below w.heap.size w W
theorem HS.step {w W W' : World} {bs : List (Nat × Nat × Array Value)} (h : HS w bs W) (hb : Below W.heap.size W W') : HS w bs W' := ⟨fun b hm => (h.1 b hm).below hb (h.1 b hm).lt, below_next h.2 hb⟩
theorem HS.drew {w W : World} {bs : List (Nat × Nat × Array Value)} (h : HS w bs W) : HS w bs W.drew := h.step (Below.drew (Below.refl _ _))
theorem HS.drewN {w W : World} {bs : List (Nat × Nat × Array Value)} (h : HS w bs W) (n : Nat) : HS w bs (W.drewN n) := h.step (pw_drewN (Below.refl _ _) n)
theorem HS.nil (w : World) : HS w [] w := ⟨fun b hm => (by cases hm), Below.refl _ _⟩
theorem HS.new {w W : World} {bs : List (Nat × Nat × Array Value)} (h : HS w bs W) (cs : Array Value) (t : Nat) : HS w ((W.heap.size, t, cs) :: bs) (W.alloc (.cells cs t)) := by
  have h2 := h.step (below_new W (.cells cs t))
  refine ⟨fun b hm => ?_, h2.2⟩
  rcases List.mem_cons.1 hm with rfl | hm
  · exact Blk.new W t cs
  · exact h2.1 b hm
theorem HS.more {w W : World} {bs : List (Nat × Nat × Array Value)} (h : HS w bs W) (o : Obj) : HS w bs (W.alloc o) := h.step (below_new W o)
theorem HS.one {w : World} (cs : Array Value) (t : Nat) : HS w [(w.heap.size, t, cs)] (w.alloc (.cells cs t)) := (HS.nil w).new cs t
theorem HS.two {w : World} (cs cs2 : Array Value) (t t2 : Nat) : HS w [(w.heap.size + 1, t2, cs2), (w.heap.size, t, cs)] ((w.alloc (.cells cs t)).alloc (.cells cs2 t2)) := by
  have := ((HS.nil w).new cs t).new cs2 t2
  rwa [size_alloc] at this
theorem HS.three {w : World} (cs cs2 cs3 : Array Value) (t t2 t3 : Nat) : HS w [(w.heap.size + 1 + 1, t3, cs3), (w.heap.size + 1, t2, cs2), (w.heap.size, t, cs)] (((w.alloc (.cells cs t)).alloc (.cells cs2 t2)).alloc (.cells cs3 t3)) := by
  have := (((HS.nil w).new cs t).new cs2 t2).new cs3 t3
  rwa [size_alloc, size_alloc] at this
theorem HS.blk {w W : World} {bs : List (Nat × Nat × Array Value)} (h : HS w bs W) (i : Nat) {g t : Nat} {cs : Array Value} (hi : bs[i]? = some (g, t, cs)) : Blk W g t cs := h.1 (g, t, cs) (List.mem_of_getElem? hi)
theorem Blk.c3 {W : World} {g t : Nat} {a b c : Value} (h : Blk W g t #[a, b, c]) : W.cell? ⟨g, 0, none⟩ = some a ∧ W.cell? ⟨g, 1, none⟩ = some b ∧ W.cell? ⟨g, 2, none⟩ = some c := ⟨h.cell rfl, h.cell rfl, h.cell rfl⟩
theorem Blk.f3 {W : World} {g t : Nat} {cs : Array Value} (h : Blk W g t cs) : W.frozen? ⟨g, 0, none⟩ = false ∧ W.frozen? ⟨g, 1, none⟩ = false ∧ W.frozen? ⟨g, 2, none⟩ = false := ⟨h.frozen 0, h.frozen 1, h.frozen 2⟩
theorem HS.put3 {w W : World} {bs : List (Nat × Nat × Array Value)} {g t : Nat} {cs : Array Value} {a b c : Value} (h : HS w ((g, t, #[a, b, c]) :: bs) W) (hg : w.heap.size ≤ g) (hne : ∀ b ∈ bs, b.1 ≠ g) (x y z : Value) :
    HS w ((g, t, #[x, y, z]) :: bs) (((W.setCell ⟨g, 0, none⟩ x).setCell ⟨g, 1, none⟩ y).setCell ⟨g, 2, none⟩ z) := by
  refine ⟨fun b hm => ?_, below_put3 h.2 hg x y z⟩
  rcases List.mem_cons.1 hm with rfl | hm'
  · exact (h.blk 0 rfl).put3 x y z
  · exact (((h.1 b (List.mem_cons_of_mem _ hm')).other (a := ⟨g, 0, none⟩) (hne b hm') x).other (a := ⟨g, 1, none⟩) (hne b hm') y).other (a := ⟨g, 2, none⟩) (hne b hm') z
theorem RQ.put3 {w : World} {v : Value} {q : Rat} {g t : Nat} {a b c : Value} (h : RQ w v q) (hb : Blk w g t #[a, b, c]) (hni : ∀ x ∈ #[a, b, c], notInt x = true) (x y z : Value) : RQ (((w.setCell ⟨g, 0, none⟩ x).setCell ⟨g, 1, none⟩ y).setCell ⟨g, 2, none⟩ z) v q := by
  obtain ⟨v1, v2, e, h1, h2⟩ := h
  exact ⟨v1, v2, e, h1.put3 hb hni x y z, h2.put3 hb hni x y z⟩
theorem FQ.put3 {w : World} {v : Value} {q : Rat} {g t : Nat} {a b c : Value} (h : FQ w v q) (hb : Blk w g t #[a, b, c]) (hni : ∀ x ∈ #[a, b, c], notInt x = true) (x y z : Value) : FQ (((w.setCell ⟨g, 0, none⟩ x).setCell ⟨g, 1, none⟩ y).setCell ⟨g, 2, none⟩ z) v q := by
  obtain ⟨v1, v2, e, h1, h2⟩ := h
  exact ⟨v1, v2, e, h1.put3 hb hni x y z, h2.put3 hb hni x y z⟩
/-- A call's end: the result lies in a block of its own. -/
theorem end85 {fn : Func} {p : Tmp} {tmps : Array Value} {w W : World} {g : Nat} {x y z : Value} {q : Rat} (hres : fn.results = #[.cell p 85]) (hp : tmps.getD p undef = .pointer (some ⟨g, 0, none⟩)) (hb : Blk W g 85 #[.slice none 0 0, .slice none 0 0, .bool false])
    (hq : RQ W (.agg #[x, y, z]) q) (hg : w.heap.size ≤ g) (hbl : Below w.heap.size w W) : bodyPost Try.prog fn (fun e w' => QPost w q e w') Exit.ret { tmps := tmps, defers := [] } (((W.setCell ⟨g, 0, none⟩ x).setCell ⟨g, 1, none⟩ y).setCell ⟨g, 2, none⟩ z) :=
  ret85 hres hp (hb.put3 x y z) ⟨_, rfl, hq.put3 hb ni85 x y z, below_put3 hbl hg x y z⟩
theorem end40 {fn : Func} {p : Tmp} {tmps : Array Value} {w W : World} {g : Nat} {x y z : Value} {q : Rat} (hres : fn.results = #[.cell p 40]) (hp : tmps.getD p undef = .pointer (some ⟨g, 0, none⟩)) (hb : Blk W g 40 #[.bool false, .slice none 0 0, .slice none 0 0])
    (hq : FQ W (.agg #[x, y, z]) q) (hg : w.heap.size ≤ g) (hbl : Below w.heap.size w W) : bodyPost Try.prog fn (fun e w' => FPost w q e w') Exit.ret { tmps := tmps, defers := [] } (((W.setCell ⟨g, 0, none⟩ x).setCell ⟨g, 1, none⟩ y).setCell ⟨g, 2, none⟩ z) :=
  ret40 hres hp (hb.put3 x y z) ⟨_, rfl, hq.put3 hb ni40 x y z, below_put3 hbl hg x y z⟩
theorem RQ.opened' {w : World} {v : Value} {q : Rat} (h : RQ w v q) : ∃ A1 n1 c1 A2 n2 c2, v = .agg #[.slice A1 n1 c1, .slice A2 n2 c2, .bool (negQ q)] ∧ Hid (RQ w (.agg #[.slice A1 n1 c1, .slice A2 n2 c2, .bool (negQ q)]) q) := by
  have h0 := h
  obtain ⟨A1, n1, c1, A2, n2, c2, rfl, _⟩ := h.opened
  exact ⟨A1, n1, c1, A2, n2, c2, rfl, h0⟩
theorem rq_of_fr {w : World} {A1 A2 : Option Addr} {n1 c1 n2 c2 : Nat} {f : RawF} {s : Bool} (h : FR w (.agg #[.bool s, .slice A1 n1 c1, .slice A2 n2 c2]) f) (hr : RightF f) : RQ w (.agg #[.slice A1 n1 c1, .slice A2 n2 c2, .bool s]) (fixQ f) := by
  obtain ⟨hl, v1, v2, e, h1, h2⟩ := h
  injection e with e
  have e1 : Value.bool s = .bool f.neg ∧ Value.slice A1 n1 c1 = v1 ∧ Value.slice A2 n2 c2 = v2 := by simpa using e
  obtain ⟨e1, rfl, rfl⟩ := e1
  injection e1 with e1
  subst e1
  have e := right_raw hr
  refine ⟨.slice A1 n1 c1, .slice A2 n2 c2, ?_, ?_, ?_⟩
  · rw [show f.neg = negQ (fixQ f) by rw [show f.neg = (rawQ (fixQ f)).neg from congrArg RawF.neg e]; rfl]
  · have : f.num = dg (fixQ f).num.natAbs := congrArg RawF.num e
    rw [this] at h1; exact h1
  · have : f.den = dg (fixQ f).den := congrArg RawF.den e
    rw [this] at h2; exact h2
def FitQ (k : Nat) (q : Rat) : Prop := wlen q.num.natAbs ≤ k ∧ wlen q.den ≤ k
theorem fit_fix (f : RawF) : FitQ 4096 (fixQ f) := by have := sizeQ_fix f; unfold sizeQ at this; exact ⟨by omega, by omega⟩
theorem FitQ.size {k : Nat} {q : Rat} (h : FitQ k q) : sizeQ q ≤ 2 * k := by unfold sizeQ; have := h.1; have := h.2; omega
set_option maxHeartbeats 16000000 in
set_option maxRecDepth 100000 in
theorem taken_calls (w : World) (v : Value) (f : RawF) (h : FR w v f) : Calls Try.prog 69 #[v] w fun e w' => QPost w (fixQ f) e w' := by
  obtain ⟨A1, n1, c1, A2, n2, c2, rfl, H⟩ := h.opened
  clear h
  obtain ⟨s, hs⟩ : ∃ s, s = f.neg := ⟨_, rfl⟩
  rw [← hs] at H ⊢
  clear hs
  go_enter Try.func69, Try.ntmps69
  go_wp2_with fail
  have H0 := Lib.hid (HS.two (w := w) #[.bool s, .slice A1 n1 c1, .slice A2 n2 c2] #[.slice none 0 0, .slice none 0 0, .bool false] 40 85)
  generalize (w.alloc (.cells #[.bool s, .slice A1 n1 c1, .slice A2 n2 c2] 40)).alloc (.cells #[.slice none 0 0, .slice none 0 0, .bool false] 85) = W0 at *
  refine (right_calls _ _ f (H.out.of_below H0.out.2)).mono ?_
  rintro e w1 ⟨rfl, hb⟩
  have H1 := Lib.hid (H0.out.step hb)
  clear hb
  by_cases hr : RightF f
  · have t := rightB_true hr
    have HR := Lib.hid hr
    obtain ⟨d0, d1, d2⟩ := (H1.out.blk 1 rfl).c3
    obtain ⟨e0, e1, e2⟩ := (H1.out.blk 0 rfl).c3
    obtain ⟨f0, f1, f2⟩ := (H1.out.blk 0 rfl).f3
    clear hr
    go_wp2_with fail
    exact end85 Try.results69 rfl (H1.out.blk 0 rfl) (rq_of_fr (H.out.of_below H1.out.2) HR.out) (by omega) H1.out.2
  · have t := rightB_false hr
    have HQ := Lib.hid (fixQ_wrong hr)
    clear hr
    go_wp2_with fail
    refine (whole_calls w1 0 (by decide) (by decide)).mono ?_
    rintro e w2 ⟨v, rfl, hv, hb⟩
    obtain ⟨A5, n5, c5, A6, n6, c6, rfl, HV⟩ := hv.opened'
    have H2 := Lib.hid (H1.out.step hb)
    clear hb hv
    obtain ⟨e0, e1, e2⟩ := (H2.out.blk 0 rfl).c3
    obtain ⟨f0, f1, f2⟩ := (H2.out.blk 0 rfl).f3
    go_wp2_with fail
    exact end85 Try.results69 rfl (H2.out.blk 0 rfl) (by rw [HQ.out]; exact HV.out) (by omega) H2.out.2
end Go.Proofs.Ytfhambfgjigneaa
set_option linter.unusedVariables false
set_option linter.unusedSimpArgs false
namespace Go.Proofs.Ytfhambfgjigneaa
open Go.RowKit
theorem sg_self (p : Int) : sg (decide (p < 0)) p.natAbs = p := by
  unfold sg
  by_cases h : p < 0
  · rw [decide_eq_true h, if_pos rfl]; omega
  · rw [decide_eq_false h, if_neg (by decide)]; omega
theorem mk_num_le (p : Int) (n : Nat) : (mkRat p n).num.natAbs ≤ p.natAbs := by
  by_cases hn : n = 0
  · rw [hn, Rat.mkRat_zero]; exact Nat.zero_le _
  · rw [← sg_self p, mk_num _ _ _ hn, sg_natAbs, sg_natAbs]
    exact Nat.div_le_self _ _
theorem mk_den_le (p : Int) (n : Nat) (hn : n ≠ 0) : (mkRat p n).den ≤ n := by
  rw [← sg_self p, mk_den _ _ _ hn]
  exact Nat.div_le_self _ _
theorem fit_mk {k : Nat} {p : Int} {n : Nat} (hn : n ≠ 0) (h1 : wlen p.natAbs ≤ k) (h2 : wlen n ≤ k) : FitQ k (mkRat p n) :=
  ⟨Nat.le_trans (wlen_mono (mk_num_le p n)) h1, Nat.le_trans (wlen_mono (mk_den_le p n hn)) h2⟩
theorem wlen_add_le {a b m n : Nat} (h : wlen m ≤ a) (h2 : wlen n ≤ a) (hb : a + 1 ≤ b) : wlen (m + n) ≤ b := by have := wlen_add m n; omega
theorem fit_add {a b c : Nat} {p q : Rat} (h : FitQ a p) (h2 : FitQ b q) (hc : a + b + 1 ≤ c) : FitQ c (p + q) := by
  rw [Rat.add_def']
  refine fit_mk (Nat.mul_ne_zero p.den_nz q.den_nz) ?_ ?_
  · refine Nat.le_trans (wlen_mono (Int.natAbs_add_le _ _)) ?_
    rw [Int.natAbs_mul, Int.natAbs_mul, Int.natAbs_natCast, Int.natAbs_natCast]
    have m1 := wlen_mul p.num.natAbs q.den
    have m2 := wlen_mul q.num.natAbs p.den
    have := h.1; have := h.2; have := h2.1; have := h2.2
    exact wlen_add_le (a := a + b) (by omega) (by omega) hc
  · have m1 := wlen_mul p.den q.den
    have := h.2; have := h2.2
    omega
theorem fit_mul {a b c : Nat} {p q : Rat} (h : FitQ a p) (h2 : FitQ b q) (hc : a + b ≤ c) : FitQ c (p * q) := by
  rw [Rat.mul_def']
  refine fit_mk (Nat.mul_ne_zero p.den_nz q.den_nz) ?_ ?_
  · rw [Int.natAbs_mul]
    have m1 := wlen_mul p.num.natAbs q.num.natAbs
    have := h.1; have := h2.1
    omega
  · have m1 := wlen_mul p.den q.den
    have := h.2; have := h2.2
    omega
theorem fit_neg {a : Nat} {p : Rat} (h : FitQ a p) : FitQ a (-p) := by
  refine ⟨?_, ?_⟩
  · rw [Rat.neg_num, Int.natAbs_neg]; exact h.1
  · rw [Rat.neg_den]; exact h.2
theorem fit_sub {a b c : Nat} {p q : Rat} (h : FitQ a p) (h2 : FitQ b q) (hc : a + b + 1 ≤ c) : FitQ c (p - q) := by
  rw [Rat.sub_eq_add_neg]
  exact fit_add h (fit_neg h2) hc
theorem fit_mono {a b : Nat} {p : Rat} (h : FitQ a p) (hab : a ≤ b) : FitQ b p := ⟨Nat.le_trans h.1 hab, Nat.le_trans h.2 hab⟩
theorem fit_cap {a : Nat} {p : Rat} (h : FitQ a p) (ha : a ≤ 2048) : capQ p = p := by unfold capQ; rw [if_pos (by have := h.size; omega)]
theorem size_sum (f g : RawF) : sizeQ (fixQ f + fixQ g) ≤ 4000000000 := by
  have := (fit_add (fit_fix f) (fit_fix g) (Nat.le_refl _)).size
  omega
theorem size_prod (f g : RawF) : sizeQ (fixQ f * fixQ g) ≤ 4000000000 := by
  have := (fit_mul (fit_fix f) (fit_fix g) (Nat.le_refl _)).size
  omega
theorem size_neg (f : RawF) : sizeQ (-(fixQ f)) ≤ 4000000000 := by
  have := (fit_neg (fit_fix f)).size
  omega
theorem size_diff (f g : RawF) : sizeQ (fixQ f + -(fixQ g)) ≤ 4000000000 := by
  have := (fit_add (fit_fix f) (fit_neg (fit_fix g)) (Nat.le_refl _)).size
  omega
theorem capQ_fix (f : RawF) : capQ (fixQ f) = fixQ f := by unfold capQ; rw [if_pos (sizeQ_fix f)]
theorem capQ_size (q : Rat) : sizeQ (capQ q) ≤ 4096 := by
  unfold capQ
  split
  · assumption
  · rw [sizeQ_zero]; decide
theorem FPost.q {w : World} {q q' : Rat} {e : Ending} {w' : World} (h : FPost w q e w') (e' : q = q') : FPost w q' e w' := e' ▸ h
set_option maxHeartbeats 16000000 in
set_option maxRecDepth 100000 in
theorem fix_calls (w : World) (v : Value) (f : RawF) (h : FR w v f) : Calls Try.prog 84 #[v] w fun e w' => FPost w (fixQ f) e w' := by
  obtain ⟨A1, n1, c1, A2, n2, c2, rfl, H⟩ := h.opened
  clear h
  go_enter Try.func84, Try.ntmps84
  go_wp2_with fail
  have H0 := Lib.hid (HS.two (w := w) #[.bool f.neg, .slice A1 n1 c1, .slice A2 n2 c2] #[.bool false, .slice none 0 0, .slice none 0 0] 40 40)
  generalize (w.alloc (.cells #[.bool f.neg, .slice A1 n1 c1, .slice A2 n2 c2] 40)).alloc (.cells #[.bool false, .slice none 0 0, .slice none 0 0] 40) = W0 at *
  refine (taken_calls _ _ f (H.out.of_below H0.out.2)).mono ?_
  rintro e w1 ⟨v, rfl, hv, hb⟩
  obtain ⟨A5, n5, c5, A6, n6, c6, rfl, HV⟩ := hv.opened'
  have H1 := Lib.hid (H0.out.step hb)
  clear hb hv
  go_wp2_with fail
  refine (told_calls _ _ _ HV.out (by have := sizeQ_fix f; omega)).mono ?_
  rintro e w2 ⟨v, rfl, hv, hb⟩
  rw [capQ_fix] at hv
  obtain ⟨A5, n5, c5, A6, n6, c6, rfl, HV⟩ := hv.opened
  have H2 := Lib.hid (H1.out.step hb)
  clear hb hv
  obtain ⟨e0, e1, e2⟩ := (H2.out.blk 0 rfl).c3
  obtain ⟨f0, f1, f2⟩ := (H2.out.blk 0 rfl).f3
  go_wp2_with fail
  exact end40 Try.results84 rfl (H2.out.blk 0 rfl) HV.out (by omega) H2.out.2
set_option maxHeartbeats 16000000 in
set_option maxRecDepth 100000 in
theorem sgn_calls (w : World) (v : Value) (f : RawF) (h : FR w v f) : Calls Try.prog 32 #[v] w fun e w' => IPost w (signQ (fixQ f)) e w' := by
  obtain ⟨A1, n1, c1, A2, n2, c2, rfl, H⟩ := h.opened
  clear h
  go_enter Try.func32, Try.ntmps32
  go_wp2_with fail
  have H0 := Lib.hid (HS.one (w := w) #[.bool f.neg, .slice A1 n1 c1, .slice A2 n2 c2] 40)
  generalize w.alloc (.cells #[.bool f.neg, .slice A1 n1 c1, .slice A2 n2 c2] 40) = W0 at *
  refine (taken_calls _ _ f (H.out.of_below H0.out.2)).mono ?_
  rintro e w1 ⟨v, rfl, hv, hb⟩
  obtain ⟨A5, n5, c5, A6, n6, c6, rfl, HV⟩ := hv.opened'
  have H1 := Lib.hid (H0.out.step hb)
  clear hb hv
  go_wp2_with fail
  refine (sign_calls _ _ _ HV.out).mono ?_
  rintro e w2 ⟨rfl, hb⟩
  have H2 := Lib.hid (H1.out.step hb)
  clear hb
  go_wp2_with fail
  go_ret
  exact ⟨rfl, H2.out.2⟩
/-- .. and the block of the result, whatever lies in it. -/
def HR (w : World) (bs : List (Nat × Nat × Array Value)) (g t : Nat) (W : World) : Prop := HS w bs W ∧ ∃ x y z, (∀ u ∈ #[x, y, z], notInt u = true) ∧ Blk W g t #[x, y, z]
theorem HR.step {w W W' : World} {bs : List (Nat × Nat × Array Value)} {g t : Nat} (h : HR w bs g t W) (hb : Below W.heap.size W W') : HR w bs g t W' := by
  obtain ⟨h1, x, y, z, hn, hk⟩ := h
  exact ⟨h1.step hb, x, y, z, hn, hk.below hb hk.lt⟩
theorem HR.drew {w W : World} {bs : List (Nat × Nat × Array Value)} {g t : Nat} (h : HR w bs g t W) : HR w bs g t W.drew := h.step (Below.drew (Below.refl _ _))
theorem HR.put {w W : World} {bs : List (Nat × Nat × Array Value)} {g t : Nat} (h : HR w bs g t W) (hg : w.heap.size ≤ g) (hne : ∀ b ∈ bs, b.1 ≠ g) (x y z : Value) (hn : ∀ u ∈ #[x, y, z], notInt u = true) :
    HR w bs g t (((W.setCell ⟨g, 0, none⟩ x).setCell ⟨g, 1, none⟩ y).setCell ⟨g, 2, none⟩ z) := by
  obtain ⟨h1, a, b, c, _, hk⟩ := h
  refine ⟨⟨fun b hm => ?_, below_put3 h1.2 hg x y z⟩, x, y, z, hn, hk.put3 x y z⟩
  exact (((h1.1 b hm).other (a := ⟨g, 0, none⟩) (hne b hm) x).other (a := ⟨g, 1, none⟩) (hne b hm) y).other (a := ⟨g, 2, none⟩) (hne b hm) z
theorem HR.of {w W : World} {bs : List (Nat × Nat × Array Value)} {g t : Nat} {x y z : Value} (h : HS w ((g, t, #[x, y, z]) :: bs) W) (hn : ∀ u ∈ #[x, y, z], notInt u = true) : HR w bs g t W :=
  ⟨⟨fun b hm => h.1 b (List.mem_cons_of_mem _ hm), h.2⟩, x, y, z, hn, h.blk 0 rfl⟩
theorem HR.at_ {w W : World} {bs : List (Nat × Nat × Array Value)} {g t : Nat} (h : HR w bs g t W) : ∃ x y z, (∀ u ∈ #[x, y, z], notInt u = true) ∧ Blk W g t #[x, y, z] := h.2
theorem HR.c2 {w W : World} {g t : Nat} {x y z x' y' z' : Value} {g1 g2 t1 t2 : Nat} (h : HR w [(g2, t2, #[x', y', z']), (g1, t1, #[x, y, z])] g t W) :
    W.cell? ⟨g1, 0, none⟩ = some x ∧ W.cell? ⟨g1, 1, none⟩ = some y ∧ W.cell? ⟨g1, 2, none⟩ = some z ∧ W.cell? ⟨g2, 0, none⟩ = some x' ∧ W.cell? ⟨g2, 1, none⟩ = some y' ∧ W.cell? ⟨g2, 2, none⟩ = some z' :=
  ⟨(h.1.blk 1 rfl).cell rfl, (h.1.blk 1 rfl).cell rfl, (h.1.blk 1 rfl).cell rfl, (h.1.blk 0 rfl).cell rfl, (h.1.blk 0 rfl).cell rfl, (h.1.blk 0 rfl).cell rfl⟩
theorem end40r {fn : Func} {p : Tmp} {tmps : Array Value} {w W : World} {g : Nat} {x y z a b c : Value} {q : Rat} (hres : fn.results = #[.cell p 40]) (hp : tmps.getD p undef = .pointer (some ⟨g, 0, none⟩)) (hb : Blk W g 40 #[a, b, c]) (hn : ∀ u ∈ #[a, b, c], notInt u = true)
    (hq : FQ W (.agg #[x, y, z]) q) (hg : w.heap.size ≤ g) (hbl : Below w.heap.size w W) : bodyPost Try.prog fn (fun e w' => FPost w q e w') Exit.ret { tmps := tmps, defers := [] } (((W.setCell ⟨g, 0, none⟩ x).setCell ⟨g, 1, none⟩ y).setCell ⟨g, 2, none⟩ z) :=
  ret40 hres hp (hb.put3 x y z) ⟨_, rfl, hq.put3 hb hn x y z, below_put3 hbl hg x y z⟩
theorem end85r {fn : Func} {p : Tmp} {tmps : Array Value} {w W : World} {g : Nat} {x y z a b c : Value} {q : Rat} (hres : fn.results = #[.cell p 85]) (hp : tmps.getD p undef = .pointer (some ⟨g, 0, none⟩)) (hb : Blk W g 85 #[a, b, c]) (hn : ∀ u ∈ #[a, b, c], notInt u = true)
    (hq : RQ W (.agg #[x, y, z]) q) (hg : w.heap.size ≤ g) (hbl : Below w.heap.size w W) : bodyPost Try.prog fn (fun e w' => QPost w q e w') Exit.ret { tmps := tmps, defers := [] } (((W.setCell ⟨g, 0, none⟩ x).setCell ⟨g, 1, none⟩ y).setCell ⟨g, 2, none⟩ z) :=
  ret85 hres hp (hb.put3 x y z) ⟨_, rfl, hq.put3 hb hn x y z, below_put3 hbl hg x y z⟩
set_option maxHeartbeats 16000000 in
set_option maxRecDepth 100000 in
theorem fadd_calls (w : World) (v v2 : Value) (f g : RawF) (h : FR w v f) (h2 : FR w v2 g) : Calls Try.prog 33 #[v, v2] w fun e w' => FPost w (capQ (fixQ f + fixQ g)) e w' := by
  obtain ⟨A1, n1, c1, A2, n2, c2, rfl, H⟩ := h.opened
  obtain ⟨A3, n3, c3, A4, n4, c4, rfl, G⟩ := h2.opened
  clear h h2
  go_enter Try.func33, Try.ntmps33
  go_wp2_with fail
  have H0 : HR w [(w.heap.size + 1, 40, #[.bool g.neg, .slice A3 n3 c3, .slice A4 n4 c4]), (w.heap.size, 40, #[.bool f.neg, .slice A1 n1 c1, .slice A2 n2 c2])] (w.heap.size + 1 + 1) 40 _ := HR.of (HS.three (w := w) #[.bool f.neg, .slice A1 n1 c1, .slice A2 n2 c2] #[.bool g.neg, .slice A3 n3 c3, .slice A4 n4 c4] #[.bool false, .slice none 0 0, .slice none 0 0] 40 40 40) ni40
  generalize ((w.alloc (.cells #[.bool f.neg, .slice A1 n1 c1, .slice A2 n2 c2] 40)).alloc (.cells #[.bool g.neg, .slice A3 n3 c3, .slice A4 n4 c4] 40)).alloc (.cells #[.bool false, .slice none 0 0, .slice none 0 0] 40) = W0 at *
  have hne : ∀ b ∈ ([(w.heap.size + 1, 40, #[.bool g.neg, .slice A3 n3 c3, .slice A4 n4 c4]), (w.heap.size, 40, #[.bool f.neg, .slice A1 n1 c1, .slice A2 n2 c2])] : List (Nat × Nat × Array Value)), b.1 ≠ w.heap.size + 1 + 1 := by simp; omega
  have HNE := Lib.hid hne
  clear hne
  go_region_held3 (fun W => (W.cell? ⟨w.heap.size, 0, none⟩ = some (.bool f.neg) ∧ W.cell? ⟨w.heap.size, 1, none⟩ = some (.slice A1 n1 c1) ∧ W.cell? ⟨w.heap.size, 2, none⟩ = some (.slice A2 n2 c2) ∧
      W.cell? ⟨w.heap.size + 1, 0, none⟩ = some (.bool g.neg) ∧ W.cell? ⟨w.heap.size + 1, 1, none⟩ = some (.slice A3 n3 c3) ∧ W.cell? ⟨w.heap.size + 1, 2, none⟩ = some (.slice A4 n4 c4)) ∧ HR w [(w.heap.size + 1, 40, #[.bool g.neg, .slice A3 n3 c3, .slice A4 n4 c4]), (w.heap.size, 40, #[.bool f.neg, .slice A1 n1 c1, .slice A2 n2 c2])] (w.heap.size + 1 + 1) 40 W)
    (first
      | exact ⟨HR.c2 H0.drew, H0.drew⟩
      | (have hk9 := HR.step (And.right ‹_ ∧ HR _ _ _ _ _›) ‹_›; exact ⟨HR.c2 hk9, hk9⟩)
      | (have hk9 := (And.right ‹_ ∧ HR _ _ _ _ _›); exact ⟨HR.c2 (HR.put hk9 (by omega) HNE.out _ _ _ (by simp [notInt])), HR.put hk9 (by omega) HNE.out _ _ _ (by simp [notInt])⟩))
    (first
      | (go_at_call_of 69 (Value.agg #[.bool f.neg, .slice A1 n1 c1, .slice A2 n2 c2]); refine (taken_calls _ _ f (H.out.of_below (And.right ‹_ ∧ HR _ _ _ _ _›).1.2)).mono ?_; rintro e w' ⟨v, rfl, hv, hb⟩; obtain ⟨A5, n5, c5, A6, n6, c6, rfl, HV⟩ := hv.opened'; clear hv)
      | (go_at_call_of 69 (Value.agg #[.bool g.neg, .slice A3 n3 c3, .slice A4 n4 c4]); refine (taken_calls _ _ g (G.out.of_below (And.right ‹_ ∧ HR _ _ _ _ _›).1.2)).mono ?_; rintro e w' ⟨v, rfl, hv2, hb2⟩; obtain ⟨A7, n7, c7, A8, n8, c8, rfl, HV2⟩ := hv2.opened'; have HV1 := Lib.hid (HV.out.of_below hb2); clear hv2)
      | (go_at_call 72; refine (plus_calls _ _ _ _ _ HV1.out HV2.out (by have := sizeQ_fix f; omega) (by have := sizeQ_fix g; omega)).mono ?_; rintro e w' ⟨v, rfl, hv3, hb3⟩; obtain ⟨A9, n9, c9, A10, n10, c10, rfl, HV3⟩ := hv3.opened'; clear hv3)
      | (go_at_call 73; refine (told_calls _ _ _ HV3.out (size_sum f g)).mono ?_; rintro e w' ⟨v, rfl, hv4, hb4⟩; obtain ⟨A11, n11, c11, A12, n12, c12, rfl, HV4⟩ := hv4.opened; obtain ⟨x3, y3, z3, hni3, hk3⟩ := HR.at_ (HR.step (And.right ‹_ ∧ HR _ _ _ _ _›) hb4); have e0 := hk3.cell (j := 0) rfl; have e1 := hk3.cell (j := 1) rfl; have e2 := hk3.cell (j := 2) rfl; have f0 := hk3.frozen 0; have f1 := hk3.frozen 1; have f2 := hk3.frozen 2; have hb7 := (HR.step (And.right ‹_ ∧ HR _ _ _ _ _›) hb4).1.2; clear hv4))
  go_wp2_with fail
  exact end40r Try.results33 rfl hk3 hni3 HV4.out (by omega) hb7
set_option maxHeartbeats 16000000 in
set_option maxRecDepth 100000 in
theorem fmul_calls (w : World) (v v2 : Value) (f g : RawF) (h : FR w v f) (h2 : FR w v2 g) : Calls Try.prog 34 #[v, v2] w fun e w' => FPost w (capQ (fixQ f * fixQ g)) e w' := by
  obtain ⟨A1, n1, c1, A2, n2, c2, rfl, H⟩ := h.opened
  obtain ⟨A3, n3, c3, A4, n4, c4, rfl, G⟩ := h2.opened
  clear h h2
  go_enter Try.func34, Try.ntmps34
  go_wp2_with fail
  have H0 : HR w [(w.heap.size + 1, 40, #[.bool g.neg, .slice A3 n3 c3, .slice A4 n4 c4]), (w.heap.size, 40, #[.bool f.neg, .slice A1 n1 c1, .slice A2 n2 c2])] (w.heap.size + 1 + 1) 40 _ := HR.of (HS.three (w := w) #[.bool f.neg, .slice A1 n1 c1, .slice A2 n2 c2] #[.bool g.neg, .slice A3 n3 c3, .slice A4 n4 c4] #[.bool false, .slice none 0 0, .slice none 0 0] 40 40 40) ni40
  generalize ((w.alloc (.cells #[.bool f.neg, .slice A1 n1 c1, .slice A2 n2 c2] 40)).alloc (.cells #[.bool g.neg, .slice A3 n3 c3, .slice A4 n4 c4] 40)).alloc (.cells #[.bool false, .slice none 0 0, .slice none 0 0] 40) = W0 at *
  have hne : ∀ b ∈ ([(w.heap.size + 1, 40, #[.bool g.neg, .slice A3 n3 c3, .slice A4 n4 c4]), (w.heap.size, 40, #[.bool f.neg, .slice A1 n1 c1, .slice A2 n2 c2])] : List (Nat × Nat × Array Value)), b.1 ≠ w.heap.size + 1 + 1 := by simp; omega
  have HNE := Lib.hid hne
  clear hne
  go_region_held3 (fun W => (W.cell? ⟨w.heap.size, 0, none⟩ = some (.bool f.neg) ∧ W.cell? ⟨w.heap.size, 1, none⟩ = some (.slice A1 n1 c1) ∧ W.cell? ⟨w.heap.size, 2, none⟩ = some (.slice A2 n2 c2) ∧
      W.cell? ⟨w.heap.size + 1, 0, none⟩ = some (.bool g.neg) ∧ W.cell? ⟨w.heap.size + 1, 1, none⟩ = some (.slice A3 n3 c3) ∧ W.cell? ⟨w.heap.size + 1, 2, none⟩ = some (.slice A4 n4 c4)) ∧ HR w [(w.heap.size + 1, 40, #[.bool g.neg, .slice A3 n3 c3, .slice A4 n4 c4]), (w.heap.size, 40, #[.bool f.neg, .slice A1 n1 c1, .slice A2 n2 c2])] (w.heap.size + 1 + 1) 40 W)
    (first
      | exact ⟨HR.c2 H0.drew, H0.drew⟩
      | (have hk9 := HR.step (And.right ‹_ ∧ HR _ _ _ _ _›) ‹_›; exact ⟨HR.c2 hk9, hk9⟩)
      | (have hk9 := (And.right ‹_ ∧ HR _ _ _ _ _›); exact ⟨HR.c2 (HR.put hk9 (by omega) HNE.out _ _ _ (by simp [notInt])), HR.put hk9 (by omega) HNE.out _ _ _ (by simp [notInt])⟩))
    (first
      | (go_at_call_of 69 (Value.agg #[.bool f.neg, .slice A1 n1 c1, .slice A2 n2 c2]); refine (taken_calls _ _ f (H.out.of_below (And.right ‹_ ∧ HR _ _ _ _ _›).1.2)).mono ?_; rintro e w' ⟨v, rfl, hv, hb⟩; obtain ⟨A5, n5, c5, A6, n6, c6, rfl, HV⟩ := hv.opened'; clear hv)
      | (go_at_call_of 69 (Value.agg #[.bool g.neg, .slice A3 n3 c3, .slice A4 n4 c4]); refine (taken_calls _ _ g (G.out.of_below (And.right ‹_ ∧ HR _ _ _ _ _›).1.2)).mono ?_; rintro e w' ⟨v, rfl, hv2, hb2⟩; obtain ⟨A7, n7, c7, A8, n8, c8, rfl, HV2⟩ := hv2.opened'; have HV1 := Lib.hid (HV.out.of_below hb2); clear hv2)
      | (go_at_call 74; refine (times_calls _ _ _ _ _ HV1.out HV2.out (by have := sizeQ_fix f; omega) (by have := sizeQ_fix g; omega)).mono ?_; rintro e w' ⟨v, rfl, hv3, hb3⟩; obtain ⟨A9, n9, c9, A10, n10, c10, rfl, HV3⟩ := hv3.opened'; clear hv3)
      | (go_at_call 73; refine (told_calls _ _ _ HV3.out (size_prod f g)).mono ?_; rintro e w' ⟨v, rfl, hv4, hb4⟩; obtain ⟨A11, n11, c11, A12, n12, c12, rfl, HV4⟩ := hv4.opened; obtain ⟨x3, y3, z3, hni3, hk3⟩ := HR.at_ (HR.step (And.right ‹_ ∧ HR _ _ _ _ _›) hb4); have e0 := hk3.cell (j := 0) rfl; have e1 := hk3.cell (j := 1) rfl; have e2 := hk3.cell (j := 2) rfl; have f0 := hk3.frozen 0; have f1 := hk3.frozen 1; have f2 := hk3.frozen 2; have hb7 := (HR.step (And.right ‹_ ∧ HR _ _ _ _ _›) hb4).1.2; clear hv4))
  go_wp2_with fail
  exact end40r Try.results34 rfl hk3 hni3 HV4.out (by omega) hb7
set_option maxHeartbeats 16000000 in
set_option maxRecDepth 100000 in
theorem fsub_calls (w : World) (v v2 : Value) (f g : RawF) (h : FR w v f) (h2 : FR w v2 g) : Calls Try.prog 35 #[v, v2] w fun e w' => FPost w (capQ (fixQ f + -(fixQ g))) e w' := by
  obtain ⟨A1, n1, c1, A2, n2, c2, rfl, H⟩ := h.opened
  obtain ⟨A3, n3, c3, A4, n4, c4, rfl, G⟩ := h2.opened
  clear h h2
  go_enter Try.func35, Try.ntmps35
  go_wp2_with fail
  have H0 : HR w [(w.heap.size + 1, 40, #[.bool g.neg, .slice A3 n3 c3, .slice A4 n4 c4]), (w.heap.size, 40, #[.bool f.neg, .slice A1 n1 c1, .slice A2 n2 c2])] (w.heap.size + 1 + 1) 40 _ := HR.of (HS.three (w := w) #[.bool f.neg, .slice A1 n1 c1, .slice A2 n2 c2] #[.bool g.neg, .slice A3 n3 c3, .slice A4 n4 c4] #[.bool false, .slice none 0 0, .slice none 0 0] 40 40 40) ni40
  generalize ((w.alloc (.cells #[.bool f.neg, .slice A1 n1 c1, .slice A2 n2 c2] 40)).alloc (.cells #[.bool g.neg, .slice A3 n3 c3, .slice A4 n4 c4] 40)).alloc (.cells #[.bool false, .slice none 0 0, .slice none 0 0] 40) = W0 at *
  have hne : ∀ b ∈ ([(w.heap.size + 1, 40, #[.bool g.neg, .slice A3 n3 c3, .slice A4 n4 c4]), (w.heap.size, 40, #[.bool f.neg, .slice A1 n1 c1, .slice A2 n2 c2])] : List (Nat × Nat × Array Value)), b.1 ≠ w.heap.size + 1 + 1 := by simp; omega
  have HNE := Lib.hid hne
  clear hne
  go_region_held3 (fun W => (W.cell? ⟨w.heap.size, 0, none⟩ = some (.bool f.neg) ∧ W.cell? ⟨w.heap.size, 1, none⟩ = some (.slice A1 n1 c1) ∧ W.cell? ⟨w.heap.size, 2, none⟩ = some (.slice A2 n2 c2) ∧
      W.cell? ⟨w.heap.size + 1, 0, none⟩ = some (.bool g.neg) ∧ W.cell? ⟨w.heap.size + 1, 1, none⟩ = some (.slice A3 n3 c3) ∧ W.cell? ⟨w.heap.size + 1, 2, none⟩ = some (.slice A4 n4 c4)) ∧ HR w [(w.heap.size + 1, 40, #[.bool g.neg, .slice A3 n3 c3, .slice A4 n4 c4]), (w.heap.size, 40, #[.bool f.neg, .slice A1 n1 c1, .slice A2 n2 c2])] (w.heap.size + 1 + 1) 40 W)
    (first
      | exact ⟨HR.c2 H0.drew, H0.drew⟩
      | (have hk9 := HR.step (And.right ‹_ ∧ HR _ _ _ _ _›) ‹_›; exact ⟨HR.c2 hk9, hk9⟩)
      | (have hk9 := (And.right ‹_ ∧ HR _ _ _ _ _›); exact ⟨HR.c2 (HR.put hk9 (by omega) HNE.out _ _ _ (by simp [notInt])), HR.put hk9 (by omega) HNE.out _ _ _ (by simp [notInt])⟩))
    (first
      | (go_at_call_of 69 (Value.agg #[.bool f.neg, .slice A1 n1 c1, .slice A2 n2 c2]); refine (taken_calls _ _ f (H.out.of_below (And.right ‹_ ∧ HR _ _ _ _ _›).1.2)).mono ?_; rintro e w' ⟨v, rfl, hv, hb⟩; obtain ⟨A5, n5, c5, A6, n6, c6, rfl, HV⟩ := hv.opened'; clear hv)
      | (go_at_call_of 69 (Value.agg #[.bool g.neg, .slice A3 n3 c3, .slice A4 n4 c4]); refine (taken_calls _ _ g (G.out.of_below (And.right ‹_ ∧ HR _ _ _ _ _›).1.2)).mono ?_; rintro e w' ⟨v, rfl, hv2, hb2⟩; obtain ⟨A7, n7, c7, A8, n8, c8, rfl, HV2⟩ := hv2.opened'; have HV1 := Lib.hid (HV.out.of_below hb2); clear hv2)
      | (go_at_call 75; refine (minus_calls _ _ _ HV2.out).mono ?_; rintro e w' ⟨v, rfl, hv5, hb5⟩; obtain ⟨A13, n13, c13, A14, n14, c14, rfl, HV5⟩ := hv5.opened'; have HV6 := Lib.hid (HV1.out.of_below hb5); clear hv5)
      | (go_at_call 72; refine (plus_calls _ _ _ _ _ HV6.out HV5.out (by have := sizeQ_fix f; omega) (by have := size_neg g; omega)).mono ?_; rintro e w' ⟨v, rfl, hv3, hb3⟩; obtain ⟨A9, n9, c9, A10, n10, c10, rfl, HV3⟩ := hv3.opened'; clear hv3)
      | (go_at_call 73; refine (told_calls _ _ _ HV3.out (size_diff f g)).mono ?_; rintro e w' ⟨v, rfl, hv4, hb4⟩; obtain ⟨A11, n11, c11, A12, n12, c12, rfl, HV4⟩ := hv4.opened; obtain ⟨x3, y3, z3, hni3, hk3⟩ := HR.at_ (HR.step (And.right ‹_ ∧ HR _ _ _ _ _›) hb4); have e0 := hk3.cell (j := 0) rfl; have e1 := hk3.cell (j := 1) rfl; have e2 := hk3.cell (j := 2) rfl; have f0 := hk3.frozen 0; have f1 := hk3.frozen 1; have f2 := hk3.frozen 2; have hb7 := (HR.step (And.right ‹_ ∧ HR _ _ _ _ _›) hb4).1.2; clear hv4))
  go_wp2_with fail
  exact end40r Try.results35 rfl hk3 hni3 HV4.out (by omega) hb7
end Go.Proofs.Ytfhambfgjigneaa
set_option linter.unusedVariables false
set_option linter.unusedSimpArgs false
namespace Go.Proofs.Ytfhambfgjigneaa
open Go.RowKit
set_option maxHeartbeats 16000000 in
set_option maxRecDepth 100000 in
theorem fneg_calls (w : World) (v : Value) (f : RawF) (h : FR w v f) : Calls Try.prog 42 #[v] w fun e w' => FPost w (-(fixQ f)) e w' := by
  obtain ⟨A1, n1, c1, A2, n2, c2, rfl, H⟩ := h.opened
  clear h
  go_enter Try.func42, Try.ntmps42
  go_wp2_with fail
  have H0 := Lib.hid (HS.two (w := w) #[.bool f.neg, .slice A1 n1 c1, .slice A2 n2 c2] #[.bool false, .slice none 0 0, .slice none 0 0] 40 40)
  generalize (w.alloc (.cells #[.bool f.neg, .slice A1 n1 c1, .slice A2 n2 c2] 40)).alloc (.cells #[.bool false, .slice none 0 0, .slice none 0 0] 40) = W0 at *
  refine (taken_calls _ _ f (H.out.of_below H0.out.2)).mono ?_
  rintro e w1 ⟨v, rfl, hv, hb⟩
  obtain ⟨A5, n5, c5, A6, n6, c6, rfl, HV⟩ := hv.opened'
  have H1 := Lib.hid (H0.out.step hb)
  clear hb hv
  go_wp2_with fail
  refine (minus_calls _ _ _ HV.out).mono ?_
  rintro e w2 ⟨v, rfl, hv, hb⟩
  obtain ⟨A5, n5, c5, A6, n6, c6, rfl, HV⟩ := hv.opened'
  have H2 := Lib.hid (H1.out.step hb)
  clear hb hv
  go_wp2_with fail
  refine (told_calls _ _ _ HV.out (size_neg f)).mono ?_
  rintro e w3 ⟨v, rfl, hv, hb⟩
  have hcap : capQ (-(fixQ f)) = -(fixQ f) := by
    unfold capQ
    rw [if_pos]
    have := sizeQ_fix f
    unfold sizeQ at *
    rw [Rat.neg_num, Rat.neg_den, Int.natAbs_neg]
    exact this
  rw [hcap] at hv
  clear hcap
  obtain ⟨A5, n5, c5, A6, n6, c6, rfl, HV⟩ := hv.opened
  have H3 := Lib.hid (H2.out.step hb)
  clear hb hv
  obtain ⟨e0, e1, e2⟩ := (H3.out.blk 0 rfl).c3
  obtain ⟨f0, f1, f2⟩ := (H3.out.blk 0 rfl).f3
  go_wp2_with fail
  exact end40 Try.results42 rfl (H3.out.blk 0 rfl) HV.out (by omega) H3.out.2
theorem HS.c2 {w W : World} {g t : Nat} {x y z x' y' z' : Value} {g1 g2 t1 t2 : Nat} (h : HS w [(g2, t2, #[x', y', z']), (g1, t1, #[x, y, z])] W) :
    W.cell? ⟨g1, 0, none⟩ = some x ∧ W.cell? ⟨g1, 1, none⟩ = some y ∧ W.cell? ⟨g1, 2, none⟩ = some z ∧ W.cell? ⟨g2, 0, none⟩ = some x' ∧ W.cell? ⟨g2, 1, none⟩ = some y' ∧ W.cell? ⟨g2, 2, none⟩ = some z' :=
  ⟨(h.blk 1 rfl).cell rfl, (h.blk 1 rfl).cell rfl, (h.blk 1 rfl).cell rfl, (h.blk 0 rfl).cell rfl, (h.blk 0 rfl).cell rfl, (h.blk 0 rfl).cell rfl⟩
set_option maxHeartbeats 16000000 in
set_option maxRecDepth 100000 in
theorem fcmp_calls (w : World) (v v2 : Value) (f g : RawF) (h : FR w v f) (h2 : FR w v2 g) : Calls Try.prog 31 #[v, v2] w fun e w' => IPost w (ordQ (fixQ f) (fixQ g)) e w' := by
  obtain ⟨A1, n1, c1, A2, n2, c2, rfl, H⟩ := h.opened
  obtain ⟨A3, n3, c3, A4, n4, c4, rfl, G⟩ := h2.opened
  clear h h2
  go_enter Try.func31, Try.ntmps31
  go_wp2_with fail
  have H0 := HS.two (w := w) #[.bool f.neg, .slice A1 n1 c1, .slice A2 n2 c2] #[.bool g.neg, .slice A3 n3 c3, .slice A4 n4 c4] 40 40
  generalize (w.alloc (.cells #[.bool f.neg, .slice A1 n1 c1, .slice A2 n2 c2] 40)).alloc (.cells #[.bool g.neg, .slice A3 n3 c3, .slice A4 n4 c4] 40) = W0 at *
  go_region_held3 (fun W => (W.cell? ⟨w.heap.size, 0, none⟩ = some (.bool f.neg) ∧ W.cell? ⟨w.heap.size, 1, none⟩ = some (.slice A1 n1 c1) ∧ W.cell? ⟨w.heap.size, 2, none⟩ = some (.slice A2 n2 c2) ∧
      W.cell? ⟨w.heap.size + 1, 0, none⟩ = some (.bool g.neg) ∧ W.cell? ⟨w.heap.size + 1, 1, none⟩ = some (.slice A3 n3 c3) ∧ W.cell? ⟨w.heap.size + 1, 2, none⟩ = some (.slice A4 n4 c4)) ∧ HS w [(w.heap.size + 1, 40, #[.bool g.neg, .slice A3 n3 c3, .slice A4 n4 c4]), (w.heap.size, 40, #[.bool f.neg, .slice A1 n1 c1, .slice A2 n2 c2])] W)
    (first
      | exact ⟨HS.c2 (g := 0) (t := 0) H0.drew, H0.drew⟩
      | (have hk9 := HS.step (And.right ‹_ ∧ HS _ _ _›) ‹_›; exact ⟨HS.c2 (g := 0) (t := 0) hk9, hk9⟩))
    (first
      | (go_at_call_of 69 (Value.agg #[.bool f.neg, .slice A1 n1 c1, .slice A2 n2 c2]); refine (taken_calls _ _ f (H.out.of_below (And.right ‹_ ∧ HS _ _ _›).2)).mono ?_; rintro e w' ⟨v, rfl, hv, hb⟩; obtain ⟨A5, n5, c5, A6, n6, c6, rfl, HV⟩ := hv.opened'; clear hv)
      | (go_at_call_of 69 (Value.agg #[.bool g.neg, .slice A3 n3 c3, .slice A4 n4 c4]); refine (taken_calls _ _ g (G.out.of_below (And.right ‹_ ∧ HS _ _ _›).2)).mono ?_; rintro e w' ⟨v, rfl, hv2, hb2⟩; obtain ⟨A7, n7, c7, A8, n8, c8, rfl, HV2⟩ := hv2.opened'; have HV1 := Lib.hid (HV.out.of_below hb2); clear hv2)
      | (go_at_call 70; refine (order_calls _ _ _ _ _ HV1.out HV2.out (by have := sizeQ_fix f; omega) (by have := sizeQ_fix g; omega)).mono ?_; rintro e w' ⟨rfl, hb3⟩; have hb7 := (HS.step (And.right ‹_ ∧ HS _ _ _›) hb3).2))
  go_wp2_with fail
  go_ret
  exact ⟨by rw [← rawOrd_eq]; rfl, hb7⟩
/-- The elements of a slice of structs of k cells. -/
def Elems {α : Type} (k : Nat) (E : World → Array Value → α → Prop) (w : World) (g o : Nat) (xs : List α) : Prop :=
  ∀ j x, xs[j]? = some x → ∃ vs : Array Value, vs.size = k ∧ (∀ i v, vs[i]? = some v → w.cell? ⟨g, o + j * k + i, none⟩ = some v) ∧ E w vs x
/-- A slice of structs that is read. -/
def SL {α : Type} (k : Nat) (E : World → Array Value → α → Prop) (w : World) (v : Value) (xs : List α) : Prop :=
  ∃ A c, v = .slice A xs.length c ∧ xs.length ≤ c ∧ (0 < xs.length → ∃ g o, A = some ⟨g, o, none⟩ ∧ g < w.heap.size ∧ Elems k E w g o xs)
def Stays {α : Type} (E : World → Array Value → α → Prop) : Prop := ∀ w w1 vs x, E w vs x → Below w.heap.size w w1 → E w1 vs x
theorem Elems.below {α : Type} {k : Nat} {E : World → Array Value → α → Prop} {w w1 : World} {g o : Nat} {xs : List α} (hE : Stays E) (h : Elems k E w g o xs) (hg : g < w.heap.size) (hb : Below w.heap.size w w1) : Elems k E w1 g o xs := fun j x hx => by
  obtain ⟨vs, hs, hc, he⟩ := h j x hx
  exact ⟨vs, hs, fun i v hv => ((bcell hb).1 g _ hg).trans (hc i v hv), hE _ _ _ _ he hb⟩
theorem SL.below {α : Type} {k : Nat} {E : World → Array Value → α → Prop} {w w1 : World} {v : Value} {xs : List α} (hE : Stays E) (h : SL k E w v xs) (hb : Below w.heap.size w w1) : SL k E w1 v xs := by
  obtain ⟨A, c, rfl, hc, hr⟩ := h
  refine ⟨A, c, rfl, hc, fun hp => ?_⟩
  obtain ⟨g, o, rfl, hg, he⟩ := hr hp
  exact ⟨g, o, rfl, Nat.lt_of_lt_of_le hg hb.size, he.below hE hg hb⟩
theorem SL.slice {α : Type} {k : Nat} {E : World → Array Value → α → Prop} {w : World} {v : Value} {xs : List α} (h : SL k E w v xs) : ∃ A c, v = .slice A xs.length c ∧ xs.length ≤ c := by
  obtain ⟨A, c, rfl, hc, _⟩ := h
  exact ⟨A, c, rfl, hc⟩
theorem SL.at_ {α : Type} {k : Nat} {E : World → Array Value → α → Prop} {w : World} {A : Option Addr} {n c : Nat} {xs : List α} (h : SL k E w (.slice A n c) xs) {j : Nat} {x : α} (hj : xs[j]? = some x) :
    ∃ g o vs, A = some ⟨g, o, none⟩ ∧ g < w.heap.size ∧ vs.size = k ∧ (∀ i v, vs[i]? = some v → w.cell? ⟨g, o + j * k + i, none⟩ = some v) ∧ E w vs x := by
  obtain ⟨A', c', e, hc, hr⟩ := h
  injection e with e1 e2 e3
  subst e1
  obtain ⟨g, o, rfl, hg, he⟩ := hr (by have := (List.getElem?_eq_some_iff.1 hj).1; omega)
  obtain ⟨vs, h1, h2, h3⟩ := he j x hj
  exact ⟨g, o, vs, rfl, hg, h1, h2, h3⟩
theorem SL.take {α : Type} {k : Nat} {E : World → Array Value → α → Prop} {w : World} {A : Option Addr} {c c' : Nat} {xs : List α} (h : SL k E w (.slice A xs.length c) xs) (n : Nat) (hn : n ≤ xs.length) (hc : n ≤ c') : SL k E w (.slice A n c') (xs.take n) := by
  obtain ⟨A', c1, e, _, hr⟩ := h
  injection e with e1 e2 e3
  subst e1
  have hl : (xs.take n).length = n := by rw [List.length_take, Nat.min_eq_left hn]
  refine ⟨A, c', by rw [hl], by rw [hl]; exact hc, fun hp => ?_⟩
  rw [hl] at hp
  obtain ⟨g, o, rfl, hg, he⟩ := hr (by omega)
  refine ⟨g, o, rfl, hg, fun j x hx => he j x ?_⟩
  rw [List.getElem?_take] at hx
  split at hx
  · exact hx
  · cases hx
def EF (w : World) (vs : Array Value) (f : RawF) : Prop := FR w (.agg vs) f
def EQ (w : World) (vs : Array Value) (q : Rat) : Prop := RQ w (.agg vs) q
theorem EF.stays : Stays EF := fun _ _ _ _ h hb => FR.of_below h hb
theorem EQ.stays : Stays EQ := fun _ _ _ _ h hb => RQ.of_below h hb
abbrev FL (w : World) (v : Value) (fs : List RawF) : Prop := SL 3 EF w v fs
abbrev QL (w : World) (v : Value) (qs : List Rat) : Prop := SL 3 EQ w v qs
theorem FL.at3 {w : World} {A : Option Addr} {n c : Nat} {fs : List RawF} (h : FL w (.slice A n c) fs) {j : Nat} {f : RawF} (hj : fs[j]? = some f) :
    ∃ g o A1 n1 c1 A2 n2 c2, A = some ⟨g, o, none⟩ ∧ g < w.heap.size ∧ w.cell? ⟨g, o + j * 3, none⟩ = some (.bool f.neg) ∧ w.cell? ⟨g, o + j * 3 + 1, none⟩ = some (.slice A1 n1 c1) ∧ w.cell? ⟨g, o + j * 3 + 2, none⟩ = some (.slice A2 n2 c2) ∧ Hid (FR w (.agg #[.bool f.neg, .slice A1 n1 c1, .slice A2 n2 c2]) f) := by
  obtain ⟨g, o, vs, hA, hg, hs, hc, he⟩ := h.at_ hj
  obtain ⟨A1, n1, c1, A2, n2, c2, e, hF⟩ := FR.opened he
  injection e with e
  subst e
  exact ⟨g, o, A1, n1, c1, A2, n2, c2, hA, hg, hc 0 _ rfl, hc 1 _ rfl, hc 2 _ rfl, hF⟩
theorem QL.at3 {w : World} {A : Option Addr} {n c : Nat} {qs : List Rat} (h : QL w (.slice A n c) qs) {j : Nat} {q : Rat} (hj : qs[j]? = some q) :
    ∃ g o A1 n1 c1 A2 n2 c2, A = some ⟨g, o, none⟩ ∧ g < w.heap.size ∧ w.cell? ⟨g, o + j * 3, none⟩ = some (.slice A1 n1 c1) ∧ w.cell? ⟨g, o + j * 3 + 1, none⟩ = some (.slice A2 n2 c2) ∧ w.cell? ⟨g, o + j * 3 + 2, none⟩ = some (.bool (negQ q)) ∧ Hid (RQ w (.agg #[.slice A1 n1 c1, .slice A2 n2 c2, .bool (negQ q)]) q) := by
  obtain ⟨g, o, vs, hA, hg, hs, hc, he⟩ := h.at_ hj
  obtain ⟨A1, n1, c1, A2, n2, c2, e, hF⟩ := RQ.opened' he
  injection e with e
  subst e
  exact ⟨g, o, A1, n1, c1, A2, n2, c2, hA, hg, hc 0 _ rfl, hc 1 _ rfl, hc 2 _ rfl, hF⟩
end Go.Proofs.Ytfhambfgjigneaa
set_option linter.unusedVariables false
set_option linter.unusedSimpArgs false
namespace Go.Proofs.Ytfhambfgjigneaa
open Go.RowKit
theorem info85m : (Try.prog.info? 85).map (fun i => (i.zero, i.size, i.bytes)) = some (some (.agg #[.slice none 0 0, .slice none 0 0, .bool false]), 3, 56) := by kernel_rfl
theorem info40m : (Try.prog.info? 40).map (fun i => (i.zero, i.size, i.bytes)) = some (some (.agg #[.bool false, .slice none 0 0, .slice none 0 0]), 3, 56) := by kernel_rfl
/-- A relation of elements that a block without words does not touch. -/
def Far {α : Type} (E : World → Array Value → α → Prop) : Prop := ∀ w w1 vs x g t cs, E w vs x → Blk w g t cs → (∀ x ∈ cs, notInt x = true) → w.heap.size ≤ w1.heap.size → (∀ k, k < w.heap.size → k ≠ g → w1.heap[k]? = w.heap[k]?) → E w1 vs x
theorem EF.far : Far EF := fun w w1 vs x g t cs h hb hn hs hk => by
  obtain ⟨hl, v1, v2, e, h1, h2⟩ := h
  exact ⟨hl, v1, v2, e, h1.apart hb hn hs hk, h2.apart hb hn hs hk⟩
theorem EQ.far : Far EQ := fun w w1 vs x g t cs h hb hn hs hk => by
  obtain ⟨v1, v2, e, h1, h2⟩ := h
  exact ⟨v1, v2, e, Rd.apart h1 hb hn hs hk, Rd.apart h2 hb hn hs hk⟩
/-- A row of structs of three cells, of the call's own, filled from its head on. -/
def Row3 {α : Type} (t : Nat) (E : World → Array Value → α → Prop) (w : World) (g n : Nat) (xs : List α) : Prop :=
  ∃ cs : Array Value, Blk w g t cs ∧ cs.size = n * 3 ∧ (∀ x ∈ cs, notInt x = true) ∧ xs.length ≤ n ∧ ∀ j x, xs[j]? = some x → ∃ a b c, cs[j * 3]? = some a ∧ cs[j * 3 + 1]? = some b ∧ cs[j * 3 + 2]? = some c ∧ E w #[a, b, c] x
section
variable {α : Type} {E : World → Array Value → α → Prop} {w w1 : World} {g t n : Nat} {xs : List α}
theorem Row3.below (hE : Stays E) (h : Row3 t E w g n xs) (hb : Below w.heap.size w w1) : Row3 t E w1 g n xs := by
  obtain ⟨cs, hk, hs, hn, hl, he⟩ := h
  refine ⟨cs, hk.below hb hk.lt, hs, hn, hl, fun j x hx => ?_⟩
  obtain ⟨a, b, c, h0, h1, h2, h3⟩ := he j x hx
  exact ⟨a, b, c, h0, h1, h2, hE _ _ _ _ h3 hb⟩
theorem Row3.lt (h : Row3 t E w g n xs) : g < w.heap.size := by
  obtain ⟨cs, hk, _⟩ := h
  exact hk.lt
theorem Row3.cells (h : Row3 t E w g n xs) (i : Nat) (hi : i < n) : ∃ a b c, w.cell? ⟨g, i * 3, none⟩ = some a ∧ w.cell? ⟨g, i * 3 + 1, none⟩ = some b ∧ w.cell? ⟨g, i * 3 + 2, none⟩ = some c ∧ w.frozen? ⟨g, i * 3, none⟩ = false ∧ w.frozen? ⟨g, i * 3 + 1, none⟩ = false ∧ w.frozen? ⟨g, i * 3 + 2, none⟩ = false := by
  obtain ⟨cs, hk, hs, _⟩ := h
  exact ⟨cs[i * 3], cs[i * 3 + 1], cs[i * 3 + 2], hk.cell (Array.getElem?_eq_getElem (by omega)), hk.cell (Array.getElem?_eq_getElem (by omega)), hk.cell (Array.getElem?_eq_getElem (by omega)), hk.frozen _, hk.frozen _, hk.frozen _⟩
theorem Row3.push (hE : Far E) (h : Row3 t E w g n xs) {x : α} {a b c : Value} (hi : xs.length < n) (hx : E w #[a, b, c] x) (hn : ∀ u ∈ #[a, b, c], notInt u = true) :
    Row3 t E (((w.setCell ⟨g, xs.length * 3, none⟩ a).setCell ⟨g, xs.length * 3 + 1, none⟩ b).setCell ⟨g, xs.length * 3 + 2, none⟩ c) g n (xs ++ [x]) := by
  obtain ⟨cs, hk, hs, hcn, hl, he⟩ := h
  have hsz : w.heap.size ≤ (((w.setCell ⟨g, xs.length * 3, none⟩ a).setCell ⟨g, xs.length * 3 + 1, none⟩ b).setCell ⟨g, xs.length * 3 + 2, none⟩ c).heap.size := by simp [World.setCell]
  have hot : ∀ k, k < w.heap.size → k ≠ g → (((w.setCell ⟨g, xs.length * 3, none⟩ a).setCell ⟨g, xs.length * 3 + 1, none⟩ b).setCell ⟨g, xs.length * 3 + 2, none⟩ c).heap[k]? = w.heap[k]? := fun k _ hkg => by
    rw [Below.heap_setCell _ _ _ k hkg, Below.heap_setCell _ _ _ k hkg, Below.heap_setCell _ _ _ k hkg]
  have hset : ∀ {xs : Array Value} {i : Nat} {v : Value}, (∀ x ∈ xs, notInt x = true) → notInt v = true → ∀ x ∈ xs.setIfInBounds i v, notInt x = true := fun {xs i v} h1 h2 x hx => by
    rcases Array.mem_or_eq_of_mem_setIfInBounds hx with h | h
    · exact h1 x h
    · rw [h]; exact h2
  refine ⟨_, ((hk.put (xs.length * 3) a).put (xs.length * 3 + 1) b).put (xs.length * 3 + 2) c, by simp [hs], hset (hset (hset hcn (hn _ (by simp))) (hn _ (by simp))) (hn _ (by simp)), by simp; omega, fun j y hy => ?_⟩
  rw [List.getElem?_append] at hy
  split at hy
  · rename_i hj
    obtain ⟨a', b', c', h0, h1, h2, h3⟩ := he j y hy
    refine ⟨a', b', c', ?_, ?_, ?_, hE _ _ _ _ _ _ _ h3 hk hcn hsz hot⟩
    · rw [Array.getElem?_setIfInBounds_ne (by omega), Array.getElem?_setIfInBounds_ne (by omega), Array.getElem?_setIfInBounds_ne (by omega)]; exact h0
    · rw [Array.getElem?_setIfInBounds_ne (by omega), Array.getElem?_setIfInBounds_ne (by omega), Array.getElem?_setIfInBounds_ne (by omega)]; exact h1
    · rw [Array.getElem?_setIfInBounds_ne (by omega), Array.getElem?_setIfInBounds_ne (by omega), Array.getElem?_setIfInBounds_ne (by omega)]; exact h2
  · rename_i hj
    have h0 : j - xs.length = 0 := by
      have := (List.getElem?_eq_some_iff.1 hy).1
      simp at this
      omega
    rw [h0] at hy
    have hxy : x = y := by simpa using hy
    subst hxy
    obtain rfl : j = xs.length := by omega
    refine ⟨a, b, c, ?_, ?_, ?_, hE _ _ _ _ _ _ _ hx hk hcn hsz hot⟩
    · rw [Array.getElem?_setIfInBounds_ne (by omega), Array.getElem?_setIfInBounds_ne (by omega), Array.getElem?_setIfInBounds_self]; rw [if_pos (by omega)]
    · rw [Array.getElem?_setIfInBounds_ne (by omega), Array.getElem?_setIfInBounds_self]; rw [if_pos (by simp; omega)]
    · rw [Array.getElem?_setIfInBounds_self]; rw [if_pos (by simp; omega)]
theorem Row3.done (h : Row3 t E w g n xs) (hn : xs.length = n) : SL 3 E w (.slice (some ⟨g, 0, none⟩) n n) xs := by
  obtain ⟨cs, hk, hs, hcn, hl, he⟩ := h
  refine ⟨_, _, by rw [hn], by omega, fun _ => ⟨g, 0, rfl, hk.lt, fun j x hx => ?_⟩⟩
  obtain ⟨a, b, c, h0, h1, h2, h3⟩ := he j x hx
  refine ⟨#[a, b, c], rfl, fun i v hv => ?_, h3⟩
  have hi : i < 3 := (Array.getElem?_eq_some_iff.1 hv).1
  match i, hi with
  | 0, _ => rw [show v = a by simpa using hv.symm]; exact hk.cell (by rw [Nat.zero_add]; exact h0)
  | 1, _ => rw [show v = b by simpa using hv.symm]; exact hk.cell (by rw [Nat.zero_add]; exact h1)
  | 2, _ => rw [show v = c by simpa using hv.symm]; exact hk.cell (by rw [Nat.zero_add]; exact h2)
theorem Row3.made (w : World) (t n : Nat) (z : Array Value) (hz : z.size = 3) (hn : ∀ u ∈ z, notInt u = true) : Row3 t E (w.alloc (.cells (madeCells z (n * 3)) t)) w.heap.size n ([] : List α) := by
  refine ⟨_, Blk.new w t _, by simp [size_madeCells], fun x hx => ?_, by simp, fun j x hx => by simp at hx⟩
  obtain ⟨i, hi, rfl⟩ := Array.getElem_of_mem hx
  have hp : i % z.size < z.size := Nat.mod_lt _ (by omega)
  simp only [madeCells, Array.getElem_map, Array.getElem_range]
  rw [getElem!_pos z _ hp]
  exact hn _ (Array.getElem_mem hp)
end
/-- 'make' of so many structs. -/
theorem run_make3 (t e : TypeId) (z : Value) (ht : Try.prog.underlying t = some (.slice e)) (hinfo : (Try.prog.info? e).map (fun i => (i.zero, i.size, i.bytes)) = some (some z, 3, 56)) (n : Nat) (hn : n ≤ 1000000000000) (w : World) :
    Sem.run Try.prog (Instr.makeSlice t (.int .i64 (n : Int)) (.int .i64 (n : Int))) w = .ok (.slice (some ⟨w.heap.size, 0, none⟩) n n) (w.alloc (.cells (madeCells z.cells (n * 3)) e)) := by
  obtain ⟨i, hi, hzz⟩ := Option.map_eq_some_iff.1 hinfo
  simp only [Prod.mk.injEq] at hzz
  obtain ⟨hz, hsz, hby⟩ := hzz
  have := run_make (P := Try.prog) w t e i _ ht hi hz .i64 .i64 (n : Int) (n : Int) (by omega) (Int.le_refl _) (by rw [hby]; omega) (by omega)
  rw [hsz, Int.toNat_natCast] at this
  exact this
def AllPost (w : World) (fs : List RawF) (e : Ending) (w' : World) : Prop := ∃ g, e = .returned (.slice (some ⟨g, 0, none⟩) fs.length fs.length) ∧ w.heap.size ≤ g ∧ g < w'.heap.size ∧ QL w' (.slice (some ⟨g, 0, none⟩) fs.length fs.length) (fs.map fixQ) ∧ Below w.heap.size w w'
theorem SL.put3 {α : Type} {E : World → Array Value → α → Prop} {w : World} {gq o n c : Nat} {xs : List α} {g t : Nat} {x y z a b d : Value} (hE : Far E) (h : SL 3 E w (.slice (some ⟨gq, o, none⟩) n c) xs) (hb : Blk w g t #[x, y, z]) (hn : ∀ u ∈ #[x, y, z], notInt u = true) (hne : gq ≠ g) :
    SL 3 E (((w.setCell ⟨g, 0, none⟩ a).setCell ⟨g, 1, none⟩ b).setCell ⟨g, 2, none⟩ d) (.slice (some ⟨gq, o, none⟩) n c) xs := by
  have hot : ∀ k, k ≠ g → (((w.setCell ⟨g, 0, none⟩ a).setCell ⟨g, 1, none⟩ b).setCell ⟨g, 2, none⟩ d).heap[k]? = w.heap[k]? := fun k hkg => by
    rw [Below.heap_setCell _ _ _ k hkg, Below.heap_setCell _ _ _ k hkg, Below.heap_setCell _ _ _ k hkg]
  have hsz : w.heap.size ≤ (((w.setCell ⟨g, 0, none⟩ a).setCell ⟨g, 1, none⟩ b).setCell ⟨g, 2, none⟩ d).heap.size := by simp [World.setCell]
  obtain ⟨A, c', e, hc, hr⟩ := h
  refine ⟨A, c', e, hc, fun hp => ?_⟩
  obtain ⟨g', o', rfl, hg, he⟩ := hr hp
  have hgq : gq = g' := by injection e with e1; injection e1 with e1; injection e1
  subst hgq
  refine ⟨gq, o', rfl, by omega, fun j y hy => ?_⟩
  obtain ⟨vs, h1, h2, h3⟩ := he j y hy
  exact ⟨vs, h1, fun i v hv => (World.cell?_of_block (a := ⟨gq, _, none⟩) (hot gq hne)).trans (h2 i v hv), hE _ _ _ _ _ _ _ h3 hb hn hsz fun k _ hk => hot k hk⟩
set_option maxHeartbeats 16000000 in
set_option maxRecDepth 100000 in
theorem all_calls (w : World) (v : Value) (fs : List RawF) (h : FL w v fs) (hl : fs.length ≤ 1000000000) : Calls Try.prog 91 #[v] w fun e w' => AllPost w fs e w' := by
  obtain ⟨A, c, rfl, hc⟩ := h.slice
  have HF := Lib.hid h
  clear h
  go_enter Try.func91, Try.ntmps91
  have hmk := run_make3 108 85 _ Try.underlying108 info85m fs.length (by omega)
  go_wp2_with fail
  clear hmk
  have hr0 := Row3.made (E := EQ) w 85 fs.length #[.slice none 0 0, .slice none 0 0, .bool false] rfl ni85
  have hb0 := below_new w (.cells (madeCells #[.slice none 0 0, .slice none 0 0, .bool false] (fs.length * 3)) 85)
  generalize w.alloc (.cells (madeCells #[.slice none 0 0, .slice none 0 0, .bool false] (fs.length * 3)) 85) = W0 at *
  go_loopw [11] (fun vi wr => ∃ i : Nat, i ≤ fs.length ∧ vi = .int .i64 (i : Int) ∧ Row3 85 EQ wr w.heap.size fs.length ((fs.take i).map fixQ) ∧ Below w.heap.size w wr) (fun vi _ => fs.length - (intOf vi).toNat)
  case atStart => exact ⟨0, Nat.zero_le _, rfl, hr0, hb0⟩
  case round =>
    obtain ⟨i, hi, rfl, hrow, hb⟩ := hrel
    have HRW := Lib.hid hrow
    have HB := Lib.hid hb
    clear hrow hb hr0 hb0
    by_cases hlt : i < fs.length
    · obtain ⟨f, hf⟩ : ∃ f, fs[i]? = some f := ⟨fs[i], List.getElem?_eq_getElem hlt⟩
      obtain ⟨g, o, A1, n1, c1, A2, n2, c2, rfl, hg, k0, k1, k2, HE⟩ := FL.at3 (HF.out.below EF.stays HB.out) hf
      have HFI := Lib.hid hf
      clear hf
      have m1 : (i : Int) < (fs.length : Int) := by omega
      have m3 : (i : Int).toNat = i := by omega
      have m4 : (0 : Int) ≤ (i : Int) := by omega
      go_wp2_with fail
      have hb1 := below_new wr (.cells #[.bool f.neg, .slice A1 n1 c1, .slice A2 n2 c2] 40)
      refine (taken_calls _ _ f (HE.out.of_below hb1)).mono ?_
      rintro e w2 ⟨v, rfl, hv, hb2⟩
      obtain ⟨A5, n5, c5, A6, n6, c6, rfl, HV⟩ := hv.opened'
      have HRW2 := Lib.hid (HRW.out.below EQ.stays (below_next hb1 hb2))
      have HB2 := Lib.hid (below_next HB.out (below_next hb1 hb2))
      clear hv hb1 hb2
      obtain ⟨a, b, d, e0, e1, e2, f0, f1, f2⟩ := HRW2.out.cells i hlt
      go_wp2_with fail
      go_roundw
      case rel =>
        have hlen : ((fs.take i).map fixQ).length = i := by rw [List.length_map, List.length_take, Nat.min_eq_left hi]
        refine ⟨i + 1, by omega, by go_num, ?_, ?_⟩
        · have := HRW2.out.push EQ.far (by rw [hlen]; exact hlt) HV.out (by simp [notInt])
          rw [hlen] at this
          rw [List.take_add_one, HFI.out, List.map_append]
          exact this
        · exact Below.setCell (Below.setCell (Below.setCell HB2.out (Nat.le_refl _) _) (Nat.le_refl _) _) (Nat.le_refl _) _
      case measure => simp [intOf]; omega
    · obtain rfl : i = fs.length := by omega
      go_wp2_with fail
      go_ret
      refine ⟨w.heap.size, rfl, Nat.le_refl _, HRW.out.lt, ?_, HB.out⟩
      have := HRW.out.done (by simp)
      rw [List.take_length] at this
      exact this
end Go.Proofs.Ytfhambfgjigneaa

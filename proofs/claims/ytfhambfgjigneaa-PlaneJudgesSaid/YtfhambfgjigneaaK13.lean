/- Contracts of Go functions that the statement reaches, proved by walking their text, and plain laws over them (texts put together). -/
import Derived.Test.YtfhambfgjigneaaK1
import Derived.Test.YtfhambfgjigneaaK9
import Derived.Test.YtfhambfgjigneaaK12
set_option linter.unusedVariables false
set_option linter.unusedSimpArgs false
namespace Go.Proofs.Ytfhambfgjigneaa
open Go.RowKit
theorem chain_skip {P : Program} {ops : Array Oper} {Q : Exit → Act → World → Prop} {K : Act → World → Prop} {o : Oper} {a : Act} {w : World} (hg : Region.wanted o (yielded ops a.tmps) = false) (h : K (a.put o.dst undef) w) : wpList P ops (chainQ Q K) [o] a w := by
  unfold wpList
  rw [if_neg (by rw [hg]; simp)]
  exact h
theorem calls_to {n : Nat} {args : Array Value} {w : World} {a b : Bool} (h : Calls Try.prog n args w fun e w' => BPost w a e w') (e : a = b) : Calls Try.prog n args w fun e w' => BPost w b e w' := e ▸ h
noncomputable def judgeB (p : ProgF) (c : CertF) : Bool :=
  if rightP p ≠ 0 then false
  else if c.kind = 1 then fitsB p c.x && (boundsB p c.y (some p.goal) && decide (ordQ (rightsQ p c.y) (capQ (dotQ (p.goal.map fixQ) (c.x.map fixQ))) = 0))
  else if c.kind = 2 then boundsB p c.y none && decide (signQ (rightsQ p c.y) < 0)
  else if c.kind = 3 then fitsB p c.x && goesB p c.ray
  else false
set_option maxHeartbeats 32000000 in
set_option maxRecDepth 100000 in
theorem judge_calls (w : World) (v v2 : Value) (p : ProgF) (c : CertF) (h : PR w v p) (h2 : CR w v2 c) (hlx : c.x.length ≤ 100000) (hly : c.y.length ≤ 100000) (hlr : c.ray.length ≤ 100000) : Calls Try.prog 28 #[v, v2] w fun e w' => BPost w (judgeB p c) e w' := by
  have HP := Lib.hid h
  have HC := Lib.hid h2
  obtain ⟨A1, c1, A2, c2, A3, c3, rfl, HI, H1, H2, H3⟩ := h.opened
  obtain ⟨B1, d1, B2, d2, B3, d3, rfl, HX, HY, HR⟩ := h2.opened
  clear h h2
  obtain ⟨vars, hv⟩ : ∃ n, n = p.vars := ⟨_, rfl⟩
  rw [← hv] at HP ⊢
  have HV := Lib.hid hv
  obtain ⟨kd, hkd⟩ : ∃ k, k = c.kind := ⟨_, rfl⟩
  rw [← hkd] at HC ⊢
  have HKD := Lib.hid hkd
  clear hv hkd
  go_enter Try.func28, Try.ntmps28
  go_wp2_with fail
  have H0 := Lib.hid (HS.two (w := w) #[.int .i64 vars, .slice A1 p.free.length c1, .slice A2 p.goal.length c2, .slice A3 p.rows.length c3] #[.int .i64 kd, .slice B1 c.x.length d1, .slice B2 c.y.length d2, .slice B3 c.ray.length d3] 26 44)
  generalize (w.alloc (.cells #[.int .i64 vars, .slice A1 p.free.length c1, .slice A2 p.goal.length c2, .slice A3 p.rows.length c3] 26)).alloc (.cells #[.int .i64 kd, .slice B1 c.x.length d1, .slice B2 c.y.length d2, .slice B3 c.ray.length d3] 44) = W0 at *
  refine (pright_calls W0 _ p (HP.out.of_below H0.out.2)).mono ?_
  rintro e w1 ⟨rfl, hb⟩
  have K1 := Lib.hid (H0.out.step hb)
  obtain ⟨x0, x1, x2, x3⟩ := K1.out.c4 1 rfl
  obtain ⟨y0, y1, y2, y3⟩ := K1.out.c4 0 rfl
  clear hb
  by_cases q1 : rightP p = 0
  case neg =>
    have u1 : (rightP p != 0) = true := bneI q1
    have HE : Hid (judgeB p c = false) := by unfold Hid judgeB; rw [if_pos q1]
    clear q1
    go_wp2_with fail
    go_ret
    exact ⟨by rw [HE.out]; rfl, K1.out.2⟩
  have u1 : (rightP p != 0) = false := beqI q1
  have HR0 := Lib.hid q1
  have hrl := rightP_len q1
  have hrw : p.rows.length ≤ 400 := hrl.2.2.2.2.1
  have hgl : p.goal.length ≤ 100000 := by have := hrl.2.1; have := hrl.2.2.2.1; omega
  have HGV : Hid ((p.goal.length : Int) = p.vars) := hrl.2.1
  clear q1 hrl
  have cells : ∀ W, HS w [(w.heap.size + 1, 44, #[.int .i64 kd, .slice B1 c.x.length d1, .slice B2 c.y.length d2, .slice B3 c.ray.length d3]), (w.heap.size, 26, #[.int .i64 vars, .slice A1 p.free.length c1, .slice A2 p.goal.length c2, .slice A3 p.rows.length c3])] W → (W.cell? ⟨w.heap.size, 0, none⟩ = some (.int .i64 vars) ∧ W.cell? ⟨w.heap.size, 1, none⟩ = some (.slice A1 p.free.length c1) ∧ W.cell? ⟨w.heap.size, 2, none⟩ = some (.slice A2 p.goal.length c2) ∧ W.cell? ⟨w.heap.size, 3, none⟩ = some (.slice A3 p.rows.length c3) ∧ W.cell? ⟨w.heap.size + 1, 0, none⟩ = some (.int .i64 kd) ∧ W.cell? ⟨w.heap.size + 1, 1, none⟩ = some (.slice B1 c.x.length d1) ∧ W.cell? ⟨w.heap.size + 1, 2, none⟩ = some (.slice B2 c.y.length d2) ∧ W.cell? ⟨w.heap.size + 1, 3, none⟩ = some (.slice B3 c.ray.length d3)) := fun W h => by
    obtain ⟨a, b, c, d⟩ := h.c4 1 rfl
    obtain ⟨e, f, g, i⟩ := h.c4 0 rfl
    exact ⟨a, b, c, d, e, f, g, i⟩
  have HCELLS := Lib.hid cells
  clear cells
  by_cases k1 : kd = 1
  · have t1 : (kd == 1) = true := beqI' k1
    have HE1 : Hid (judgeB p c = (fitsB p c.x && (boundsB p c.y (some p.goal) && decide (ordQ (rightsQ p c.y) (capQ (dotQ (p.goal.map fixQ) (c.x.map fixQ))) = 0)))) := by unfold Hid judgeB; rw [if_neg (by rw [HR0.out]; simp), if_pos (by rw [← HKD.out]; exact k1)]
    clear k1
    cases hf : fitsB p c.x with
    | false =>
      have HE2 : Hid (judgeB p c = false) := by unfold Hid; rw [HE1.out, hf]; rfl
      have l0 := (K1.out.blk 1 rfl).lt
      have l1 := (K1.out.blk 0 rfl).lt
      go_wp2_with fail
      refine wp_chainS (S := Below w1.heap.size w1) [([0, 1, 2], 3), ([4, 5, 6, 7, 8, 9], 10), ([11, 12, 13, 14, 15, 17, 18, 19, 20], 16), ([], 21), ([], 22)] [23, 24, 25] (by kernel_rfl) (by kernel_rfl) (by kernel_rfl) rfl (Below.drew (Below.refl _ _)) ?_
      refine ⟨?_, _, ?_, rfl, ?_⟩
      rotate_left
      · ((refine ⟨_, ?_, rfl, Or.inl ⟨by rfl, ?_⟩, ?_⟩; rotate_left; focus (intro W hW; have hcW := (bcell hW).1; clear hW; go_simp; try with_reducible rfl)); (try simp only [Act.put, List.getElem_toArray, List.getElem_cons_succ, List.getElem_cons_zero, List.setIfInBounds_toArray, List.set_cons_zero, List.set_cons_succ])); ((refine ⟨_, ?_, rfl, Or.inl ⟨by rfl, ?_⟩, ?_⟩; rotate_left; focus (intro W hW; have hcW := (bcell hW).1; clear hW; go_simp; try with_reducible rfl)); (try simp only [Act.put, List.getElem_toArray, List.getElem_cons_succ, List.getElem_cons_zero, List.setIfInBounds_toArray, List.set_cons_zero, List.set_cons_succ])); ((refine ⟨_, ?_, rfl, Or.inl ⟨by rfl, ?_⟩, ?_⟩; rotate_left; focus (intro W hW; have hcW := (bcell hW).1; clear hW; go_simp; try with_reducible rfl)); (try simp only [Act.put, List.getElem_toArray, List.getElem_cons_succ, List.getElem_cons_zero, List.setIfInBounds_toArray, List.set_cons_zero, List.set_cons_succ]))
        exact rfl
      have D0 : Hid (Below w1.heap.size w1 w1.drew) := Below.drew (Below.refl _ _)
      have E0 := Lib.hid (HS.step K1.out D0.out)
      go_wp2_with fail
      refine (calls_to (fits_calls _ _ _ p c.x (HP.out.of_below E0.out.2) (HX.out.below EF.stays E0.out.2) HR0.out) hf).mono ?_
      rintro e w2 ⟨rfl, hb⟩
      have D2 := Lib.hid (below_next D0.out hb)
      have E2 := Lib.hid (HS.step K1.out D2.out)
      clear hb
      go_wp2_with fail
      refine And.intro D2.out ⟨?_, _, ?_, rfl, ?_⟩
      rotate_left
      · ((refine ⟨_, ?_, rfl, Or.inl ⟨by rfl, ?_⟩, ?_⟩; rotate_left; focus (intro W hW; have hcW := (bcell hW).1; clear hW; go_simp; try with_reducible rfl)); (try simp only [Act.put, List.getElem_toArray, List.getElem_cons_succ, List.getElem_cons_zero, List.setIfInBounds_toArray, List.set_cons_zero, List.set_cons_succ])); ((refine ⟨_, undef, rfl, Or.inr ⟨by kernel_rfl, rfl⟩, ?_⟩); (try simp only [Act.put, List.getElem_toArray, List.getElem_cons_succ, List.getElem_cons_zero, List.setIfInBounds_toArray, List.set_cons_zero, List.set_cons_succ])); ((refine ⟨_, undef, rfl, Or.inr ⟨by kernel_rfl, rfl⟩, ?_⟩); (try simp only [Act.put, List.getElem_toArray, List.getElem_cons_succ, List.getElem_cons_zero, List.setIfInBounds_toArray, List.set_cons_zero, List.set_cons_succ])); ((refine ⟨_, undef, rfl, Or.inr ⟨by kernel_rfl, rfl⟩, ?_⟩); (try simp only [Act.put, List.getElem_toArray, List.getElem_cons_succ, List.getElem_cons_zero, List.setIfInBounds_toArray, List.set_cons_zero, List.set_cons_succ])); ((refine ⟨_, undef, rfl, Or.inr ⟨by kernel_rfl, rfl⟩, ?_⟩); (try simp only [Act.put, List.getElem_toArray, List.getElem_cons_succ, List.getElem_cons_zero, List.setIfInBounds_toArray, List.set_cons_zero, List.set_cons_succ])); ((refine ⟨_, undef, rfl, Or.inr ⟨by kernel_rfl, rfl⟩, ?_⟩); (try simp only [Act.put, List.getElem_toArray, List.getElem_cons_succ, List.getElem_cons_zero, List.setIfInBounds_toArray, List.set_cons_zero, List.set_cons_succ]))
        exact rfl
      refine chain_skip (by kernel_rfl) (And.intro D2.out ?_)
      (try simp only [Act.put, List.getElem_toArray, List.getElem_cons_succ, List.getElem_cons_zero, List.setIfInBounds_toArray, List.set_cons_zero, List.set_cons_succ])
      refine ⟨?_, _, ?_, rfl, ?_⟩
      rotate_left
      · ((refine ⟨_, ?_, rfl, Or.inl ⟨by rfl, ?_⟩, ?_⟩; rotate_left; focus (intro W hW; have hcW := (bcell hW).1; clear hW; go_simp; try with_reducible rfl)); (try simp only [Act.put, List.getElem_toArray, List.getElem_cons_succ, List.getElem_cons_zero, List.setIfInBounds_toArray, List.set_cons_zero, List.set_cons_succ])); ((refine ⟨_, ?_, rfl, Or.inl ⟨by rfl, ?_⟩, ?_⟩; rotate_left; focus (intro W hW; have hcW := (bcell hW).1; clear hW; go_simp; try with_reducible rfl)); (try simp only [Act.put, List.getElem_toArray, List.getElem_cons_succ, List.getElem_cons_zero, List.setIfInBounds_toArray, List.set_cons_zero, List.set_cons_succ])); ((refine ⟨_, undef, rfl, Or.inr ⟨by kernel_rfl, rfl⟩, ?_⟩); (try simp only [Act.put, List.getElem_toArray, List.getElem_cons_succ, List.getElem_cons_zero, List.setIfInBounds_toArray, List.set_cons_zero, List.set_cons_succ])); ((refine ⟨_, undef, rfl, Or.inr ⟨by kernel_rfl, rfl⟩, ?_⟩); (try simp only [Act.put, List.getElem_toArray, List.getElem_cons_succ, List.getElem_cons_zero, List.setIfInBounds_toArray, List.set_cons_zero, List.set_cons_succ])); ((refine ⟨_, undef, rfl, Or.inr ⟨by kernel_rfl, rfl⟩, ?_⟩); (try simp only [Act.put, List.getElem_toArray, List.getElem_cons_succ, List.getElem_cons_zero, List.setIfInBounds_toArray, List.set_cons_zero, List.set_cons_succ])); ((refine ⟨_, undef, rfl, Or.inr ⟨by kernel_rfl, rfl⟩, ?_⟩); (try simp only [Act.put, List.getElem_toArray, List.getElem_cons_succ, List.getElem_cons_zero, List.setIfInBounds_toArray, List.set_cons_zero, List.set_cons_succ])); ((refine ⟨_, undef, rfl, Or.inr ⟨by kernel_rfl, rfl⟩, ?_⟩); (try simp only [Act.put, List.getElem_toArray, List.getElem_cons_succ, List.getElem_cons_zero, List.setIfInBounds_toArray, List.set_cons_zero, List.set_cons_succ])); ((refine ⟨_, undef, rfl, Or.inr ⟨by kernel_rfl, rfl⟩, ?_⟩); (try simp only [Act.put, List.getElem_toArray, List.getElem_cons_succ, List.getElem_cons_zero, List.setIfInBounds_toArray, List.set_cons_zero, List.set_cons_succ])); ((refine ⟨_, undef, rfl, Or.inr ⟨by kernel_rfl, rfl⟩, ?_⟩); (try simp only [Act.put, List.getElem_toArray, List.getElem_cons_succ, List.getElem_cons_zero, List.setIfInBounds_toArray, List.set_cons_zero, List.set_cons_succ]))
        exact rfl
      refine chain_skip (by kernel_rfl) (And.intro D2.out ?_)
      (try simp only [Act.put, List.getElem_toArray, List.getElem_cons_succ, List.getElem_cons_zero, List.setIfInBounds_toArray, List.set_cons_zero, List.set_cons_succ])
      refine ⟨_, _, rfl, rfl, ?_⟩
      refine chain_skip (by kernel_rfl) (And.intro D2.out ?_)
      (try simp only [Act.put, List.getElem_toArray, List.getElem_cons_succ, List.getElem_cons_zero, List.setIfInBounds_toArray, List.set_cons_zero, List.set_cons_succ])
      refine ⟨_, _, rfl, rfl, ?_⟩
      refine chain_skip (by kernel_rfl) (And.intro D2.out ?_)
      (try simp only [Act.put, List.getElem_toArray, List.getElem_cons_succ, List.getElem_cons_zero, List.setIfInBounds_toArray, List.set_cons_zero, List.set_cons_succ])
      refine ⟨?_, ?_, ?_⟩
      rotate_left
      · ((refine ⟨_, undef, rfl, Or.inr ⟨by kernel_rfl, rfl⟩, ?_⟩); (try simp only [Act.put, List.getElem_toArray, List.getElem_cons_succ, List.getElem_cons_zero, List.setIfInBounds_toArray, List.set_cons_zero, List.set_cons_succ])); ((refine ⟨_, ?_, rfl, Or.inl ⟨by rfl, ?_⟩, ?_⟩; rotate_left; focus (intro W hW; have hcW := (bcell hW).1; clear hW; go_simp; try with_reducible rfl)); (try simp only [Act.put, List.getElem_toArray, List.getElem_cons_succ, List.getElem_cons_zero, List.setIfInBounds_toArray, List.set_cons_zero, List.set_cons_succ])); ((refine ⟨_, ?_, rfl, Or.inl ⟨by rfl, ?_⟩, ?_⟩; rotate_left; focus (intro W hW; have hcW := (bcell hW).1; clear hW; go_simp; try with_reducible rfl)); (try simp only [Act.put, List.getElem_toArray, List.getElem_cons_succ, List.getElem_cons_zero, List.setIfInBounds_toArray, List.set_cons_zero, List.set_cons_succ]))
        exact rfl
      refine NoPanic.normal ?_
      go_wp2_with fail
      go_ret
      exact ⟨by rw [HE2.out]; rfl, E2.out.2⟩
    | true =>
      cases hb0 : boundsB p c.y (some p.goal) with
      | false =>
        have HE2 : Hid (judgeB p c = false) := by unfold Hid; rw [HE1.out, hf, hb0]; rfl
        have l0 := (K1.out.blk 1 rfl).lt
        have l1 := (K1.out.blk 0 rfl).lt
        go_wp2_with fail
        refine wp_chainS (S := Below w1.heap.size w1) [([0, 1, 2], 3), ([4, 5, 6, 7, 8, 9], 10), ([11, 12, 13, 14, 15, 17, 18, 19, 20], 16), ([], 21), ([], 22)] [23, 24, 25] (by kernel_rfl) (by kernel_rfl) (by kernel_rfl) rfl (Below.drew (Below.refl _ _)) ?_
        refine ⟨?_, _, ?_, rfl, ?_⟩
        rotate_left
        · ((refine ⟨_, ?_, rfl, Or.inl ⟨by rfl, ?_⟩, ?_⟩; rotate_left; focus (intro W hW; have hcW := (bcell hW).1; clear hW; go_simp; try with_reducible rfl)); (try simp only [Act.put, List.getElem_toArray, List.getElem_cons_succ, List.getElem_cons_zero, List.setIfInBounds_toArray, List.set_cons_zero, List.set_cons_succ])); ((refine ⟨_, ?_, rfl, Or.inl ⟨by rfl, ?_⟩, ?_⟩; rotate_left; focus (intro W hW; have hcW := (bcell hW).1; clear hW; go_simp; try with_reducible rfl)); (try simp only [Act.put, List.getElem_toArray, List.getElem_cons_succ, List.getElem_cons_zero, List.setIfInBounds_toArray, List.set_cons_zero, List.set_cons_succ])); ((refine ⟨_, ?_, rfl, Or.inl ⟨by rfl, ?_⟩, ?_⟩; rotate_left; focus (intro W hW; have hcW := (bcell hW).1; clear hW; go_simp; try with_reducible rfl)); (try simp only [Act.put, List.getElem_toArray, List.getElem_cons_succ, List.getElem_cons_zero, List.setIfInBounds_toArray, List.set_cons_zero, List.set_cons_succ]))
          exact rfl
        have D0 : Hid (Below w1.heap.size w1 w1.drew) := Below.drew (Below.refl _ _)
        have E0 := Lib.hid (HS.step K1.out D0.out)
        go_wp2_with fail
        refine (calls_to (fits_calls _ _ _ p c.x (HP.out.of_below E0.out.2) (HX.out.below EF.stays E0.out.2) HR0.out) hf).mono ?_
        rintro e w2 ⟨rfl, hb⟩
        have D2 := Lib.hid (below_next D0.out hb)
        have E2 := Lib.hid (HS.step K1.out D2.out)
        clear hb
        go_wp2_with fail
        refine And.intro D2.out ⟨?_, _, ?_, rfl, ?_⟩
        rotate_left
        · ((refine ⟨_, ?_, rfl, Or.inl ⟨by rfl, ?_⟩, ?_⟩; rotate_left; focus (intro W hW; have hcW := (bcell hW).1; clear hW; go_simp; try with_reducible rfl)); (try simp only [Act.put, List.getElem_toArray, List.getElem_cons_succ, List.getElem_cons_zero, List.setIfInBounds_toArray, List.set_cons_zero, List.set_cons_succ])); ((refine ⟨_, ?_, rfl, Or.inl ⟨by rfl, ?_⟩, ?_⟩; rotate_left; focus (intro W hW; have hcW := (bcell hW).1; clear hW; go_simp; try with_reducible rfl)); (try simp only [Act.put, List.getElem_toArray, List.getElem_cons_succ, List.getElem_cons_zero, List.setIfInBounds_toArray, List.set_cons_zero, List.set_cons_succ])); ((refine ⟨_, ?_, rfl, Or.inl ⟨by rfl, ?_⟩, ?_⟩; rotate_left; focus (intro W hW; have hcW := (bcell hW).1; clear hW; go_simp; try with_reducible rfl)); (try simp only [Act.put, List.getElem_toArray, List.getElem_cons_succ, List.getElem_cons_zero, List.setIfInBounds_toArray, List.set_cons_zero, List.set_cons_succ])); ((refine ⟨_, ?_, rfl, Or.inl ⟨by rfl, ?_⟩, ?_⟩; rotate_left; focus (intro W hW; have hcW := (bcell hW).1; clear hW; go_simp; try with_reducible rfl)); (try simp only [Act.put, List.getElem_toArray, List.getElem_cons_succ, List.getElem_cons_zero, List.setIfInBounds_toArray, List.set_cons_zero, List.set_cons_succ])); ((refine ⟨_, ?_, rfl, Or.inl ⟨by rfl, ?_⟩, ?_⟩; rotate_left; focus (intro W hW; have hcW := (bcell hW).1; clear hW; go_simp; try with_reducible rfl)); (try simp only [Act.put, List.getElem_toArray, List.getElem_cons_succ, List.getElem_cons_zero, List.setIfInBounds_toArray, List.set_cons_zero, List.set_cons_succ])); ((refine ⟨_, ?_, rfl, Or.inl ⟨by rfl, ?_⟩, ?_⟩; rotate_left; focus (intro W hW; have hcW := (bcell hW).1; clear hW; go_simp; try with_reducible rfl)); (try simp only [Act.put, List.getElem_toArray, List.getElem_cons_succ, List.getElem_cons_zero, List.setIfInBounds_toArray, List.set_cons_zero, List.set_cons_succ]))
          exact rfl
        go_wp2_with fail
        refine (calls_to (bounds_calls _ _ _ p c.y (HP.out.of_below E2.out.2) (HY.out.below EF.stays E2.out.2) _ p.goal (H2.out.below EF.stays E2.out.2) HGV.out HR0.out hly) hb0).mono ?_
        rintro e w3 ⟨rfl, hb⟩
        have D3 := Lib.hid (below_next D2.out hb)
        have E3 := Lib.hid (HS.step K1.out D3.out)
        clear hb
        go_wp2_with fail
        refine And.intro D3.out ⟨?_, _, ?_, rfl, ?_⟩
        rotate_left
        · ((refine ⟨_, ?_, rfl, Or.inl ⟨by rfl, ?_⟩, ?_⟩; rotate_left; focus (intro W hW; have hcW := (bcell hW).1; clear hW; go_simp; try with_reducible rfl)); (try simp only [Act.put, List.getElem_toArray, List.getElem_cons_succ, List.getElem_cons_zero, List.setIfInBounds_toArray, List.set_cons_zero, List.set_cons_succ])); ((refine ⟨_, ?_, rfl, Or.inl ⟨by rfl, ?_⟩, ?_⟩; rotate_left; focus (intro W hW; have hcW := (bcell hW).1; clear hW; go_simp; try with_reducible rfl)); (try simp only [Act.put, List.getElem_toArray, List.getElem_cons_succ, List.getElem_cons_zero, List.setIfInBounds_toArray, List.set_cons_zero, List.set_cons_succ])); ((refine ⟨_, undef, rfl, Or.inr ⟨by kernel_rfl, rfl⟩, ?_⟩); (try simp only [Act.put, List.getElem_toArray, List.getElem_cons_succ, List.getElem_cons_zero, List.setIfInBounds_toArray, List.set_cons_zero, List.set_cons_succ])); ((refine ⟨_, undef, rfl, Or.inr ⟨by kernel_rfl, rfl⟩, ?_⟩); (try simp only [Act.put, List.getElem_toArray, List.getElem_cons_succ, List.getElem_cons_zero, List.setIfInBounds_toArray, List.set_cons_zero, List.set_cons_succ])); ((refine ⟨_, undef, rfl, Or.inr ⟨by kernel_rfl, rfl⟩, ?_⟩); (try simp only [Act.put, List.getElem_toArray, List.getElem_cons_succ, List.getElem_cons_zero, List.setIfInBounds_toArray, List.set_cons_zero, List.set_cons_succ])); ((refine ⟨_, undef, rfl, Or.inr ⟨by kernel_rfl, rfl⟩, ?_⟩); (try simp only [Act.put, List.getElem_toArray, List.getElem_cons_succ, List.getElem_cons_zero, List.setIfInBounds_toArray, List.set_cons_zero, List.set_cons_succ])); ((refine ⟨_, undef, rfl, Or.inr ⟨by kernel_rfl, rfl⟩, ?_⟩); (try simp only [Act.put, List.getElem_toArray, List.getElem_cons_succ, List.getElem_cons_zero, List.setIfInBounds_toArray, List.set_cons_zero, List.set_cons_succ])); ((refine ⟨_, undef, rfl, Or.inr ⟨by kernel_rfl, rfl⟩, ?_⟩); (try simp only [Act.put, List.getElem_toArray, List.getElem_cons_succ, List.getElem_cons_zero, List.setIfInBounds_toArray, List.set_cons_zero, List.set_cons_succ])); ((refine ⟨_, undef, rfl, Or.inr ⟨by kernel_rfl, rfl⟩, ?_⟩); (try simp only [Act.put, List.getElem_toArray, List.getElem_cons_succ, List.getElem_cons_zero, List.setIfInBounds_toArray, List.set_cons_zero, List.set_cons_succ]))
          exact rfl
        refine chain_skip (by kernel_rfl) (And.intro D3.out ?_)
        (try simp only [Act.put, List.getElem_toArray, List.getElem_cons_succ, List.getElem_cons_zero, List.setIfInBounds_toArray, List.set_cons_zero, List.set_cons_succ])
        refine ⟨_, _, rfl, rfl, ?_⟩
        refine chain_skip (by kernel_rfl) (And.intro D3.out ?_)
        (try simp only [Act.put, List.getElem_toArray, List.getElem_cons_succ, List.getElem_cons_zero, List.setIfInBounds_toArray, List.set_cons_zero, List.set_cons_succ])
        refine ⟨_, _, rfl, rfl, ?_⟩
        refine chain_skip (by kernel_rfl) (And.intro D3.out ?_)
        (try simp only [Act.put, List.getElem_toArray, List.getElem_cons_succ, List.getElem_cons_zero, List.setIfInBounds_toArray, List.set_cons_zero, List.set_cons_succ])
        refine ⟨?_, ?_, ?_⟩
        rotate_left
        · ((refine ⟨_, undef, rfl, Or.inr ⟨by kernel_rfl, rfl⟩, ?_⟩); (try simp only [Act.put, List.getElem_toArray, List.getElem_cons_succ, List.getElem_cons_zero, List.setIfInBounds_toArray, List.set_cons_zero, List.set_cons_succ])); ((refine ⟨_, ?_, rfl, Or.inl ⟨by rfl, ?_⟩, ?_⟩; rotate_left; focus (intro W hW; have hcW := (bcell hW).1; clear hW; go_simp; try with_reducible rfl)); (try simp only [Act.put, List.getElem_toArray, List.getElem_cons_succ, List.getElem_cons_zero, List.setIfInBounds_toArray, List.set_cons_zero, List.set_cons_succ])); ((refine ⟨_, ?_, rfl, Or.inl ⟨by rfl, ?_⟩, ?_⟩; rotate_left; focus (intro W hW; have hcW := (bcell hW).1; clear hW; go_simp; try with_reducible rfl)); (try simp only [Act.put, List.getElem_toArray, List.getElem_cons_succ, List.getElem_cons_zero, List.setIfInBounds_toArray, List.set_cons_zero, List.set_cons_succ]))
          exact rfl
        refine NoPanic.normal ?_
        go_wp2_with fail
        go_ret
        exact ⟨by rw [HE2.out]; rfl, E3.out.2⟩
      | true =>
        have HE2 : Hid (judgeB p c = decide (ordQ (rightsQ p c.y) (capQ (dotQ (p.goal.map fixQ) (c.x.map fixQ))) = 0)) := by unfold Hid; rw [HE1.out, hf, hb0]; rfl
        have l0 := (K1.out.blk 1 rfl).lt
        have l1 := (K1.out.blk 0 rfl).lt
        go_wp2_with fail
        refine wp_chainS (S := Below w1.heap.size w1) [([0, 1, 2], 3), ([4, 5, 6, 7, 8, 9], 10), ([11, 12, 13, 14, 15, 17, 18, 19, 20], 16), ([], 21), ([], 22)] [23, 24, 25] (by kernel_rfl) (by kernel_rfl) (by kernel_rfl) rfl (Below.drew (Below.refl _ _)) ?_
        refine ⟨?_, _, ?_, rfl, ?_⟩
        rotate_left
        · ((refine ⟨_, ?_, rfl, Or.inl ⟨by rfl, ?_⟩, ?_⟩; rotate_left; focus (intro W hW; have hcW := (bcell hW).1; clear hW; go_simp; try with_reducible rfl)); (try simp only [Act.put, List.getElem_toArray, List.getElem_cons_succ, List.getElem_cons_zero, List.setIfInBounds_toArray, List.set_cons_zero, List.set_cons_succ])); ((refine ⟨_, ?_, rfl, Or.inl ⟨by rfl, ?_⟩, ?_⟩; rotate_left; focus (intro W hW; have hcW := (bcell hW).1; clear hW; go_simp; try with_reducible rfl)); (try simp only [Act.put, List.getElem_toArray, List.getElem_cons_succ, List.getElem_cons_zero, List.setIfInBounds_toArray, List.set_cons_zero, List.set_cons_succ])); ((refine ⟨_, ?_, rfl, Or.inl ⟨by rfl, ?_⟩, ?_⟩; rotate_left; focus (intro W hW; have hcW := (bcell hW).1; clear hW; go_simp; try with_reducible rfl)); (try simp only [Act.put, List.getElem_toArray, List.getElem_cons_succ, List.getElem_cons_zero, List.setIfInBounds_toArray, List.set_cons_zero, List.set_cons_succ]))
          exact rfl
        have D0 : Hid (Below w1.heap.size w1 w1.drew) := Below.drew (Below.refl _ _)
        have E0 := Lib.hid (HS.step K1.out D0.out)
        go_wp2_with fail
        refine (calls_to (fits_calls _ _ _ p c.x (HP.out.of_below E0.out.2) (HX.out.below EF.stays E0.out.2) HR0.out) hf).mono ?_
        rintro e w2 ⟨rfl, hb⟩
        have D2 := Lib.hid (below_next D0.out hb)
        have E2 := Lib.hid (HS.step K1.out D2.out)
        clear hb
        go_wp2_with fail
        refine And.intro D2.out ⟨?_, _, ?_, rfl, ?_⟩
        rotate_left
        · ((refine ⟨_, ?_, rfl, Or.inl ⟨by rfl, ?_⟩, ?_⟩; rotate_left; focus (intro W hW; have hcW := (bcell hW).1; clear hW; go_simp; try with_reducible rfl)); (try simp only [Act.put, List.getElem_toArray, List.getElem_cons_succ, List.getElem_cons_zero, List.setIfInBounds_toArray, List.set_cons_zero, List.set_cons_succ])); ((refine ⟨_, ?_, rfl, Or.inl ⟨by rfl, ?_⟩, ?_⟩; rotate_left; focus (intro W hW; have hcW := (bcell hW).1; clear hW; go_simp; try with_reducible rfl)); (try simp only [Act.put, List.getElem_toArray, List.getElem_cons_succ, List.getElem_cons_zero, List.setIfInBounds_toArray, List.set_cons_zero, List.set_cons_succ])); ((refine ⟨_, ?_, rfl, Or.inl ⟨by rfl, ?_⟩, ?_⟩; rotate_left; focus (intro W hW; have hcW := (bcell hW).1; clear hW; go_simp; try with_reducible rfl)); (try simp only [Act.put, List.getElem_toArray, List.getElem_cons_succ, List.getElem_cons_zero, List.setIfInBounds_toArray, List.set_cons_zero, List.set_cons_succ])); ((refine ⟨_, ?_, rfl, Or.inl ⟨by rfl, ?_⟩, ?_⟩; rotate_left; focus (intro W hW; have hcW := (bcell hW).1; clear hW; go_simp; try with_reducible rfl)); (try simp only [Act.put, List.getElem_toArray, List.getElem_cons_succ, List.getElem_cons_zero, List.setIfInBounds_toArray, List.set_cons_zero, List.set_cons_succ])); ((refine ⟨_, ?_, rfl, Or.inl ⟨by rfl, ?_⟩, ?_⟩; rotate_left; focus (intro W hW; have hcW := (bcell hW).1; clear hW; go_simp; try with_reducible rfl)); (try simp only [Act.put, List.getElem_toArray, List.getElem_cons_succ, List.getElem_cons_zero, List.setIfInBounds_toArray, List.set_cons_zero, List.set_cons_succ])); ((refine ⟨_, ?_, rfl, Or.inl ⟨by rfl, ?_⟩, ?_⟩; rotate_left; focus (intro W hW; have hcW := (bcell hW).1; clear hW; go_simp; try with_reducible rfl)); (try simp only [Act.put, List.getElem_toArray, List.getElem_cons_succ, List.getElem_cons_zero, List.setIfInBounds_toArray, List.set_cons_zero, List.set_cons_succ]))
          exact rfl
        go_wp2_with fail
        refine (calls_to (bounds_calls _ _ _ p c.y (HP.out.of_below E2.out.2) (HY.out.below EF.stays E2.out.2) _ p.goal (H2.out.below EF.stays E2.out.2) HGV.out HR0.out hly) hb0).mono ?_
        rintro e w3 ⟨rfl, hb⟩
        have D3 := Lib.hid (below_next D2.out hb)
        have E3 := Lib.hid (HS.step K1.out D3.out)
        clear hb
        go_wp2_with fail
        refine And.intro D3.out ⟨?_, _, ?_, rfl, ?_⟩
        rotate_left
        · ((refine ⟨_, ?_, rfl, Or.inl ⟨by rfl, ?_⟩, ?_⟩; rotate_left; focus (intro W hW; have hcW := (bcell hW).1; clear hW; go_simp; try with_reducible rfl)); (try simp only [Act.put, List.getElem_toArray, List.getElem_cons_succ, List.getElem_cons_zero, List.setIfInBounds_toArray, List.set_cons_zero, List.set_cons_succ])); ((refine ⟨_, ?_, rfl, Or.inl ⟨by rfl, ?_⟩, ?_⟩; rotate_left; focus (intro W hW; have hcW := (bcell hW).1; clear hW; go_simp; try with_reducible rfl)); (try simp only [Act.put, List.getElem_toArray, List.getElem_cons_succ, List.getElem_cons_zero, List.setIfInBounds_toArray, List.set_cons_zero, List.set_cons_succ])); ((refine ⟨_, ?_, rfl, Or.inl ⟨by rfl, ?_⟩, ?_⟩; rotate_left; focus (intro W hW; have hcW := (bcell hW).1; clear hW; go_simp; try with_reducible rfl)); (try simp only [Act.put, List.getElem_toArray, List.getElem_cons_succ, List.getElem_cons_zero, List.setIfInBounds_toArray, List.set_cons_zero, List.set_cons_succ])); ((refine ⟨_, ?_, rfl, Or.inl ⟨by rfl, ?_⟩, ?_⟩; rotate_left; focus (intro W hW; have hcW := (bcell hW).1; clear hW; go_simp; try with_reducible rfl)); (try simp only [Act.put, List.getElem_toArray, List.getElem_cons_succ, List.getElem_cons_zero, List.setIfInBounds_toArray, List.set_cons_zero, List.set_cons_succ])); ((refine ⟨_, ?_, rfl, Or.inl ⟨by rfl, ?_⟩, ?_⟩; rotate_left; focus (intro W hW; have hcW := (bcell hW).1; clear hW; go_simp; try with_reducible rfl)); (try simp only [Act.put, List.getElem_toArray, List.getElem_cons_succ, List.getElem_cons_zero, List.setIfInBounds_toArray, List.set_cons_zero, List.set_cons_succ])); ((refine ⟨_, ?_, rfl, Or.inl ⟨by rfl, ?_⟩, ?_⟩; rotate_left; focus (intro W hW; have hcW := (bcell hW).1; clear hW; go_simp; try with_reducible rfl)); (try simp only [Act.put, List.getElem_toArray, List.getElem_cons_succ, List.getElem_cons_zero, List.setIfInBounds_toArray, List.set_cons_zero, List.set_cons_succ])); ((refine ⟨_, ?_, rfl, Or.inl ⟨by rfl, ?_⟩, ?_⟩; rotate_left; focus (intro W hW; have hcW := (bcell hW).1; clear hW; go_simp; try with_reducible rfl)); (try simp only [Act.put, List.getElem_toArray, List.getElem_cons_succ, List.getElem_cons_zero, List.setIfInBounds_toArray, List.set_cons_zero, List.set_cons_succ])); ((refine ⟨_, ?_, rfl, Or.inl ⟨by rfl, ?_⟩, ?_⟩; rotate_left; focus (intro W hW; have hcW := (bcell hW).1; clear hW; go_simp; try with_reducible rfl)); (try simp only [Act.put, List.getElem_toArray, List.getElem_cons_succ, List.getElem_cons_zero, List.setIfInBounds_toArray, List.set_cons_zero, List.set_cons_succ])); ((refine ⟨_, ?_, rfl, Or.inl ⟨by rfl, ?_⟩, ?_⟩; rotate_left; focus (intro W hW; have hcW := (bcell hW).1; clear hW; go_simp; try with_reducible rfl)); (try simp only [Act.put, List.getElem_toArray, List.getElem_cons_succ, List.getElem_cons_zero, List.setIfInBounds_toArray, List.set_cons_zero, List.set_cons_succ]))
          exact rfl
        go_wp2_with fail
        refine (rights_calls _ _ _ p c.y (HP.out.of_below E3.out.2) (HY.out.below EF.stays E3.out.2) hrw hly).mono ?_
        rintro e w4 ⟨v, rfl, hv, hb⟩
        obtain ⟨A5, n5, c5, A6, n6, c6, rfl, HV1⟩ := hv.opened
        have D4 := Lib.hid (below_next D3.out hb)
        have E4 := Lib.hid (HS.step K1.out D4.out)
        clear hv hb
        go_wp2_with fail
        refine And.intro D4.out ⟨_, _, rfl, rfl, ?_⟩
        go_wp2_with fail
        refine (fdot_calls _ _ _ p.goal c.x (H2.out.below EF.stays E4.out.2) (HX.out.below EF.stays E4.out.2) hgl hlx).mono ?_
        rintro e w5 ⟨v, rfl, hv, hb⟩
        obtain ⟨A7, n7, c7, A8, n8, c8, rfl, HV2⟩ := hv.opened
        have HV1' := Lib.hid (HV1.out.of_below hb)
        have D5 := Lib.hid (below_next D4.out hb)
        clear hv hb
        go_wp2_with fail
        refine And.intro D5.out ⟨_, _, rfl, rfl, ?_⟩
        go_wp2_with fail
        refine (fcmp_calls _ _ _ _ _ (FR.of_fq HV1'.out (capQ_size _)) (FR.of_fq HV2.out (capQ_size _))).mono ?_
        rintro e w6 ⟨rfl, hb⟩
        have e1 : fixQ (rawQ (rightsQ p c.y)) = rightsQ p c.y := fixQ_raw _ (capQ_size _)
        rw [e1, fix_cap]
        have D6 := Lib.hid (below_next D5.out hb)
        have E6 := Lib.hid (HS.step K1.out D6.out)
        clear hb e1
        go_wp2_with fail
        refine And.intro D6.out ⟨?_, ?_, ?_⟩
        rotate_left
        · ((refine ⟨_, ?_, rfl, Or.inl ⟨by rfl, ?_⟩, ?_⟩; rotate_left; focus (intro W hW; have hcW := (bcell hW).1; clear hW; go_simp; try with_reducible rfl)); (try simp only [Act.put, List.getElem_toArray, List.getElem_cons_succ, List.getElem_cons_zero, List.setIfInBounds_toArray, List.set_cons_zero, List.set_cons_succ])); ((refine ⟨_, ?_, rfl, Or.inl ⟨by rfl, ?_⟩, ?_⟩; rotate_left; focus (intro W hW; have hcW := (bcell hW).1; clear hW; go_simp; try with_reducible rfl)); (try simp only [Act.put, List.getElem_toArray, List.getElem_cons_succ, List.getElem_cons_zero, List.setIfInBounds_toArray, List.set_cons_zero, List.set_cons_succ])); ((refine ⟨_, ?_, rfl, Or.inl ⟨by rfl, ?_⟩, ?_⟩; rotate_left; focus (intro W hW; have hcW := (bcell hW).1; clear hW; go_simp; try with_reducible rfl)); (try simp only [Act.put, List.getElem_toArray, List.getElem_cons_succ, List.getElem_cons_zero, List.setIfInBounds_toArray, List.set_cons_zero, List.set_cons_succ]))
          exact rfl
        refine NoPanic.normal ?_
        go_wp2_with fail
        go_ret
        exact ⟨by rw [HE2.out]; rfl, E6.out.2⟩
  have t1 : (kd == 1) = false := bneI' k1
  by_cases k2 : kd = 2
  · have t2 : (kd == 2) = true := beqI' k2
    have HE1 : Hid (judgeB p c = (boundsB p c.y none && decide (signQ (rightsQ p c.y) < 0))) := by unfold Hid judgeB; rw [if_neg (by rw [HR0.out]; simp), if_neg (by rw [← HKD.out]; exact k1), if_pos (by rw [← HKD.out]; exact k2)]
    clear k1 k2
    go_wp2_with fail
    refine (bounds0_calls w1 _ _ p c.y (HP.out.of_below K1.out.2) (HY.out.below EF.stays K1.out.2) HR0.out hly).mono ?_
    rintro e w2 ⟨rfl, hb⟩
    have K2 := Lib.hid (K1.out.step hb)
    obtain ⟨x0, x1, x2, x3⟩ := K2.out.c4 1 rfl
    obtain ⟨y0, y1, y2, y3⟩ := K2.out.c4 0 rfl
    clear hb
    cases hb0 : boundsB p c.y none with
    | false =>
      have HE2 : Hid (judgeB p c = false) := by unfold Hid; rw [HE1.out, hb0]; rfl
      clear hb0
      go_wp2_with fail
      go_ret
      exact ⟨by rw [HE2.out]; rfl, K2.out.2⟩
    | true =>
      have HE2 : Hid (judgeB p c = decide (signQ (rightsQ p c.y) < 0)) := by unfold Hid; rw [HE1.out, hb0]; rfl
      clear hb0
      go_wp2_with fail
      refine (rights_calls w2 _ _ p c.y (HP.out.of_below K2.out.2) (HY.out.below EF.stays K2.out.2) hrw hly).mono ?_
      rintro e w3 ⟨v, rfl, hv, hb⟩
      obtain ⟨A5, n5, c5, A6, n6, c6, rfl, HV1⟩ := hv.opened
      have K3 := Lib.hid (K2.out.step hb)
      clear hv hb
      go_wp2_with fail
      refine (sgn_calls _ _ _ (FR.of_fq HV1.out (capQ_size _))).mono ?_
      rintro e w4 ⟨rfl, hb⟩
      have e1 : fixQ (rawQ (rightsQ p c.y)) = rightsQ p c.y := fixQ_raw _ (capQ_size _)
      rw [e1]
      have K4 := Lib.hid (K3.out.step hb)
      clear hb e1
      go_wp2_with fail
      go_ret
      exact ⟨by rw [HE2.out]; rfl, K4.out.2⟩
  have t2 : (kd == 2) = false := bneI' k2
  by_cases k3 : kd = 3
  · have t3 : (kd == 3) = true := beqI' k3
    have HE1 : Hid (judgeB p c = (fitsB p c.x && goesB p c.ray)) := by unfold Hid judgeB; rw [if_neg (by rw [HR0.out]; simp), if_neg (by rw [← HKD.out]; exact k1), if_neg (by rw [← HKD.out]; exact k2), if_pos (by rw [← HKD.out]; exact k3)]
    clear k1 k2 k3
    go_wp2_with fail
    refine (fits_calls w1 _ _ p c.x (HP.out.of_below K1.out.2) (HX.out.below EF.stays K1.out.2) HR0.out).mono ?_
    rintro e w2 ⟨rfl, hb⟩
    have K2 := Lib.hid (K1.out.step hb)
    obtain ⟨x0, x1, x2, x3⟩ := K2.out.c4 1 rfl
    obtain ⟨y0, y1, y2, y3⟩ := K2.out.c4 0 rfl
    clear hb
    cases hb0 : fitsB p c.x with
    | false =>
      have HE2 : Hid (judgeB p c = false) := by unfold Hid; rw [HE1.out, hb0]; rfl
      clear hb0
      go_wp2_with fail
      go_ret
      exact ⟨by rw [HE2.out]; rfl, K2.out.2⟩
    | true =>
      have HE2 : Hid (judgeB p c = goesB p c.ray) := by unfold Hid; rw [HE1.out, hb0]; rfl
      clear hb0
      go_wp2_with fail
      refine (goes_calls w2 _ _ p c.ray (HP.out.of_below K2.out.2) (HR.out.below EF.stays K2.out.2) HR0.out).mono ?_
      rintro e w3 ⟨rfl, hb⟩
      have K3 := Lib.hid (K2.out.step hb)
      clear hb
      go_wp2_with fail
      go_ret
      exact ⟨by rw [HE2.out]; rfl, K3.out.2⟩
  have t3 : (kd == 3) = false := bneI' k3
  have HE1 : Hid (judgeB p c = false) := by unfold Hid judgeB; rw [if_neg (by rw [HR0.out]; simp), if_neg (by rw [← HKD.out]; exact k1), if_neg (by rw [← HKD.out]; exact k2), if_neg (by rw [← HKD.out]; exact k3)]
  clear k1 k2 k3
  go_wp2_with fail
  go_ret
  exact ⟨by rw [HE1.out]; rfl, K1.out.2⟩
end Go.Proofs.Ytfhambfgjigneaa
set_option linter.unusedVariables false
set_option linter.unusedSimpArgs false
namespace Go.Proofs.Ytfhambfgjigneaa
open Go.RowKit
noncomputable def rsignsB (p : ProgF) (y : List RawF) : Bool := decide (y.length = p.rows.length) && signsB p.rows (y.map fixQ)
noncomputable def covOk (p : ProgF) (y : List Rat) (least : List RawF) (v : Nat) : Bool := !(decide (ordQ (colQ p.rows y v) (fixQ (nthF least v)) < 0) || (freeAt p v && decide (ordQ (colQ p.rows y v) (fixQ (nthF least v)) ≠ 0)))
noncomputable def coversB (p : ProgF) (y : List RawF) (least : List RawF) : Bool := (List.range p.vars.toNat).all (covOk p (y.map fixQ) least)
noncomputable def worL (rows : List RowF) (y : List Rat) : List Rat := List.zipWith (fun r q => q * fixQ r.b) rows y
noncomputable def worthQ (p : ProgF) (y : List RawF) : Rat := (worL p.rows (y.map fixQ)).foldl dotStep 0
theorem worthQ_size (p : ProgF) (y : List RawF) : sizeQ (worthQ p y) ≤ 4096 := by
  have h := rdot_cap (worL p.rows (y.map fixQ)) 0 capQ_zero
  unfold worthQ
  rw [← h]
  exact capQ_size _
set_option maxHeartbeats 32000000 in
set_option maxRecDepth 100000 in
theorem rsigns_calls (w : World) (v v2 : Value) (p : ProgF) (y : List RawF) (h : PR w v p) (h2 : FL w v2 y) (hr : rightP p = 0) (hy : y.length ≤ 100000) : Calls Try.prog 64 #[v, v2] w fun e w' => BPost w (rsignsB p y) e w' := by
  have hrl := rightP_len hr
  clear hr
  obtain ⟨A1, c1, A2, c2, A3, c3, rfl, HI, H1, H2, H3⟩ := h.opened
  obtain ⟨A4, c4, rfl, hc4⟩ := h2.slice
  have HY := Lib.hid h2
  clear h h2
  obtain ⟨vars, hv⟩ : ∃ n, n = p.vars := ⟨_, rfl⟩
  rw [← hv]
  have HV := Lib.hid hv
  have hfl : (p.free.length : Int) = vars := by rw [hv]; exact hrl.1
  have hv1 : 1 ≤ vars := by rw [hv]; exact hrl.2.2.1
  have hvl : vars ≤ 160 := by rw [hv]; exact hrl.2.2.2.1
  have hrw : p.rows.length ≤ 400 := hrl.2.2.2.2.1
  have HROW : Hid (∀ (r : RowF), r ∈ p.rows → (r.a.length : Int) = vars) := by unfold Hid; rw [hv]; exact fun r hm => (hrl.2.2.2.2.2 r hm).1
  clear hv hrl
  obtain ⟨n, hn⟩ : ∃ n : Nat, vars = (n : Int) := ⟨vars.toNat, by omega⟩
  subst hn
  have hn1 : 1 ≤ n := by omega
  have hn2 : n ≤ 160 := by omega
  have HFL : Hid (p.free.length = n) := by unfold Hid; omega
  have HVN : Hid (p.vars.toNat = n) := by unfold Hid; rw [← HV.out]; omega
  obtain ⟨ys, hys⟩ : ∃ ys, ys = y.map fixQ := ⟨_, rfl⟩
  have HYS := Lib.hid hys
  clear hfl hv1 hvl hys
  go_enter Try.func64, Try.ntmps64
  by_cases q1 : y.length = p.rows.length
  case neg =>
    have u1 : ((y.length : Int) != (p.rows.length : Int)) = true := bneI (by omega)
    have HE : Hid (rsignsB p y = false) := by unfold Hid rsignsB; rw [decide_eq_false q1]; rfl
    clear q1
    go_wp2_with fail
    go_ret
    exact ⟨by rw [HE.out]; rfl, below_new w _⟩
  have HE0 : Hid (rsignsB p y = signsB p.rows ys) := by unfold Hid rsignsB; rw [decide_eq_true q1, HYS.out]; rfl
  have HLEN := Lib.hid q1
  clear q1
  have hlr : p.rows.length = y.length := HLEN.out.symm
  have u1 : ((y.length : Int) != (p.rows.length : Int)) = false := beqI (by omega)
  clear hlr
  go_wp2_with fail
  have H0 := Lib.hid (HS.one (w := w) #[.int .i64 (n : Int), .slice A1 p.free.length c1, .slice A2 p.goal.length c2, .slice A3 p.rows.length c3] 26)
  generalize w.alloc (.cells #[.int .i64 (n : Int), .slice A1 p.free.length c1, .slice A2 p.goal.length c2, .slice A3 p.rows.length c3] 26) = W0 at *
  clear u1
  go_loopw [17] (fun vi wr => ∃ i : Nat, i ≤ p.rows.length ∧ vi = .int .i64 (i : Int) ∧ (∀ (j : Nat) (r : RowF) (q : Rat), j < i → p.rows[j]? = some r → ys[j]? = some q → badSign r.s q = false) ∧ HS w [(w.heap.size, 26, #[.int .i64 (n : Int), .slice A1 p.free.length c1, .slice A2 p.goal.length c2, .slice A3 p.rows.length c3])] wr) (fun vi _ => p.rows.length - (intOf vi).toNat)
  case atStart => exact ⟨0, Nat.zero_le _, rfl, fun j _ _ h => absurd h (Nat.not_lt_zero _), H0.out⟩
  case round =>
    obtain ⟨i, hi, rfl, hall, hk⟩ := hrel
    have HA := Lib.hid hall
    have HK := Lib.hid hk
    clear hall hk
    by_cases hlt : i < p.rows.length
    · obtain ⟨r, hr⟩ : ∃ r, p.rows[i]? = some r := ⟨p.rows[i], List.getElem?_eq_getElem hlt⟩
      have hly := HLEN.out
      obtain ⟨f, hf⟩ : ∃ f, y[i]? = some f := ⟨y[i]'(by omega), List.getElem?_eq_getElem _⟩
      obtain ⟨g1, o1, B1, d1, B2, n2, d2, B3, n3, d3, rfl, hg, k0, k1, k2, k3, k4, _, _, _⟩ := RL.at5 (H3.out.below ER.stays HK.out.2) hr
      obtain ⟨g2, o2, C1, l1, e1, C2, l2, e2, rfl, hg2, j0, j1, j2, HFE⟩ := FL.at3 (HY.out.below EF.stays HK.out.2) hf
      have HYI : Hid (ys[i]? = some (fixQ f)) := by unfold Hid; rw [HYS.out, List.getElem?_map, hf]; rfl
      have HRR := Lib.hid hr
      have m1 : (i : Int) < (p.rows.length : Int) := by omega
      have m2 : (i : Int) < (y.length : Int) := by omega
      have m3 : (i : Int).toNat = i := by omega
      have m4 : (0 : Int) ≤ (i : Int) := by omega
      obtain ⟨s, hs⟩ : ∃ s, s = r.s := ⟨_, rfl⟩
      rw [← hs] at k1
      have HSE := Lib.hid hs
      have hz0 := (HK.out.blk 0 rfl).lt
      clear hr hf hs hly
      go_wp2_with fail
      have HB1 := Lib.hid (below_new wr (.cells #[.slice B1 r.a.length d1, .int .i64 s, .bool r.b.neg, .slice B2 n2 d2, .slice B3 n3 d3] 65))
      have HKB1 := Lib.hid (Blk.new wr 65 #[.slice B1 r.a.length d1, .int .i64 s, .bool r.b.neg, .slice B2 n2 d2, .slice B3 n3 d3])
      generalize wr.alloc (.cells #[.slice B1 r.a.length d1, .int .i64 s, .bool r.b.neg, .slice B2 n2 d2, .slice B3 n3 d3] 65) = W1 at *
      refine (rsign_calls W1 _ f (HFE.out.of_below HB1.out)).mono ?_
      rintro e w2 ⟨rfl, hb⟩
      have HB2 := Lib.hid (below_next HB1.out hb)
      have z1 := (HKB1.out.below hb HKB1.out.lt).cell (j := 1) rfl
      clear hb
      obtain ⟨c, hc⟩ : ∃ c, c = signQ (fixQ f) := ⟨_, rfl⟩
      have HBAD : Hid (badSign r.s (fixQ f) = ((decide (s = -1) && decide (c < 0)) || (decide (s = 1) && decide (c > 0)))) := by unfold Hid badSign; rw [← HSE.out, ← hc]
      rw [← hc]
      clear hc
      have fin : ∀ wz, Below wr.heap.size wr wz → badSign r.s (fixQ f) = false → (∃ i', i' ≤ p.rows.length ∧ Value.int .i64 ((i : Int) + 1) = .int .i64 (i' : Int) ∧ (∀ (j : Nat) (r : RowF) (q : Rat), j < i' → p.rows[j]? = some r → ys[j]? = some q → badSign r.s q = false) ∧ HS w [(w.heap.size, 26, #[.int .i64 (n : Int), .slice A1 p.free.length c1, .slice A2 p.goal.length c2, .slice (some ⟨g1, o1, none⟩) p.rows.length c3])] wz) := fun wz hbz hgood => by
        refine ⟨i + 1, by omega, by go_num, fun j r' q' hj hr' hq' => ?_, HK.out.step hbz⟩
        by_cases hji : j = i
        · subst hji
          rw [HRR.out] at hr'
          rw [HYI.out] at hq'
          injection hr' with e1
          injection hq' with e2
          rw [← e1, ← e2]
          exact hgood
        · exact HA.out j r' q' (by omega) hr' hq'
      have HFin := Lib.hid fin
      have bad : badSign r.s (fixQ f) = true → rsignsB p y = false := fun h => by
        rw [HE0.out]
        exact zip_all_false HRR.out HYI.out (by rw [h]; rfl)
      have HBadR := Lib.hid bad
      clear fin bad
      by_cases s1 : s = -1
      · have t1 : (s == -1) = true := beqI' s1
        by_cases s2 : c < 0
        · have t2 : decide (c < 0) = true := decide_eq_true s2
          have HE2 := Lib.hid (HBadR.out (by rw [HBAD.out, decide_eq_true s1, t2]; rfl))
          clear s1 s2
          go_wp2_with fail
          go_ret
          exact ⟨by rw [HE2.out]; rfl, (HK.out.step HB2.out).2⟩
        · have t2 : decide (c < 0) = false := decide_eq_false s2
          have t3 : (s == 1) = false := bneI' (by omega)
          have HG : Hid (badSign r.s (fixQ f) = false) := by unfold Hid; rw [HBAD.out, t2, decide_eq_false (show ¬ s = 1 by omega)]; simp
          clear s1 s2
          go_wp2_with fail
          go_roundw
          case rel => exact HFin.out _ HB2.out HG.out
          case measure => simp [intOf]; omega
      · have t1 : (s == -1) = false := bneI' s1
        by_cases s3 : s = 1
        · have t3 : (s == 1) = true := beqI' s3
          by_cases s2 : c > 0
          · have t2 : decide (c > 0) = true := decide_eq_true s2
            have HE2 := Lib.hid (HBadR.out (by rw [HBAD.out, decide_eq_true s3, t2]; simp))
            clear s1 s2 s3
            go_wp2_with fail
            go_ret
            exact ⟨by rw [HE2.out]; rfl, (HK.out.step HB2.out).2⟩
          · have t2 : decide (c > 0) = false := decide_eq_false s2
            have HG : Hid (badSign r.s (fixQ f) = false) := by unfold Hid; rw [HBAD.out, t2, decide_eq_false s1]; simp
            clear s1 s2 s3
            go_wp2_with fail
            go_roundw
            case rel => exact HFin.out _ HB2.out HG.out
            case measure => simp [intOf]; omega
        · have t3 : (s == 1) = false := bneI' s3
          have HG : Hid (badSign r.s (fixQ f) = false) := by unfold Hid; rw [HBAD.out, decide_eq_false s1, decide_eq_false s3]; simp
          clear s1 s3
          go_wp2_with fail
          go_roundw
          case rel => exact HFin.out _ HB2.out HG.out
          case measure => simp [intOf]; omega
    · obtain rfl : i = p.rows.length := by omega
      have HE1 : Hid (rsignsB p y = true) := by
        unfold Hid
        rw [HE0.out]
        exact zip_all_true fun j r q h1 h2 => by
          rw [HA.out j r q (List.getElem?_eq_some_iff.1 h1).1 h1 h2]; rfl
      go_wp2_with fail
      go_ret
      exact ⟨by rw [HE1.out]; rfl, HK.out.2⟩
set_option maxHeartbeats 32000000 in
set_option maxRecDepth 100000 in
theorem rcovers_calls (w : World) (v v2 : Value) (p : ProgF) (y : List RawF) (h : PR w v p) (h2 : FL w v2 y) (v3 : Value) (g : List RawF) (hg3 : FL w v3 g) (hgl : (g.length : Int) = p.vars) (hr : rightP p = 0) (hy : y.length ≤ 100000) (hly0 : y.length = p.rows.length) : Calls Try.prog 65 #[v, v2, v3] w fun e w' => BPost w (coversB p y g) e w' := by
  have hrl := rightP_len hr
  clear hr
  obtain ⟨A1, c1, A2, c2, A3, c3, rfl, HI, H1, H2, H3⟩ := h.opened
  obtain ⟨A4, c4, rfl, hc4⟩ := h2.slice
  have HY := Lib.hid h2
  obtain ⟨A6, c6, rfl, hc6⟩ := hg3.slice
  have HG := Lib.hid hg3
  clear hg3
  clear h h2
  obtain ⟨vars, hv⟩ : ∃ n, n = p.vars := ⟨_, rfl⟩
  rw [← hv]
  have HV := Lib.hid hv
  have hfl : (p.free.length : Int) = vars := by rw [hv]; exact hrl.1
  have hv1 : 1 ≤ vars := by rw [hv]; exact hrl.2.2.1
  have hvl : vars ≤ 160 := by rw [hv]; exact hrl.2.2.2.1
  have hrw : p.rows.length ≤ 400 := hrl.2.2.2.2.1
  have HROW : Hid (∀ (r : RowF), r ∈ p.rows → (r.a.length : Int) = vars) := by unfold Hid; rw [hv]; exact fun r hm => (hrl.2.2.2.2.2 r hm).1
  have hgv : (g.length : Int) = vars := by rw [hv]; exact hgl
  have HGV := Lib.hid hgv
  clear hgv hgl
  clear hv hrl
  obtain ⟨n, hn⟩ : ∃ n : Nat, vars = (n : Int) := ⟨vars.toNat, by omega⟩
  subst hn
  have hn1 : 1 ≤ n := by omega
  have hn2 : n ≤ 160 := by omega
  have HFL : Hid (p.free.length = n) := by unfold Hid; omega
  have HVN : Hid (p.vars.toNat = n) := by unfold Hid; rw [← HV.out]; omega
  obtain ⟨ys, hys⟩ : ∃ ys, ys = y.map fixQ := ⟨_, rfl⟩
  have HYS := Lib.hid hys
  clear hfl hv1 hvl hys
  have HLEN := Lib.hid hly0
  have HE1 : Hid (coversB p y g = (List.range n).all (covOk p ys g)) := by unfold Hid coversB; rw [HYS.out, HVN.out]
  clear hly0
  go_enter Try.func65, Try.ntmps65
  go_wp2_with fail
  have H0 := Lib.hid (HS.one (w := w) #[.int .i64 (n : Int), .slice A1 p.free.length c1, .slice A2 p.goal.length c2, .slice A3 p.rows.length c3] 26)
  generalize w.alloc (.cells #[.int .i64 (n : Int), .slice A1 p.free.length c1, .slice A2 p.goal.length c2, .slice A3 p.rows.length c3] 26) = W0 at *
  go_loopw [7] (fun vi wr => ∃ i : Nat, i ≤ n ∧ vi = .int .i64 (i : Int) ∧ (∀ (j : Nat), j < i → covOk p ys g j = true) ∧ HS w [(w.heap.size, 26, #[.int .i64 (n : Int), .slice A1 p.free.length c1, .slice A2 p.goal.length c2, .slice A3 p.rows.length c3])] wr) (fun vi _ => n - (intOf vi).toNat)
  case atStart => exact ⟨0, Nat.zero_le _, rfl, fun j h => absurd h (Nat.not_lt_zero _), H0.out⟩
  case round =>
    obtain ⟨i, hi, rfl, hall, hk⟩ := hrel
    have HA := Lib.hid hall
    have HK2 := Lib.hid hk
    obtain ⟨x0, x1, x2, x3⟩ := HK2.out.c4 0 rfl
    have hltp := (HK2.out.blk 0 rfl).lt
    clear hall hk H0
    by_cases hlt : i < n
    case neg =>
      obtain rfl : i = n := by omega
      have HE2 : Hid (coversB p y g = true) := by unfold Hid; rw [HE1.out]; exact range_all_true HA.out
      go_wp2_with fail
      go_ret
      exact ⟨by rw [HE2.out]; rfl, HK2.out.2⟩
    have m1 : (i : Int) < (n : Int) := by omega
    go_wp2_with fail
    refine (rwhole0_calls wr).mono ?_
    rintro e w1 ⟨v, rfl, hv, hb⟩
    obtain ⟨D5, n5, d5, D6, n6, d6, rfl, HVZ⟩ := hv.opened
    have HK3 := Lib.hid (HK2.out.step hb)
    obtain ⟨x0, x1, x2, x3⟩ := HK3.out.c4 0 rfl
    have hlt2 := (HK3.out.blk 0 rfl).lt
    clear hv hb
    go_wp2_with fail
    clear x0 x1 x2 x3
    have HK4 := Lib.hid (HK3.out.more (.cells #[.bool (negQ 0), .slice D5 n5 d5, .slice D6 n6 d6] 40))
    have HA0 := Lib.hid (show AccF (w1.alloc (.cells #[.bool (negQ 0), .slice D5 n5 d5, .slice D6 n6 d6] 40)) w1.heap.size 0 from ⟨D5, n5, d5, D6, n6, d6, Blk.new _ _ _, HVZ.out.of_below (below_new _ _)⟩)
    obtain ⟨gz, hgz⟩ : ∃ gz, gz = w1.heap.size := ⟨_, rfl⟩
    rw [← hgz] at HA0
    have hzne : w.heap.size < gz := by omega
    generalize w1.alloc (.cells #[.bool (negQ 0), .slice D5 n5 d5, .slice D6 n6 d6] 40) = W2 at *
    rw [← hgz]
    clear hgz
    obtain ⟨ds, hds⟩ : ∃ ds, ds = colL p.rows ys i := ⟨_, rfl⟩
    have HDS := Lib.hid hds
    clear hds hlt2
    go_loopw [22] (fun vj wr => ∃ j : Nat, j ≤ p.rows.length ∧ vj = .int .i64 (j : Int) ∧ AccF wr gz ((ds.take j).foldl dotStep 0) ∧ HS w [(w.heap.size, 26, #[.int .i64 (n : Int), .slice A1 p.free.length c1, .slice A2 p.goal.length c2, .slice A3 p.rows.length c3])] wr) (fun vj _ => p.rows.length - (intOf vj).toNat)
    case atStart => exact ⟨0, Nat.zero_le _, rfl, HA0.out, HK4.out⟩
    case round =>
      obtain ⟨j, hj, rfl, hacc, hk⟩ := hrel
      have HA5 := Lib.hid hacc
      have HK5 := Lib.hid hk
      have hcap : capQ ((ds.take j).foldl dotStep 0) = (ds.take j).foldl dotStep 0 := rdot_cap _ _ capQ_zero
      obtain ⟨sm, hsm⟩ : ∃ s, s = (ds.take j).foldl dotStep 0 := ⟨_, rfl⟩
      rw [← hsm] at hcap HA5
      have HSM := Lib.hid hsm
      have HCAP := Lib.hid hcap
      clear hacc hk hsm hcap HA0 HK4 HK3
      by_cases hjlt : j < p.rows.length
      · obtain ⟨r, hr⟩ : ∃ r, p.rows[j]? = some r := ⟨p.rows[j], List.getElem?_eq_getElem hjlt⟩
        have hly := HLEN.out
        have hra := HROW.out r (List.mem_of_getElem? hr)
        obtain ⟨f, hf⟩ : ∃ f, y[j]? = some f := ⟨y[j]'(by omega), List.getElem?_eq_getElem _⟩
        obtain ⟨av, hav⟩ : ∃ f, r.a[i]? = some f := ⟨r.a[i]'(by omega), List.getElem?_eq_getElem _⟩
        obtain ⟨g1, o1, B1, d1, B2, n2, d2, B3, n3, d3, rfl, hg, k0, k1, k2, k3, k4, _, HRA, _⟩ := RL.at5 (H3.out.below ER.stays HK5.out.2) hr
        obtain ⟨g2, o2, C1, l1, e1, C2, l2, e2, rfl, hg2, j0, j1, j2, HFE⟩ := FL.at3 (HY.out.below EF.stays HK5.out.2) hf
        obtain ⟨g3, o3, C3, l3, e3, C4, l4, e4, rfl, hg3, q0, q1, q2, HAE⟩ := FL.at3 HRA.out hav
        have hdj : ds[j]? = some (fixQ f * fixQ av) := by rw [HDS.out, HYS.out]; unfold colL; simp [List.getElem?_zipWith, hr, hf, nthF_get hav]
        obtain ⟨pr, hpr⟩ : ∃ q, q = fixQ f * fixQ av := ⟨_, rfl⟩
        rw [← hpr] at hdj
        have HPR := Lib.hid hpr
        have HNX : Hid ((ds.take (j + 1)).foldl dotStep 0 = dotStep sm pr) := by
          unfold Hid
          rw [List.take_add_one, hdj]
          rw [show ds.take j ++ (some pr).toList = ds.take j ++ [pr] from rfl, fold_snoc, ← HSM.out]
        have n1 : (j : Int) < (p.rows.length : Int) := by omega
        have n2' : (j : Int) < (y.length : Int) := by omega
        have n3' : (j : Int).toNat = j := by omega
        have n4' : (0 : Int) ≤ (j : Int) := by omega
        have n5' : (i : Int) < (r.a.length : Int) := by omega
        have n6' : (i : Int).toNat = i := by omega
        have n7' : (0 : Int) ≤ (i : Int) := by omega
        obtain ⟨s, hs⟩ : ∃ s, s = r.s := ⟨_, rfl⟩
        rw [← hs] at k1
        have hz0 := (HK5.out.blk 0 rfl).lt
        clear hr hf hs hly hav hdj hpr hra
        go_wp2_with fail
        have HB1 := Lib.hid (below_new wr (.cells #[.slice (some ⟨g3, o3, none⟩) r.a.length d1, .int .i64 s, .bool r.b.neg, .slice B2 n2 d2, .slice B3 n3 d3] 65))
        have HKB1 := Lib.hid (Blk.new wr 65 #[.slice (some ⟨g3, o3, none⟩) r.a.length d1, .int .i64 s, .bool r.b.neg, .slice B2 n2 d2, .slice B3 n3 d3])
        obtain ⟨gr, hgr⟩ : ∃ gr, gr = wr.heap.size := ⟨_, rfl⟩
        rw [← hgr] at HKB1
        generalize wr.alloc (.cells #[.slice (some ⟨g3, o3, none⟩) r.a.length d1, .int .i64 s, .bool r.b.neg, .slice B2 n2 d2, .slice B3 n3 d3] 65) = W1 at *
        rw [← hgr]
        clear hgr
        have hkb2 := HKB1.out
        have z0 := hkb2.cell (j := 0) rfl
        have hzl := hkb2.lt
        clear hkb2
        have HB2 := HB1
        obtain ⟨w2, hw2⟩ : ∃ w2, w2 = W1 := ⟨_, rfl⟩
        rw [← hw2] at HB2 HB1 HKB1 z0 hzl ⊢
        clear hw2
        have HRound : Hid (∀ wz, AccF wz gz (dotStep sm pr) → HS w [(w.heap.size, 26, #[.int .i64 (n : Int), .slice A1 p.free.length c1, .slice A2 p.goal.length c2, .slice (some ⟨g1, o1, none⟩) p.rows.length c3])] wz → ∃ j', j' ≤ p.rows.length ∧ Value.int .i64 ((j : Int) + 1) = .int .i64 (j' : Int) ∧ AccF wz gz ((ds.take j').foldl dotStep 0) ∧ HS w [(w.heap.size, 26, #[.int .i64 (n : Int), .slice A1 p.free.length c1, .slice A2 p.goal.length c2, .slice (some ⟨g1, o1, none⟩) p.rows.length c3])] wz) := by
          intro wz h1 h2
          exact ⟨j + 1, by omega, by go_num, by rw [HNX.out]; exact h1, h2⟩
        have HA6 := Lib.hid (HA5.out.step HB2.out)
        have hb2c := (bcell HB2.out).1
        obtain ⟨E5, k5, f5, E6, k6, f6, hk, hR⟩ := HA6.out
        have HR1 := Lib.hid hR
        obtain ⟨a0, a1, a2⟩ := hk.c3
        obtain ⟨b0, b1, b2⟩ := hk.f3
        have hlt3 := hk.lt
        have HFE2 := Lib.hid (HFE.out.of_below HB2.out)
        have HAE2 := Lib.hid (HAE.out.of_below HB2.out)
        have HK6 := Lib.hid (HK5.out.step HB2.out)
        have j0' := (hb2c g2 _ hg2).trans j0
        have j1' := (hb2c g2 _ hg2).trans j1
        have j2' := (hb2c g2 _ hg2).trans j2
        have q0' := (hb2c g3 _ hg3).trans q0
        have q1' := (hb2c g3 _ hg3).trans q1
        have q2' := (hb2c g3 _ hg3).trans q2
        have hg2' : g2 < w2.heap.size := Nat.lt_of_lt_of_le hg2 HB2.out.size
        have hg3' : g3 < w2.heap.size := Nat.lt_of_lt_of_le hg3 HB2.out.size
        clear hR hk hb2c j0 j1 j2 q0 q1 q2 k0 k1 k2 k3 k4
        refine wp_chain (S := Below w2.heap.size w2) 12 [([0, 1, 2, 3, 4, 5, 6, 7, 8, 9], 10), ([], 11), ([], 12)] (by kernel_rfl) (by kernel_rfl) (by kernel_rfl) rfl (Below.drew (Below.refl _ _)) ?_
        refine ⟨?_, _, ?_, rfl, ?_⟩
        rotate_left
        · repeat (refine ⟨_, ?_, rfl, Or.inl ⟨by rfl, ?_⟩, ?_⟩; rotate_left; focus (intro W hW; have hcW := (bcell hW).1; clear hW; go_simp; try with_reducible rfl); (try simp only [Act.put, List.setIfInBounds_toArray, List.set_cons_zero, List.set_cons_succ]))
          exact rfl
        go_wp2_with fail
        refine (rmul_calls _ _ _ f av (HFE2.out.of_below (Below.drew (Below.refl _ _))) (HAE2.out.of_below (Below.drew (Below.refl _ _)))).mono ?_
        rintro e w7 ⟨v, rfl, hv, hb⟩
        rw [← HPR.out] at hv
        obtain ⟨A7, n7, c7, A8, n8, c8, rfl, HV5⟩ := hv.opened
        have HB7 := Lib.hid (below_next (Below.drew (Below.refl w2.heap.size w2)) hb)
        clear hv hb
        go_wp2_with fail
        refine And.intro HB7.out ⟨_, _, rfl, rfl, ?_⟩
        go_wp2_with fail
        refine (radd_calls _ _ _ _ _ (FR.of_fq (HR1.out.of_below HB7.out) (by rw [← HCAP.out]; exact capQ_size _)) (FR.of_fq HV5.out (capQ_size _))).mono ?_
        rintro e w8 ⟨v, rfl, hv, hb⟩
        have hpost : capQ (fixQ (rawQ sm) + fixQ (rawQ (capQ pr))) = dotStep sm pr := by
          rw [fixQ_raw _ (by rw [← HCAP.out]; exact capQ_size _), fixQ_raw _ (capQ_size _)]
          rfl
        rw [hpost] at hv
        obtain ⟨A9, n9, c9, A10, n10, c10, rfl, HV6⟩ := hv.opened
        have HB8 := Lib.hid (below_next HB7.out hb)
        clear hv hb hpost
        go_wp2_with fail
        refine And.intro HB8.out ⟨_, _, rfl, rfl, ?_⟩
        have HA8 := Lib.hid (HA6.out.step HB8.out)
        obtain ⟨_, _, _, _, _, _, hk5, _⟩ := HA8.out
        obtain ⟨y0, y1, y2⟩ := hk5.c3
        obtain ⟨f0, f1, f2⟩ := hk5.f3
        clear hk5
        go_wp2_with fail
        refine NoPanic.normal ?_
        go_wp2_with fail
        go_roundw
        case rel => exact HRound.out _ (HA8.out.put HV6.out) ((HK6.out.step HB8.out).other3 (by omega) (by simp; omega) _ _ _)
        case measure => simp [intOf]; omega
      · obtain rfl : j = p.rows.length := by omega
        have hly := HLEN.out
        have hzl : ds.take p.rows.length = ds := List.take_of_length_le (by rw [HDS.out, HYS.out]; unfold colL; rw [List.length_zipWith, List.length_map]; omega)
        have HCQ : Hid (colQ p.rows ys i = sm) := by unfold Hid colQ; rw [← HDS.out, HSM.out, hzl]
        clear hzl hly
        have hif : i < p.free.length := by have := HFL.out; omega
        obtain ⟨bf, hbf⟩ : ∃ b, p.free[i]? = some b := ⟨p.free[i], List.getElem?_eq_getElem hif⟩
        obtain ⟨g4, o4, rfl, hg4, kb⟩ := BL.at1 (H1.out.below EB.stays HK5.out.2) hbf
        have HFA : Hid (freeAt p i = bf) := by unfold Hid freeAt; rw [List.getD_eq_getElem?_getD, hbf]; rfl
        have m6 : (i : Int).toNat = i := by omega
        have m7 : (0 : Int) ≤ (i : Int) := by omega
        have m8 : (i : Int) < (p.free.length : Int) := by omega
        have HBF := Lib.hid hbf
        clear hbf hif
        obtain ⟨fg, hfg⟩ : ∃ f, g[i]? = some f := ⟨g[i]'(by have := HGV.out; omega), List.getElem?_eq_getElem _⟩
        obtain ⟨g5, o5, C5, l5, e5, C6, l6, e6, rfl, hg5, q0, q1, q2, HGE⟩ := FL.at3 (HG.out.below EF.stays HK5.out.2) hfg
        have m9 : (i : Int) < (g.length : Int) := by have := HGV.out; omega
        obtain ⟨c, hcv⟩ : ∃ c, c = ordQ sm (fixQ fg) := ⟨_, rfl⟩
        have HOK : Hid (covOk p ys g i = !(decide (c < 0) || (bf && decide (c ≠ 0)))) := by unfold Hid covOk; rw [HCQ.out, nthF_get hfg, ← hcv, HFA.out]
        have HCC := Lib.hid hcv
        obtain ⟨E5, k5, f5, E6, k6, f6, hk, hR⟩ := HA5.out
        have HR1 := Lib.hid hR
        obtain ⟨a0, a1, a2⟩ := hk.c3
        have hlt3 := hk.lt
        clear hR hk hfg hcv
        go_wp2_with fail
        refine wp_chainS (S := Below wr.heap.size wr) [([0, 1, 2, 3, 4], 5)] [6] (by kernel_rfl) (by kernel_rfl) (by kernel_rfl) rfl (Below.drew (Below.refl _ _)) ?_
        refine ⟨?_, _, ?_, rfl, ?_⟩
        rotate_left
        · repeat (refine ⟨_, ?_, rfl, Or.inl ⟨by rfl, ?_⟩, ?_⟩; rotate_left; focus (intro W hW; have hcW := (bcell hW).1; clear hW; go_simp; try with_reducible rfl); (try simp only [Act.put, List.setIfInBounds_toArray, List.set_cons_zero, List.set_cons_succ]))
          exact rfl
        go_wp2_with fail
        refine (rcmp_calls _ _ _ _ fg (FR.of_fq (HR1.out.of_below (Below.drew (Below.refl _ _))) (by rw [← HCAP.out]; exact capQ_size _)) (HGE.out.of_below (Below.drew (Below.refl _ _)))).mono ?_
        rintro e wE ⟨rfl, hb⟩
        rw [fixQ_raw _ (by rw [← HCAP.out]; exact capQ_size _), ← HCC.out]
        have HBE := Lib.hid (below_next (Below.drew (Below.refl wr.heap.size wr)) hb)
        have HKE := Lib.hid (HK5.out.step HBE.out)
        have kb' := ((bcell HBE.out).1 g4 _ hg4).trans kb
        clear hb kb a0 a1 a2 q0 q1 q2
        obtain ⟨x0, x1, x2, x3⟩ := HKE.out.c4 0 rfl
        have hltp := (HKE.out.blk 0 rfl).lt
        have HRound : Hid (∀ wz, Below wE.heap.size wE wz → covOk p ys g i = true → ∃ i', i' ≤ n ∧ Value.int .i64 ((i : Int) + 1) = .int .i64 (i' : Int) ∧ (∀ (j : Nat), j < i' → covOk p ys g j = true) ∧ HS w [(w.heap.size, 26, #[.int .i64 (n : Int), .slice (some ⟨g4, o4, none⟩) p.free.length c1, .slice A2 p.goal.length c2, .slice A3 p.rows.length c3])] wz) := by
          intro wz h1 h2
          refine ⟨i + 1, by omega, by go_num, fun j hj => ?_, HKE.out.step h1⟩
          by_cases hji : j = i
          · rw [hji]; exact h2
          · exact HA.out j (by omega)
        have finT : ∀ K : Prop, K → K := fun _ h => h
        go_wp2_with fail
        refine And.intro HBE.out ⟨?_, ?_, ?_⟩
        rotate_left
        · repeat (refine ⟨_, ?_, rfl, Or.inl ⟨by rfl, ?_⟩, ?_⟩; rotate_left; focus (intro W hW; have hcW := (bcell hW).1; clear hW; go_simp; try with_reducible rfl); (try simp only [Act.put, List.setIfInBounds_toArray, List.set_cons_zero, List.set_cons_succ]))
          exact rfl
        refine NoPanic.normal ?_
        clear finT
        by_cases s1 : c < 0
        · have t1 : decide (c < 0) = true := decide_eq_true s1
          have HE2 : Hid (coversB p y g = false) := by unfold Hid; rw [HE1.out]; exact range_all_false hlt (by rw [HOK.out, t1]; rfl)
          clear s1
          go_wp2_with fail
          go_ret
          exact ⟨by rw [HE2.out]; rfl, HKE.out.2⟩
        have t1 : decide (c < 0) = false := decide_eq_false s1
        cases bf with
        | false =>
          have HG2 : Hid (covOk p ys g i = true) := by unfold Hid; rw [HOK.out, t1]; rfl
          clear s1
          go_wp2_with fail
          go_roundw
          case rel => exact HRound.out _ (Below.refl _ _) HG2.out
          case measure => simp [intOf]; omega
        | true =>
          by_cases s2 : c = 0
          · have t2 : (c != 0) = false := beqI s2
            have HG2 : Hid (covOk p ys g i = true) := by unfold Hid; rw [HOK.out, t1, decide_eq_false (by simpa using s2)]; rfl
            clear s1 s2
            go_wp2_with fail
            go_roundw
            case rel => exact HRound.out _ (Below.refl _ _) HG2.out
            case measure => simp [intOf]; omega
          · have t2 : (c != 0) = true := bneI s2
            have HE2 : Hid (coversB p y g = false) := by unfold Hid; rw [HE1.out]; exact range_all_false hlt (by rw [HOK.out, t1, decide_eq_true s2]; rfl)
            clear s1 s2
            go_wp2_with fail
            go_ret
            exact ⟨by rw [HE2.out]; rfl, HKE.out.2⟩
end Go.Proofs.Ytfhambfgjigneaa
set_option linter.unusedVariables false
set_option linter.unusedSimpArgs false
namespace Go.Proofs.Ytfhambfgjigneaa
open Go.RowKit
set_option maxHeartbeats 16000000 in
set_option maxRecDepth 100000 in
theorem rworth_calls (w : World) (v v2 : Value) (p : ProgF) (y : List RawF) (h : PR w v p) (h2 : FL w v2 y) (hr : p.rows.length ≤ 400) (hy : y.length ≤ 100000) (hly0 : y.length = p.rows.length) : Calls Try.prog 66 #[v, v2] w fun e w' => FPost w (worthQ p y) e w' := by
  obtain ⟨A1, c1, A2, c2, A3, c3, rfl, HI, H1, H2, H3⟩ := h.opened
  obtain ⟨A4, c4, rfl, hc4⟩ := h2.slice
  have HY := Lib.hid h2
  clear h h2
  obtain ⟨vars, hv⟩ : ∃ n, n = p.vars := ⟨_, rfl⟩
  rw [← hv]
  clear hv
  have HLEN := Lib.hid hly0
  clear hly0
  obtain ⟨ds, hds⟩ : ∃ ds, ds = worL p.rows (y.map fixQ) := ⟨_, rfl⟩
  have HDS := Lib.hid hds
  rw [show worthQ p y = ds.foldl dotStep 0 from by rw [hds]; rfl]
  clear hds
  go_enter Try.func66, Try.ntmps66
  go_wp2_with fail
  have H0 := Lib.hid (HS.two (w := w) #[.int .i64 vars, .slice A1 p.free.length c1, .slice A2 p.goal.length c2, .slice A3 p.rows.length c3] #[.bool false, .slice none 0 0, .slice none 0 0] 26 40)
  have hsz0 : w.heap.size + 1 < ((w.alloc (.cells #[.int .i64 vars, .slice A1 p.free.length c1, .slice A2 p.goal.length c2, .slice A3 p.rows.length c3] 26)).alloc (.cells #[.bool false, .slice none 0 0, .slice none 0 0] 40)).heap.size := by simp
  generalize (w.alloc (.cells #[.int .i64 vars, .slice A1 p.free.length c1, .slice A2 p.goal.length c2, .slice A3 p.rows.length c3] 26)).alloc (.cells #[.bool false, .slice none 0 0, .slice none 0 0] 40) = W0 at *
  refine (rwhole0_calls W0).mono ?_
  rintro e w1 ⟨v, rfl, hv, hb⟩
  obtain ⟨A5, n5, c5, A6, n6, c6, rfl, HV⟩ := hv.opened
  have H1' := Lib.hid (H0.out.step hb)
  have hs1 := hb.size
  obtain ⟨x0, x1, x2, x3⟩ := H1'.out.c4 1 rfl
  have hlt1 := (H1'.out.blk 1 rfl).lt
  clear hv hb
  go_wp2_with fail
  clear x0 x1 x2 x3
  have HA1 := Lib.hid (show AccF (w1.alloc (.cells #[.bool (negQ 0), .slice A5 n5 c5, .slice A6 n6 c6] 40)) w1.heap.size 0 from ⟨A5, n5, c5, A6, n6, c6, Blk.new _ _ _, HV.out.of_below (below_new _ _)⟩)
  have H2' := Lib.hid (H1'.out.more (.cells #[.bool (negQ 0), .slice A5 n5 c5, .slice A6 n6 c6] 40))
  obtain ⟨gz, hgz⟩ : ∃ gz, gz = w1.heap.size := ⟨_, rfl⟩
  rw [← hgz] at HA1
  have h03 : w.heap.size + 1 < gz := by omega
  generalize w1.alloc (.cells #[.bool (negQ 0), .slice A5 n5 c5, .slice A6 n6 c6] 40) = W2 at *
  rw [← hgz]
  clear hgz
  go_loopw [12] (fun vi wr => ∃ i : Nat, i ≤ p.rows.length ∧ vi = .int .i64 (i : Int) ∧ AccF wr gz ((ds.take i).foldl dotStep 0) ∧ HS w [(w.heap.size + 1, 40, #[.bool false, .slice none 0 0, .slice none 0 0]), (w.heap.size, 26, #[.int .i64 vars, .slice A1 p.free.length c1, .slice A2 p.goal.length c2, .slice A3 p.rows.length c3])] wr) (fun vi _ => p.rows.length - (intOf vi).toNat)
  case atStart => exact ⟨0, Nat.zero_le _, rfl, HA1.out, H2'.out⟩
  case round =>
    obtain ⟨j, hj, rfl, hacc, hk⟩ := hrel
    have HA5 := Lib.hid hacc
    have HK5 := Lib.hid hk
    have hcap : capQ ((ds.take j).foldl dotStep 0) = (ds.take j).foldl dotStep 0 := rdot_cap _ _ capQ_zero
    obtain ⟨sm, hsm⟩ : ∃ s, s = (ds.take j).foldl dotStep 0 := ⟨_, rfl⟩
    rw [← hsm] at hcap HA5
    have HSM := Lib.hid hsm
    have HCAP := Lib.hid hcap
    clear hacc hk hsm hcap HA1 H2' H1' H0
    by_cases hjlt : j < p.rows.length
    · obtain ⟨r, hr'⟩ : ∃ r, p.rows[j]? = some r := ⟨p.rows[j], List.getElem?_eq_getElem hjlt⟩
      have hly := HLEN.out
      obtain ⟨f, hf⟩ : ∃ f, y[j]? = some f := ⟨y[j]'(by omega), List.getElem?_eq_getElem _⟩
      obtain ⟨g1, o1, B1, d1, B2, n2, d2, B3, n3, d3, rfl, hg, k0, k1, k2, k3, k4, _, _, HBE⟩ := RL.at5 (H3.out.below ER.stays HK5.out.2) hr'
      obtain ⟨g2, o2, C1, l1, e1, C2, l2, e2, rfl, hg2, j0, j1, j2, HFE⟩ := FL.at3 (HY.out.below EF.stays HK5.out.2) hf
      have hdj : ds[j]? = some (fixQ f * fixQ r.b) := by rw [HDS.out]; unfold worL; simp [List.getElem?_zipWith, hr', hf]
      obtain ⟨pr, hpr⟩ : ∃ q, q = fixQ f * fixQ r.b := ⟨_, rfl⟩
      rw [← hpr] at hdj
      have HPR := Lib.hid hpr
      have HNX : Hid ((ds.take (j + 1)).foldl dotStep 0 = dotStep sm pr) := by
        unfold Hid
        rw [List.take_add_one, hdj]
        rw [show ds.take j ++ (some pr).toList = ds.take j ++ [pr] from rfl, fold_snoc, ← HSM.out]
      have n1 : (j : Int) < (p.rows.length : Int) := by omega
      have n2' : (j : Int) < (y.length : Int) := by omega
      have n3' : (j : Int).toNat = j := by omega
      have n4' : (0 : Int) ≤ (j : Int) := by omega
      obtain ⟨s, hs⟩ : ∃ s, s = r.s := ⟨_, rfl⟩
      rw [← hs] at k1
      have hz0 := (HK5.out.blk 0 rfl).lt
      obtain ⟨_, _, _, _, _, _, hkz, _⟩ := HA5.out
      have hltz := hkz.lt
      clear hr' hf hs hly hdj hpr hkz
      go_wp2_with fail
      have HB1 := Lib.hid (below_new wr (.cells #[.slice B1 r.a.length d1, .int .i64 s, .bool r.b.neg, .slice B2 n2 d2, .slice B3 n3 d3] 65))
      have HKB1 := Lib.hid (Blk.new wr 65 #[.slice B1 r.a.length d1, .int .i64 s, .bool r.b.neg, .slice B2 n2 d2, .slice B3 n3 d3])
      obtain ⟨gr, hgr⟩ : ∃ gr, gr = wr.heap.size := ⟨_, rfl⟩
      rw [← hgr] at HKB1
      generalize wr.alloc (.cells #[.slice B1 r.a.length d1, .int .i64 s, .bool r.b.neg, .slice B2 n2 d2, .slice B3 n3 d3] 65) = W1 at *
      rw [← hgr]
      clear hgr
      have z2 := HKB1.out.cell (j := 2) rfl
      have z3 := HKB1.out.cell (j := 3) rfl
      have z4 := HKB1.out.cell (j := 4) rfl
      have hzl := HKB1.out.lt
      have HA6 := Lib.hid (HA5.out.step HB1.out)
      have hb2c := (bcell HB1.out).1
      obtain ⟨E5, k5, f5, E6, k6, f6, hk, hR⟩ := HA6.out
      have HR1 := Lib.hid hR
      obtain ⟨a0, a1, a2⟩ := hk.c3
      obtain ⟨b0, b1, b2⟩ := hk.f3
      have hlt3 := hk.lt
      have HFE2 := Lib.hid (HFE.out.of_below HB1.out)
      have HBE2 := Lib.hid (HBE.out.of_below HB1.out)
      have HK6 := Lib.hid (HK5.out.step HB1.out)
      have j0' := (hb2c g2 _ hg2).trans j0
      have j1' := (hb2c g2 _ hg2).trans j1
      have j2' := (hb2c g2 _ hg2).trans j2
      have hg2' : g2 < W1.heap.size := Nat.lt_of_lt_of_le hg2 HB1.out.size
      clear hR hk hb2c j0 j1 j2 k0 k1 k2 k3 k4
      refine wp_chain (S := Below W1.heap.size W1) 9 [([0, 1, 2, 3, 4, 5, 6], 7), ([], 8), ([], 9)] (by kernel_rfl) (by kernel_rfl) (by kernel_rfl) rfl (Below.drew (Below.refl _ _)) ?_
      refine ⟨?_, _, ?_, rfl, ?_⟩
      rotate_left
      · repeat (refine ⟨_, ?_, rfl, Or.inl ⟨by rfl, ?_⟩, ?_⟩; rotate_left; focus (intro W hW; have hcW := (bcell hW).1; clear hW; go_simp; try with_reducible rfl); (try simp only [Act.put, List.setIfInBounds_toArray, List.set_cons_zero, List.set_cons_succ]))
        exact rfl
      go_wp2_with fail
      refine (rmul_calls _ _ _ f r.b (HFE2.out.of_below (Below.drew (Below.refl _ _))) (HBE2.out.of_below (Below.drew (Below.refl _ _)))).mono ?_
      rintro e w7 ⟨v, rfl, hv, hb⟩
      rw [← HPR.out] at hv
      obtain ⟨A7, n7, c7, A8, n8, c8, rfl, HV5⟩ := hv.opened
      have HB7 := Lib.hid (below_next (Below.drew (Below.refl W1.heap.size W1)) hb)
      clear hv hb
      go_wp2_with fail
      refine And.intro HB7.out ⟨_, _, rfl, rfl, ?_⟩
      go_wp2_with fail
      refine (radd_calls _ _ _ _ _ (FR.of_fq (HR1.out.of_below HB7.out) (by rw [← HCAP.out]; exact capQ_size _)) (FR.of_fq HV5.out (capQ_size _))).mono ?_
      rintro e w8 ⟨v, rfl, hv, hb⟩
      have hpost : capQ (fixQ (rawQ sm) + fixQ (rawQ (capQ pr))) = dotStep sm pr := by
        rw [fixQ_raw _ (by rw [← HCAP.out]; exact capQ_size _), fixQ_raw _ (capQ_size _)]
        rfl
      rw [hpost] at hv
      obtain ⟨A9, n9, c9, A10, n10, c10, rfl, HV6⟩ := hv.opened
      have HB8 := Lib.hid (below_next HB7.out hb)
      clear hv hb hpost
      go_wp2_with fail
      refine And.intro HB8.out ⟨_, _, rfl, rfl, ?_⟩
      have HA8 := Lib.hid (HA6.out.step HB8.out)
      obtain ⟨_, _, _, _, _, _, hk5, _⟩ := HA8.out
      obtain ⟨y0, y1, y2⟩ := hk5.c3
      obtain ⟨f0, f1, f2⟩ := hk5.f3
      clear hk5
      go_wp2_with fail
      refine NoPanic.normal ?_
      go_wp2_with fail
      go_roundw
      case rel => exact ⟨j + 1, by omega, by go_num, by rw [HNX.out]; exact HA8.out.put HV6.out, (HK6.out.step HB8.out).other3 (by omega) (by simp; omega) _ _ _⟩
      case measure => simp [intOf]; omega
    · obtain rfl : j = p.rows.length := by omega
      have hly := HLEN.out
      have hzl : ds.take p.rows.length = ds := List.take_of_length_le (by rw [HDS.out]; unfold worL; rw [List.length_zipWith, List.length_map]; omega)
      have HCQ : Hid (ds.foldl dotStep 0 = sm) := by unfold Hid; rw [HSM.out, hzl]
      clear hzl hly
      obtain ⟨E5, k5, f5, E6, k6, f6, hk, hR⟩ := HA5.out
      have HR1 := Lib.hid hR
      obtain ⟨a0, a1, a2⟩ := hk.c3
      clear hR hk
      obtain ⟨e0, e1, e2⟩ := (HK5.out.blk 0 rfl).c3
      obtain ⟨f0, f1, f2⟩ := (HK5.out.blk 0 rfl).f3
      go_wp2_with fail
      rw [HCQ.out]
      exact end40 Try.results66 rfl (HK5.out.blk 0 rfl) HR1.out (by omega) HK5.out.2
noncomputable def rrowGoes (x : List Rat) (r : RowF) : Bool := rholdsB r.s (rdotQ (r.a.map fixQ) x) 0
noncomputable def rgoesB (p : ProgF) (x : List RawF) : Bool := decide ((x.length : Int) = p.vars) && (signedB p.free (x.map fixQ) && (p.rows.all (rrowGoes (x.map fixQ)) && decide (signQ (rdotQ (p.goal.map fixQ) (x.map fixQ)) > 0)))
theorem rholds0_calls (w : World) (s : Int) (v v2 : Value) (f : RawF) (h : FR w v f) (h2 : FQ w v2 0) : Calls Try.prog 60 #[v, .int .i64 s, v2] w fun e w' => BPost w (rholdsB s (fixQ f) 0) e w' := by
  have := rholds_calls w s v v2 f (rawQ 0) h (FR.of_fq h2 (by rw [sizeQ_zero]; decide))
  rw [fixQ_zero] at this
  exact this
set_option maxHeartbeats 16000000 in
set_option maxRecDepth 100000 in
theorem rgoes_calls (w : World) (v v2 : Value) (p : ProgF) (x : List RawF) (h : PR w v p) (h2 : FL w v2 x) (hr : rightP p = 0) : Calls Try.prog 67 #[v, v2] w fun e w' => BPost w (rgoesB p x) e w' := by
  have hrl := rightP_len hr
  clear hr
  have HP := Lib.hid h
  obtain ⟨A1, c1, A2, c2, A3, c3, rfl, HI, H1, H2, H3⟩ := h.opened
  obtain ⟨A4, c4, rfl, hc4⟩ := h2.slice
  have HX := Lib.hid h2
  clear h h2
  obtain ⟨vars, hv⟩ : ∃ n, n = p.vars := ⟨_, rfl⟩
  rw [← hv] at HP ⊢
  have HV := Lib.hid hv
  clear hv
  go_enter Try.func67, Try.ntmps67
  have hfl : (p.free.length : Int) = vars := by rw [HV.out]; exact hrl.1
  have hvl : vars ≤ 160 := by rw [HV.out]; exact hrl.2.2.2.1
  have hrw : p.rows.length ≤ 400 := hrl.2.2.2.2.1
  have HROW : Hid (∀ (r : RowF), r ∈ p.rows → (r.a.length : Int) = vars) := by unfold Hid; rw [HV.out]; exact fun r hm => (hrl.2.2.2.2.2 r hm).1
  have hgl : p.goal.length ≤ 100000 := by have := hrl.2.1; have := hrl.2.2.2.1; omega
  clear hrl
  by_cases q2 : (x.length : Int) = vars
  case neg =>
    have u2 : ((x.length : Int) != vars) = true := bneI q2
    have HE : Hid (rgoesB p x = false) := by unfold Hid rgoesB; rw [decide_eq_false (by rw [← HV.out]; exact q2)]; rfl
    clear q2 hfl
    go_wp2_with fail
    go_ret
    exact ⟨by rw [HE.out]; rfl, below_new w _⟩
  have u2 : ((x.length : Int) != vars) = false := beqI q2
  have HE1 : Hid (rgoesB p x = (signedB p.free (x.map fixQ) && (p.rows.all (rrowGoes (x.map fixQ)) && decide (signQ (rdotQ (p.goal.map fixQ) (x.map fixQ)) > 0)))) := by unfold Hid rgoesB; rw [decide_eq_true (by rw [← HV.out]; exact q2)]; rfl
  have hxl : x.length ≤ 100000 := by omega
  have hl : x.length = p.free.length := by omega
  have HXF := Lib.hid hl
  clear q2 hfl hl
  go_wp2_with fail
  have H0 := Lib.hid (HS.one (w := w) #[.int .i64 vars, .slice A1 p.free.length c1, .slice A2 p.goal.length c2, .slice A3 p.rows.length c3] 26)
  generalize w.alloc (.cells #[.int .i64 vars, .slice A1 p.free.length c1, .slice A2 p.goal.length c2, .slice A3 p.rows.length c3] 26) = W0 at *
  go_loopw [16] (fun vi wr => ∃ i : Nat, i ≤ x.length ∧ vi = .int .i64 (i : Int) ∧ (∀ (j : Nat) (b : Bool) (q : Rat), j < i → p.free[j]? = some b → (x.map fixQ)[j]? = some q → (b || !decide (signQ q < 0)) = true) ∧ HS w [(w.heap.size, 26, #[.int .i64 vars, .slice A1 p.free.length c1, .slice A2 p.goal.length c2, .slice A3 p.rows.length c3])] wr) (fun vi _ => x.length - (intOf vi).toNat)
  case atStart => exact ⟨0, Nat.zero_le _, rfl, fun j _ _ h => absurd h (Nat.not_lt_zero _), H0.out⟩
  case round =>
    obtain ⟨i, hi, rfl, hall, hk⟩ := hrel
    have HA := Lib.hid hall
    have HK := Lib.hid hk
    clear hall hk
    by_cases hlt : i < x.length
    · obtain ⟨f, hf⟩ : ∃ f, x[i]? = some f := ⟨x[i], List.getElem?_eq_getElem hlt⟩
      obtain ⟨b, hbf⟩ : ∃ b, p.free[i]? = some b := ⟨p.free[i], List.getElem?_eq_getElem (by have := HXF.out; omega)⟩
      obtain ⟨g, o, B1, n1, d1, B2, n2, d2, rfl, hg, k0, k1, k2, HE⟩ := FL.at3 (HX.out.below EF.stays HK.out.2) hf
      obtain ⟨g2, o2, rfl, hg2, kb⟩ := BL.at1 (H1.out.below EB.stays HK.out.2) hbf
      have HXI : Hid ((x.map fixQ)[i]? = some (fixQ f)) := by unfold Hid; rw [List.getElem?_map, hf]; rfl
      have HFI := Lib.hid hbf
      clear hf hbf
      have m1 : (i : Int) < (x.length : Int) := by omega
      have m2 : (i : Int) < (p.free.length : Int) := by have := HXF.out; omega
      have m3 : (i : Int).toNat = i := by omega
      have m4 : (0 : Int) ≤ (i : Int) := by omega
      obtain ⟨x0, x1, x2, x3⟩ := HK.out.c4 0 rfl
      have hz := (HK.out.blk 0 rfl).lt
      have fin : ∀ wz, Below wr.heap.size wr wz → (b || !decide (signQ (fixQ f) < 0)) = true → (∃ i', i' ≤ x.length ∧ Value.int .i64 ((i : Int) + 1) = .int .i64 (i' : Int) ∧ (∀ (j : Nat) (b : Bool) (q : Rat), j < i' → p.free[j]? = some b → (x.map fixQ)[j]? = some q → (b || !decide (signQ q < 0)) = true) ∧ HS w [(w.heap.size, 26, #[.int .i64 vars, .slice (some ⟨g2, o2, none⟩) p.free.length c1, .slice A2 p.goal.length c2, .slice A3 p.rows.length c3])] wz) := fun wz hbz hgood => by
        refine ⟨i + 1, by omega, by go_num, fun j b' q' hj hb' hq' => ?_, HK.out.step hbz⟩
        by_cases hji : j = i
        · subst hji
          rw [HFI.out] at hb'
          rw [HXI.out] at hq'
          injection hb' with e1
          injection hq' with e2
          rw [← e1, ← e2]
          exact hgood
        · exact HA.out j b' q' (by omega) hb' hq'
      have HFin := Lib.hid fin
      clear fin
      cases b with
      | true =>
        go_wp2_with fail
        go_roundw
        case rel => exact HFin.out _ (below_new _ _) rfl
        case measure => simp [intOf]; omega
      | false =>
        go_wp2_with fail
        have hb1 := below_new wr (.cells #[.bool f.neg, .slice B1 n1 d1, .slice B2 n2 d2] 40)
        refine (rsign_calls _ _ f (HE.out.of_below hb1)).mono ?_
        rintro e w2 ⟨rfl, hb2⟩
        have HB := Lib.hid (below_next hb1 hb2)
        clear hb1 hb2
        by_cases q1 : signQ (fixQ f) < 0
        · have u1 : decide (signQ (fixQ f) < 0) = true := decide_eq_true q1
          have HE2 : Hid (rgoesB p x = false) := by unfold Hid; rw [HE1.out, signedB_false HFI.out HXI.out (by rw [decide_eq_true q1]; rfl)]; rfl
          clear q1
          go_wp2_with fail
          go_ret
          exact ⟨by rw [HE2.out]; rfl, (HK.out.step HB.out).2⟩
        · have u1 : decide (signQ (fixQ f) < 0) = false := decide_eq_false q1
          have HG : Hid ((false || !decide (signQ (fixQ f) < 0)) = true) := by unfold Hid; rw [decide_eq_false q1]; rfl
          clear q1
          go_wp2_with fail
          go_roundw
          case rel => exact HFin.out _ HB.out HG.out
          case measure => simp [intOf]; omega
    · obtain rfl : i = x.length := by omega
      have HE2 : Hid (rgoesB p x = (p.rows.all (rrowGoes (x.map fixQ)) && decide (signQ (rdotQ (p.goal.map fixQ) (x.map fixQ)) > 0))) := by unfold Hid; rw [HE1.out, signedB_true (free := p.free) (x := x.map fixQ) fun j b q h1 h2 => HA.out j b q (by have := (List.getElem?_eq_some_iff.1 h2).1; simpa using this) h1 h2]; rfl
      obtain ⟨wo, hwo⟩ : ∃ wo, wo = wr := ⟨_, rfl⟩
      rw [← hwo] at HK ⊢
      obtain ⟨x0, x1, x2, x3⟩ := HK.out.c4 0 rfl
      clear hwo HA H0
      go_wp2_with fail
      clear x0 x1 x2 x3
      go_loopw [36] (fun vi wr => ∃ i : Nat, i ≤ p.rows.length ∧ vi = .int .i64 (i : Int) ∧ (∀ (j : Nat) (r : RowF), j < i → p.rows[j]? = some r → rrowGoes (x.map fixQ) r = true) ∧ HS w [(w.heap.size, 26, #[.int .i64 vars, .slice A1 p.free.length c1, .slice A2 p.goal.length c2, .slice A3 p.rows.length c3])] wr) (fun vi _ => p.rows.length - (intOf vi).toNat)
      case atStart => exact ⟨0, Nat.zero_le _, rfl, fun j _ h => absurd h (Nat.not_lt_zero _), HK.out⟩
      case round =>
        obtain ⟨i, hi, rfl, hall, hk⟩ := hrel
        have HA := Lib.hid hall
        have HK := Lib.hid hk
        clear hall hk
        by_cases hlt : i < p.rows.length
        · obtain ⟨r, hr⟩ : ∃ r, p.rows[i]? = some r := ⟨p.rows[i], List.getElem?_eq_getElem hlt⟩
          obtain ⟨g, o, B1, d1, B2, n2, d2, B3, n3, d3, rfl, hg, k0, k1, k2, k3, k4, HI', HA', HB'⟩ := RL.at5 (H3.out.below ER.stays HK.out.2) hr
          have hrl : r.a.length ≤ 100000 := by have := HROW.out r (List.mem_of_getElem? hr); omega
          have HRR := Lib.hid hr
          clear hr
          have m1 : (i : Int) < (p.rows.length : Int) := by omega
          have m3 : (i : Int).toNat = i := by omega
          have m4 : (0 : Int) ≤ (i : Int) := by omega
          obtain ⟨s, hs⟩ : ∃ s, s = r.s := ⟨_, rfl⟩
          rw [← hs] at k1
          have HSE := Lib.hid hs
          clear hs
          go_wp2_with fail
          have hb1 := below_new wr (.cells #[.slice B1 r.a.length d1, .int .i64 s, .bool r.b.neg, .slice B2 n2 d2, .slice B3 n3 d3] 65)
          have hk1 := Blk.new wr 65 #[.slice B1 r.a.length d1, .int .i64 s, .bool r.b.neg, .slice B2 n2 d2, .slice B3 n3 d3]
          have HB1 := Lib.hid hb1
          have z0 := hk1.cell (j := 0) rfl
          have z1 := hk1.cell (j := 1) rfl
          have z2 := hk1.cell (j := 2) rfl
          have z3 := hk1.cell (j := 3) rfl
          have z4 := hk1.cell (j := 4) rfl
          have hz := hk1.lt
          generalize wr.alloc (.cells #[.slice B1 r.a.length d1, .int .i64 s, .bool r.b.neg, .slice B2 n2 d2, .slice B3 n3 d3] 65) = W1 at *
          clear hk1 hb1
          refine wp_chainS (S := Below W1.heap.size W1) [([0, 1, 2, 4, 5], 3), ([], 6), ([], 7)] [8] (by kernel_rfl) (by kernel_rfl) (by kernel_rfl) rfl (Below.drew (Below.refl _ _)) ?_
          refine ⟨?_, _, ?_, rfl, ?_⟩
          rotate_left
          · repeat (refine ⟨_, ?_, rfl, Or.inl ⟨by rfl, ?_⟩, ?_⟩; rotate_left; focus (intro W hW; have hcW := (bcell hW).1; clear hW; go_simp; try with_reducible rfl); (try simp only [Act.put, List.setIfInBounds_toArray, List.set_cons_zero, List.set_cons_succ]))
            exact rfl
          have hbd : Below W1.heap.size W1 W1.drew := Below.drew (Below.refl _ _)
          have hbx := below_next HB1.out hbd
          have HBX := Lib.hid hbx
          go_wp2_with fail
          refine (rdot_calls _ _ _ r.a x (HA'.out.below EF.stays HBX.out) (HX.out.below EF.stays (HK.out.step HBX.out).2) hrl hxl).mono ?_
          rintro e w7 ⟨v, rfl, hv, hb⟩
          obtain ⟨A5, n5, c5, A6, n6, c6, rfl, HV5⟩ := hv.opened
          have HB7 := Lib.hid (below_next hbd hb)
          have HB17 := Lib.hid (below_next HB1.out HB7.out)
          clear hv hb hbd hbx
          go_wp2_with fail
          refine And.intro HB7.out ⟨_, _, rfl, rfl, ?_⟩
          go_wp2_with fail
          refine (rwhole0_calls _).mono ?_
          rintro e w9 ⟨v, rfl, hv, hb⟩
          obtain ⟨A7, n7, c7, A8, n8, c8, rfl, HV9⟩ := hv.opened
          have HV59 := Lib.hid (HV5.out.of_below hb)
          have HB9 := Lib.hid (below_next HB7.out hb)
          clear hv hb
          go_wp2_with fail
          refine And.intro HB9.out ⟨_, _, rfl, rfl, ?_⟩
          go_wp2_with fail
          refine (rholds0_calls _ s _ _ _ (FR.of_fq HV59.out (rdotQ_size _ _)) HV9.out).mono ?_
          rintro e w8 ⟨rfl, hb⟩
          have HB8 := Lib.hid (below_next HB9.out hb)
          have HB18 := Lib.hid (below_next HB1.out HB8.out)
          have HH : Hid (rholdsB s (fixQ (rawQ (rdotQ (r.a.map fixQ) (x.map fixQ)))) 0 = rrowGoes (x.map fixQ) r) := by unfold Hid rrowGoes; rw [fix_rdot, HSE.out]
          rw [HH.out]
          clear hb
          go_wp2_with fail
          refine And.intro HB8.out ⟨?_, ?_, ?_⟩
          rotate_left
          · repeat (refine ⟨_, ?_, rfl, Or.inl ⟨by rfl, ?_⟩, ?_⟩; rotate_left; focus (intro W hW; have hcW := (bcell hW).1; clear hW; go_simp; try with_reducible rfl); (try simp only [Act.put, List.setIfInBounds_toArray, List.set_cons_zero, List.set_cons_succ]))
            exact rfl
          refine NoPanic.normal ?_
          cases hb : rrowGoes (x.map fixQ) r with
          | false =>
            have HE3 : Hid (rgoesB p x = false) := by unfold Hid; rw [HE2.out, all_false HRR.out hb]; rfl
            clear hb
            go_wp2_with fail
            go_ret
            exact ⟨by rw [HE3.out]; rfl, (HK.out.step HB18.out).2⟩
          | true =>
            have HG := Lib.hid hb
            clear hb
            go_wp2_with fail
            go_roundw
            case rel =>
              refine ⟨i + 1, by omega, by go_num, fun j r' hj hr' => ?_, HK.out.step HB18.out⟩
              by_cases hji : j = i
              · rw [hji, HRR.out] at hr'
                injection hr' with e
                rw [← e]
                exact HG.out
              · exact HA.out j r' (by omega) hr'
            case measure => simp [intOf]; omega
        · obtain rfl : i = p.rows.length := by omega
          have HE3 : Hid (rgoesB p x = decide (signQ (rdotQ (p.goal.map fixQ) (x.map fixQ)) > 0)) := by unfold Hid; rw [HE2.out, all_true fun j r hr => HA.out j r (List.getElem?_eq_some_iff.1 hr).1 hr]; rfl
          obtain ⟨x0, x1, x2, x3⟩ := HK.out.c4 0 rfl
          go_wp2_with fail
          refine (rdot_calls _ _ _ p.goal x (H2.out.below EF.stays HK.out.2) (HX.out.below EF.stays HK.out.2) hgl hxl).mono ?_
          rintro e w7 ⟨v, rfl, hv, hb⟩
          obtain ⟨A7, n7, c7, A8, n8, c8, rfl, HV7⟩ := hv.opened
          have HK7 := Lib.hid (HK.out.step hb)
          clear hv hb
          go_wp2_with fail
          refine (rsign_calls _ _ _ (FR.of_fq HV7.out (rdotQ_size _ _))).mono ?_
          rintro e w8 ⟨rfl, hb⟩
          rw [fix_rdot]
          have HK8 := Lib.hid (HK7.out.step hb)
          clear hb
          go_wp2_with fail
          go_ret
          exact ⟨by rw [HE3.out]; rfl, HK8.out.2⟩
end Go.Proofs.Ytfhambfgjigneaa
set_option linter.unusedVariables false
set_option linter.unusedSimpArgs false
namespace Go.Proofs.Ytfhambfgjigneaa
open Go.RowKit
theorem rsignsB_len {p : ProgF} {y : List RawF} (h : rsignsB p y = true) : y.length = p.rows.length := by
  unfold rsignsB at h
  simp only [Bool.and_eq_true, decide_eq_true_eq] at h
  exact h.1
theorem rvalueP_size (p : ProgF) (x : List RawF) : sizeQ (rvalueP p x) ≤ 4096 := by
  unfold rvalueP
  split
  · rw [sizeQ_zero]; decide
  · exact rdotQ_size _ _
def zerosF (n : Nat) : List RawF := List.replicate n (rawQ 0)
noncomputable def rjudgeB (p : ProgF) (c : CertF) : Bool :=
  if rightP p ≠ 0 then false
  else if c.kind = 1 then rfitsP p c.x && (rsignsB p c.y && (coversB p c.y p.goal && decide (ordQ (worthQ p c.y) (rvalueP p c.x) = 0)))
  else if c.kind = 2 then rsignsB p c.y && (coversB p c.y (zerosF p.vars.toNat) && decide (signQ (worthQ p c.y) < 0))
  else if c.kind = 3 then rfitsP p c.x && rgoesB p c.ray
  else false
set_option maxHeartbeats 32000000 in
set_option maxRecDepth 100000 in
theorem rjudge_calls (w : World) (v v2 : Value) (p : ProgF) (c : CertF) (h : PR w v p) (h2 : CR w v2 c) (hlx : c.x.length ≤ 100000) (hly : c.y.length ≤ 100000) (hlr : c.ray.length ≤ 100000) : Calls Try.prog 29 #[v, v2] w fun e w' => BPost w (rjudgeB p c) e w' := by
  have HP := Lib.hid h
  have HC := Lib.hid h2
  obtain ⟨A1, c1, A2, c2, A3, c3, rfl, HI, H1, H2, H3⟩ := h.opened
  obtain ⟨B1, d1, B2, d2, B3, d3, rfl, HX, HY, HR⟩ := h2.opened
  clear h h2
  obtain ⟨vars, hv⟩ : ∃ n, n = p.vars := ⟨_, rfl⟩
  rw [← hv] at HP ⊢
  have HV := Lib.hid hv
  obtain ⟨kd, hkd⟩ : ∃ k, k = c.kind := ⟨_, rfl⟩
  rw [← hkd] at HC ⊢
  have HKD := Lib.hid hkd
  clear hv hkd
  go_enter Try.func29, Try.ntmps29
  go_wp2_with fail
  have H0 := Lib.hid (HS.two (w := w) #[.int .i64 vars, .slice A1 p.free.length c1, .slice A2 p.goal.length c2, .slice A3 p.rows.length c3] #[.int .i64 kd, .slice B1 c.x.length d1, .slice B2 c.y.length d2, .slice B3 c.ray.length d3] 26 44)
  have hsz0 : ((w.alloc (.cells #[.int .i64 vars, .slice A1 p.free.length c1, .slice A2 p.goal.length c2, .slice A3 p.rows.length c3] 26)).alloc (.cells #[.int .i64 kd, .slice B1 c.x.length d1, .slice B2 c.y.length d2, .slice B3 c.ray.length d3] 44)).heap.size = w.heap.size + 2 := by simp
  generalize (w.alloc (.cells #[.int .i64 vars, .slice A1 p.free.length c1, .slice A2 p.goal.length c2, .slice A3 p.rows.length c3] 26)).alloc (.cells #[.int .i64 kd, .slice B1 c.x.length d1, .slice B2 c.y.length d2, .slice B3 c.ray.length d3] 44) = W0 at *
  refine (r2right_calls W0 _ p (HP.out.of_below H0.out.2)).mono ?_
  rintro e w1 ⟨rfl, hb⟩
  have K1 := Lib.hid (H0.out.step hb)
  have hsz1 : w.heap.size + 2 ≤ w1.heap.size := by have := hb.size; omega
  obtain ⟨x0, x1, x2, x3⟩ := K1.out.c4 1 rfl
  obtain ⟨y0, y1, y2, y3⟩ := K1.out.c4 0 rfl
  clear hb hsz0
  by_cases q1 : rightP p = 0
  case neg =>
    have u1 : (rightP p != 0) = true := bneI q1
    have HE : Hid (rjudgeB p c = false) := by unfold Hid rjudgeB; rw [if_pos q1]
    clear q1
    go_wp2_with fail
    go_ret
    exact ⟨by rw [HE.out]; rfl, K1.out.2⟩
  have u1 : (rightP p != 0) = false := beqI q1
  have HR0 := Lib.hid q1
  have hrl := rightP_len q1
  have hrw : p.rows.length ≤ 400 := hrl.2.2.2.2.1
  have HGV : Hid ((p.goal.length : Int) = p.vars) := hrl.2.1
  have hv1 : 1 ≤ vars := by rw [HV.out]; exact hrl.2.2.1
  have hv2 : vars ≤ 160 := by rw [HV.out]; exact hrl.2.2.2.1
  clear q1 hrl
  by_cases k1 : kd = 1
  · have t1 : (kd == 1) = true := beqI' k1
    have HE1 : Hid (rjudgeB p c = (rfitsP p c.x && (rsignsB p c.y && (coversB p c.y p.goal && decide (ordQ (worthQ p c.y) (rvalueP p c.x) = 0))))) := by unfold Hid rjudgeB; rw [if_neg (by rw [HR0.out]; simp), if_pos (by rw [← HKD.out]; exact k1)]
    clear k1 hsz1 hv1 hv2
    cases hf : rfitsP p c.x with
    | false =>
      have HE2 : Hid (rjudgeB p c = false) := by unfold Hid; rw [HE1.out, hf]; rfl
      have l0 := (K1.out.blk 1 rfl).lt
      have l1 := (K1.out.blk 0 rfl).lt
      go_wp2_with fail
      refine wp_chainS (S := Below w1.heap.size w1) [([0, 1, 2], 3), ([4, 5, 6, 7], 8), ([9, 10, 11, 12, 13, 14, 15], 16), ([17, 18, 19, 20, 21, 23, 24, 25], 22), ([], 26), ([], 27)] [28, 29, 30] (by kernel_rfl) (by kernel_rfl) (by kernel_rfl) rfl (Below.drew (Below.refl _ _)) ?_
      refine ⟨?_, _, ?_, rfl, ?_⟩
      rotate_left
      · ((refine ⟨_, ?_, rfl, Or.inl ⟨by rfl, ?_⟩, ?_⟩; rotate_left; focus (intro W hW; have hcW := (bcell hW).1; clear hW; go_simp; try with_reducible rfl)); (try simp only [Act.put, List.getElem_toArray, List.getElem_cons_succ, List.getElem_cons_zero, List.setIfInBounds_toArray, List.set_cons_zero, List.set_cons_succ])); ((refine ⟨_, ?_, rfl, Or.inl ⟨by rfl, ?_⟩, ?_⟩; rotate_left; focus (intro W hW; have hcW := (bcell hW).1; clear hW; go_simp; try with_reducible rfl)); (try simp only [Act.put, List.getElem_toArray, List.getElem_cons_succ, List.getElem_cons_zero, List.setIfInBounds_toArray, List.set_cons_zero, List.set_cons_succ])); ((refine ⟨_, ?_, rfl, Or.inl ⟨by rfl, ?_⟩, ?_⟩; rotate_left; focus (intro W hW; have hcW := (bcell hW).1; clear hW; go_simp; try with_reducible rfl)); (try simp only [Act.put, List.getElem_toArray, List.getElem_cons_succ, List.getElem_cons_zero, List.setIfInBounds_toArray, List.set_cons_zero, List.set_cons_succ]))
        exact rfl
      have D0 : Hid (Below w1.heap.size w1 w1.drew) := Below.drew (Below.refl _ _)
      have E0 := Lib.hid (HS.step K1.out D0.out)
      go_wp2_with fail
      refine (calls_to (rfits_calls _ _ _ p c.x (HP.out.of_below E0.out.2) (HX.out.below EF.stays E0.out.2)) hf).mono ?_
      rintro e w2 ⟨rfl, hb⟩
      have D2 := Lib.hid (below_next D0.out hb)
      have E2 := Lib.hid (HS.step K1.out D2.out)
      clear hb
      go_wp2_with fail
      refine And.intro D2.out ?_
      refine ⟨?_, _, ?_, rfl, ?_⟩
      rotate_left
      · ((refine ⟨_, ?_, rfl, Or.inl ⟨by rfl, ?_⟩, ?_⟩; rotate_left; focus (intro W hW; have hcW := (bcell hW).1; clear hW; go_simp; try with_reducible rfl)); (try simp only [Act.put, List.getElem_toArray, List.getElem_cons_succ, List.getElem_cons_zero, List.setIfInBounds_toArray, List.set_cons_zero, List.set_cons_succ])); ((refine ⟨_, undef, rfl, Or.inr ⟨by kernel_rfl, rfl⟩, ?_⟩); (try simp only [Act.put, List.getElem_toArray, List.getElem_cons_succ, List.getElem_cons_zero, List.setIfInBounds_toArray, List.set_cons_zero, List.set_cons_succ])); ((refine ⟨_, undef, rfl, Or.inr ⟨by kernel_rfl, rfl⟩, ?_⟩); (try simp only [Act.put, List.getElem_toArray, List.getElem_cons_succ, List.getElem_cons_zero, List.setIfInBounds_toArray, List.set_cons_zero, List.set_cons_succ])); ((refine ⟨_, undef, rfl, Or.inr ⟨by kernel_rfl, rfl⟩, ?_⟩); (try simp only [Act.put, List.getElem_toArray, List.getElem_cons_succ, List.getElem_cons_zero, List.setIfInBounds_toArray, List.set_cons_zero, List.set_cons_succ]))
        exact rfl
      refine chain_skip (by kernel_rfl) (And.intro D2.out ?_)
      (try simp only [Act.put, List.getElem_toArray, List.getElem_cons_succ, List.getElem_cons_zero, List.setIfInBounds_toArray, List.set_cons_zero, List.set_cons_succ])
      refine ⟨?_, _, ?_, rfl, ?_⟩
      rotate_left
      · ((refine ⟨_, ?_, rfl, Or.inl ⟨by rfl, ?_⟩, ?_⟩; rotate_left; focus (intro W hW; have hcW := (bcell hW).1; clear hW; go_simp; try with_reducible rfl)); (try simp only [Act.put, List.getElem_toArray, List.getElem_cons_succ, List.getElem_cons_zero, List.setIfInBounds_toArray, List.set_cons_zero, List.set_cons_succ])); ((refine ⟨_, ?_, rfl, Or.inl ⟨by rfl, ?_⟩, ?_⟩; rotate_left; focus (intro W hW; have hcW := (bcell hW).1; clear hW; go_simp; try with_reducible rfl)); (try simp only [Act.put, List.getElem_toArray, List.getElem_cons_succ, List.getElem_cons_zero, List.setIfInBounds_toArray, List.set_cons_zero, List.set_cons_succ])); ((refine ⟨_, undef, rfl, Or.inr ⟨by kernel_rfl, rfl⟩, ?_⟩); (try simp only [Act.put, List.getElem_toArray, List.getElem_cons_succ, List.getElem_cons_zero, List.setIfInBounds_toArray, List.set_cons_zero, List.set_cons_succ])); ((refine ⟨_, undef, rfl, Or.inr ⟨by kernel_rfl, rfl⟩, ?_⟩); (try simp only [Act.put, List.getElem_toArray, List.getElem_cons_succ, List.getElem_cons_zero, List.setIfInBounds_toArray, List.set_cons_zero, List.set_cons_succ])); ((refine ⟨_, undef, rfl, Or.inr ⟨by kernel_rfl, rfl⟩, ?_⟩); (try simp only [Act.put, List.getElem_toArray, List.getElem_cons_succ, List.getElem_cons_zero, List.setIfInBounds_toArray, List.set_cons_zero, List.set_cons_succ])); ((refine ⟨_, undef, rfl, Or.inr ⟨by kernel_rfl, rfl⟩, ?_⟩); (try simp only [Act.put, List.getElem_toArray, List.getElem_cons_succ, List.getElem_cons_zero, List.setIfInBounds_toArray, List.set_cons_zero, List.set_cons_succ])); ((refine ⟨_, undef, rfl, Or.inr ⟨by kernel_rfl, rfl⟩, ?_⟩); (try simp only [Act.put, List.getElem_toArray, List.getElem_cons_succ, List.getElem_cons_zero, List.setIfInBounds_toArray, List.set_cons_zero, List.set_cons_succ]))
        exact rfl
      refine chain_skip (by kernel_rfl) (And.intro D2.out ?_)
      (try simp only [Act.put, List.getElem_toArray, List.getElem_cons_succ, List.getElem_cons_zero, List.setIfInBounds_toArray, List.set_cons_zero, List.set_cons_succ])
      refine ⟨?_, _, ?_, rfl, ?_⟩
      rotate_left
      · ((refine ⟨_, ?_, rfl, Or.inl ⟨by rfl, ?_⟩, ?_⟩; rotate_left; focus (intro W hW; have hcW := (bcell hW).1; clear hW; go_simp; try with_reducible rfl)); (try simp only [Act.put, List.getElem_toArray, List.getElem_cons_succ, List.getElem_cons_zero, List.setIfInBounds_toArray, List.set_cons_zero, List.set_cons_succ])); ((refine ⟨_, ?_, rfl, Or.inl ⟨by rfl, ?_⟩, ?_⟩; rotate_left; focus (intro W hW; have hcW := (bcell hW).1; clear hW; go_simp; try with_reducible rfl)); (try simp only [Act.put, List.getElem_toArray, List.getElem_cons_succ, List.getElem_cons_zero, List.setIfInBounds_toArray, List.set_cons_zero, List.set_cons_succ])); ((refine ⟨_, undef, rfl, Or.inr ⟨by kernel_rfl, rfl⟩, ?_⟩); (try simp only [Act.put, List.getElem_toArray, List.getElem_cons_succ, List.getElem_cons_zero, List.setIfInBounds_toArray, List.set_cons_zero, List.set_cons_succ])); ((refine ⟨_, undef, rfl, Or.inr ⟨by kernel_rfl, rfl⟩, ?_⟩); (try simp only [Act.put, List.getElem_toArray, List.getElem_cons_succ, List.getElem_cons_zero, List.setIfInBounds_toArray, List.set_cons_zero, List.set_cons_succ])); ((refine ⟨_, undef, rfl, Or.inr ⟨by kernel_rfl, rfl⟩, ?_⟩); (try simp only [Act.put, List.getElem_toArray, List.getElem_cons_succ, List.getElem_cons_zero, List.setIfInBounds_toArray, List.set_cons_zero, List.set_cons_succ])); ((refine ⟨_, undef, rfl, Or.inr ⟨by kernel_rfl, rfl⟩, ?_⟩); (try simp only [Act.put, List.getElem_toArray, List.getElem_cons_succ, List.getElem_cons_zero, List.setIfInBounds_toArray, List.set_cons_zero, List.set_cons_succ])); ((refine ⟨_, undef, rfl, Or.inr ⟨by kernel_rfl, rfl⟩, ?_⟩); (try simp only [Act.put, List.getElem_toArray, List.getElem_cons_succ, List.getElem_cons_zero, List.setIfInBounds_toArray, List.set_cons_zero, List.set_cons_succ])); ((refine ⟨_, undef, rfl, Or.inr ⟨by kernel_rfl, rfl⟩, ?_⟩); (try simp only [Act.put, List.getElem_toArray, List.getElem_cons_succ, List.getElem_cons_zero, List.setIfInBounds_toArray, List.set_cons_zero, List.set_cons_succ]))
        exact rfl
      refine chain_skip (by kernel_rfl) (And.intro D2.out ?_)
      (try simp only [Act.put, List.getElem_toArray, List.getElem_cons_succ, List.getElem_cons_zero, List.setIfInBounds_toArray, List.set_cons_zero, List.set_cons_succ])
      refine ⟨_, _, rfl, rfl, ?_⟩
      refine chain_skip (by kernel_rfl) (And.intro D2.out ?_)
      (try simp only [Act.put, List.getElem_toArray, List.getElem_cons_succ, List.getElem_cons_zero, List.setIfInBounds_toArray, List.set_cons_zero, List.set_cons_succ])
      refine ⟨_, _, rfl, rfl, ?_⟩
      refine chain_skip (by kernel_rfl) ?_
      refine And.intro D2.out ?_
      (try simp only [Act.put, List.getElem_toArray, List.getElem_cons_succ, List.getElem_cons_zero, List.setIfInBounds_toArray, List.set_cons_zero, List.set_cons_succ])
      refine ⟨?_, ?_, ?_⟩
      rotate_left
      · ((refine ⟨_, undef, rfl, Or.inr ⟨by kernel_rfl, rfl⟩, ?_⟩); (try simp only [Act.put, List.getElem_toArray, List.getElem_cons_succ, List.getElem_cons_zero, List.setIfInBounds_toArray, List.set_cons_zero, List.set_cons_succ])); ((refine ⟨_, ?_, rfl, Or.inl ⟨by rfl, ?_⟩, ?_⟩; rotate_left; focus (intro W hW; have hcW := (bcell hW).1; clear hW; go_simp; try with_reducible rfl)); (try simp only [Act.put, List.getElem_toArray, List.getElem_cons_succ, List.getElem_cons_zero, List.setIfInBounds_toArray, List.set_cons_zero, List.set_cons_succ])); ((refine ⟨_, ?_, rfl, Or.inl ⟨by rfl, ?_⟩, ?_⟩; rotate_left; focus (intro W hW; have hcW := (bcell hW).1; clear hW; go_simp; try with_reducible rfl)); (try simp only [Act.put, List.getElem_toArray, List.getElem_cons_succ, List.getElem_cons_zero, List.setIfInBounds_toArray, List.set_cons_zero, List.set_cons_succ]))
        exact rfl
      refine NoPanic.normal ?_
      go_wp2_with fail
      go_ret
      exact ⟨by rw [HE2.out]; rfl, E2.out.2⟩
    | true =>
      cases hs0 : rsignsB p c.y with
      | false =>
        have HE2 : Hid (rjudgeB p c = false) := by unfold Hid; rw [HE1.out, hf, hs0]; rfl
        have l0 := (K1.out.blk 1 rfl).lt
        have l1 := (K1.out.blk 0 rfl).lt
        go_wp2_with fail
        refine wp_chainS (S := Below w1.heap.size w1) [([0, 1, 2], 3), ([4, 5, 6, 7], 8), ([9, 10, 11, 12, 13, 14, 15], 16), ([17, 18, 19, 20, 21, 23, 24, 25], 22), ([], 26), ([], 27)] [28, 29, 30] (by kernel_rfl) (by kernel_rfl) (by kernel_rfl) rfl (Below.drew (Below.refl _ _)) ?_
        refine ⟨?_, _, ?_, rfl, ?_⟩
        rotate_left
        · ((refine ⟨_, ?_, rfl, Or.inl ⟨by rfl, ?_⟩, ?_⟩; rotate_left; focus (intro W hW; have hcW := (bcell hW).1; clear hW; go_simp; try with_reducible rfl)); (try simp only [Act.put, List.getElem_toArray, List.getElem_cons_succ, List.getElem_cons_zero, List.setIfInBounds_toArray, List.set_cons_zero, List.set_cons_succ])); ((refine ⟨_, ?_, rfl, Or.inl ⟨by rfl, ?_⟩, ?_⟩; rotate_left; focus (intro W hW; have hcW := (bcell hW).1; clear hW; go_simp; try with_reducible rfl)); (try simp only [Act.put, List.getElem_toArray, List.getElem_cons_succ, List.getElem_cons_zero, List.setIfInBounds_toArray, List.set_cons_zero, List.set_cons_succ])); ((refine ⟨_, ?_, rfl, Or.inl ⟨by rfl, ?_⟩, ?_⟩; rotate_left; focus (intro W hW; have hcW := (bcell hW).1; clear hW; go_simp; try with_reducible rfl)); (try simp only [Act.put, List.getElem_toArray, List.getElem_cons_succ, List.getElem_cons_zero, List.setIfInBounds_toArray, List.set_cons_zero, List.set_cons_succ]))
          exact rfl
        have D0 : Hid (Below w1.heap.size w1 w1.drew) := Below.drew (Below.refl _ _)
        have E0 := Lib.hid (HS.step K1.out D0.out)
        go_wp2_with fail
        refine (calls_to (rfits_calls _ _ _ p c.x (HP.out.of_below E0.out.2) (HX.out.below EF.stays E0.out.2)) hf).mono ?_
        rintro e w2 ⟨rfl, hb⟩
        have D2 := Lib.hid (below_next D0.out hb)
        have E2 := Lib.hid (HS.step K1.out D2.out)
        clear hb
        go_wp2_with fail
        refine And.intro D2.out ?_
        refine ⟨?_, _, ?_, rfl, ?_⟩
        rotate_left
        · ((refine ⟨_, ?_, rfl, Or.inl ⟨by rfl, ?_⟩, ?_⟩; rotate_left; focus (intro W hW; have hcW := (bcell hW).1; clear hW; go_simp; try with_reducible rfl)); (try simp only [Act.put, List.getElem_toArray, List.getElem_cons_succ, List.getElem_cons_zero, List.setIfInBounds_toArray, List.set_cons_zero, List.set_cons_succ])); ((refine ⟨_, ?_, rfl, Or.inl ⟨by rfl, ?_⟩, ?_⟩; rotate_left; focus (intro W hW; have hcW := (bcell hW).1; clear hW; go_simp; try with_reducible rfl)); (try simp only [Act.put, List.getElem_toArray, List.getElem_cons_succ, List.getElem_cons_zero, List.setIfInBounds_toArray, List.set_cons_zero, List.set_cons_succ])); ((refine ⟨_, ?_, rfl, Or.inl ⟨by rfl, ?_⟩, ?_⟩; rotate_left; focus (intro W hW; have hcW := (bcell hW).1; clear hW; go_simp; try with_reducible rfl)); (try simp only [Act.put, List.getElem_toArray, List.getElem_cons_succ, List.getElem_cons_zero, List.setIfInBounds_toArray, List.set_cons_zero, List.set_cons_succ])); ((refine ⟨_, ?_, rfl, Or.inl ⟨by rfl, ?_⟩, ?_⟩; rotate_left; focus (intro W hW; have hcW := (bcell hW).1; clear hW; go_simp; try with_reducible rfl)); (try simp only [Act.put, List.getElem_toArray, List.getElem_cons_succ, List.getElem_cons_zero, List.setIfInBounds_toArray, List.set_cons_zero, List.set_cons_succ]))
          exact rfl
        go_wp2_with fail
        refine (calls_to (rsigns_calls _ _ _ p c.y (HP.out.of_below E2.out.2) (HY.out.below EF.stays E2.out.2) HR0.out hly) hs0).mono ?_
        rintro e w3 ⟨rfl, hb⟩
        have D3 := Lib.hid (below_next D2.out hb)
        have E3 := Lib.hid (HS.step K1.out D3.out)
        clear hb
        go_wp2_with fail
        refine And.intro D3.out ?_
        refine ⟨?_, _, ?_, rfl, ?_⟩
        rotate_left
        · ((refine ⟨_, ?_, rfl, Or.inl ⟨by rfl, ?_⟩, ?_⟩; rotate_left; focus (intro W hW; have hcW := (bcell hW).1; clear hW; go_simp; try with_reducible rfl)); (try simp only [Act.put, List.getElem_toArray, List.getElem_cons_succ, List.getElem_cons_zero, List.setIfInBounds_toArray, List.set_cons_zero, List.set_cons_succ])); ((refine ⟨_, ?_, rfl, Or.inl ⟨by rfl, ?_⟩, ?_⟩; rotate_left; focus (intro W hW; have hcW := (bcell hW).1; clear hW; go_simp; try with_reducible rfl)); (try simp only [Act.put, List.getElem_toArray, List.getElem_cons_succ, List.getElem_cons_zero, List.setIfInBounds_toArray, List.set_cons_zero, List.set_cons_succ])); ((refine ⟨_, undef, rfl, Or.inr ⟨by kernel_rfl, rfl⟩, ?_⟩); (try simp only [Act.put, List.getElem_toArray, List.getElem_cons_succ, List.getElem_cons_zero, List.setIfInBounds_toArray, List.set_cons_zero, List.set_cons_succ])); ((refine ⟨_, undef, rfl, Or.inr ⟨by kernel_rfl, rfl⟩, ?_⟩); (try simp only [Act.put, List.getElem_toArray, List.getElem_cons_succ, List.getElem_cons_zero, List.setIfInBounds_toArray, List.set_cons_zero, List.set_cons_succ])); ((refine ⟨_, undef, rfl, Or.inr ⟨by kernel_rfl, rfl⟩, ?_⟩); (try simp only [Act.put, List.getElem_toArray, List.getElem_cons_succ, List.getElem_cons_zero, List.setIfInBounds_toArray, List.set_cons_zero, List.set_cons_succ])); ((refine ⟨_, undef, rfl, Or.inr ⟨by kernel_rfl, rfl⟩, ?_⟩); (try simp only [Act.put, List.getElem_toArray, List.getElem_cons_succ, List.getElem_cons_zero, List.setIfInBounds_toArray, List.set_cons_zero, List.set_cons_succ])); ((refine ⟨_, undef, rfl, Or.inr ⟨by kernel_rfl, rfl⟩, ?_⟩); (try simp only [Act.put, List.getElem_toArray, List.getElem_cons_succ, List.getElem_cons_zero, List.setIfInBounds_toArray, List.set_cons_zero, List.set_cons_succ]))
          exact rfl
        refine chain_skip (by kernel_rfl) (And.intro D3.out ?_)
        (try simp only [Act.put, List.getElem_toArray, List.getElem_cons_succ, List.getElem_cons_zero, List.setIfInBounds_toArray, List.set_cons_zero, List.set_cons_succ])
        refine ⟨?_, _, ?_, rfl, ?_⟩
        rotate_left
        · ((refine ⟨_, ?_, rfl, Or.inl ⟨by rfl, ?_⟩, ?_⟩; rotate_left; focus (intro W hW; have hcW := (bcell hW).1; clear hW; go_simp; try with_reducible rfl)); (try simp only [Act.put, List.getElem_toArray, List.getElem_cons_succ, List.getElem_cons_zero, List.setIfInBounds_toArray, List.set_cons_zero, List.set_cons_succ])); ((refine ⟨_, ?_, rfl, Or.inl ⟨by rfl, ?_⟩, ?_⟩; rotate_left; focus (intro W hW; have hcW := (bcell hW).1; clear hW; go_simp; try with_reducible rfl)); (try simp only [Act.put, List.getElem_toArray, List.getElem_cons_succ, List.getElem_cons_zero, List.setIfInBounds_toArray, List.set_cons_zero, List.set_cons_succ])); ((refine ⟨_, undef, rfl, Or.inr ⟨by kernel_rfl, rfl⟩, ?_⟩); (try simp only [Act.put, List.getElem_toArray, List.getElem_cons_succ, List.getElem_cons_zero, List.setIfInBounds_toArray, List.set_cons_zero, List.set_cons_succ])); ((refine ⟨_, undef, rfl, Or.inr ⟨by kernel_rfl, rfl⟩, ?_⟩); (try simp only [Act.put, List.getElem_toArray, List.getElem_cons_succ, List.getElem_cons_zero, List.setIfInBounds_toArray, List.set_cons_zero, List.set_cons_succ])); ((refine ⟨_, undef, rfl, Or.inr ⟨by kernel_rfl, rfl⟩, ?_⟩); (try simp only [Act.put, List.getElem_toArray, List.getElem_cons_succ, List.getElem_cons_zero, List.setIfInBounds_toArray, List.set_cons_zero, List.set_cons_succ])); ((refine ⟨_, undef, rfl, Or.inr ⟨by kernel_rfl, rfl⟩, ?_⟩); (try simp only [Act.put, List.getElem_toArray, List.getElem_cons_succ, List.getElem_cons_zero, List.setIfInBounds_toArray, List.set_cons_zero, List.set_cons_succ])); ((refine ⟨_, undef, rfl, Or.inr ⟨by kernel_rfl, rfl⟩, ?_⟩); (try simp only [Act.put, List.getElem_toArray, List.getElem_cons_succ, List.getElem_cons_zero, List.setIfInBounds_toArray, List.set_cons_zero, List.set_cons_succ])); ((refine ⟨_, undef, rfl, Or.inr ⟨by kernel_rfl, rfl⟩, ?_⟩); (try simp only [Act.put, List.getElem_toArray, List.getElem_cons_succ, List.getElem_cons_zero, List.setIfInBounds_toArray, List.set_cons_zero, List.set_cons_succ]))
          exact rfl
        refine chain_skip (by kernel_rfl) (And.intro D3.out ?_)
        (try simp only [Act.put, List.getElem_toArray, List.getElem_cons_succ, List.getElem_cons_zero, List.setIfInBounds_toArray, List.set_cons_zero, List.set_cons_succ])
        refine ⟨_, _, rfl, rfl, ?_⟩
        refine chain_skip (by kernel_rfl) (And.intro D3.out ?_)
        (try simp only [Act.put, List.getElem_toArray, List.getElem_cons_succ, List.getElem_cons_zero, List.setIfInBounds_toArray, List.set_cons_zero, List.set_cons_succ])
        refine ⟨_, _, rfl, rfl, ?_⟩
        refine chain_skip (by kernel_rfl) ?_
        refine And.intro D3.out ?_
        (try simp only [Act.put, List.getElem_toArray, List.getElem_cons_succ, List.getElem_cons_zero, List.setIfInBounds_toArray, List.set_cons_zero, List.set_cons_succ])
        refine ⟨?_, ?_, ?_⟩
        rotate_left
        · ((refine ⟨_, undef, rfl, Or.inr ⟨by kernel_rfl, rfl⟩, ?_⟩); (try simp only [Act.put, List.getElem_toArray, List.getElem_cons_succ, List.getElem_cons_zero, List.setIfInBounds_toArray, List.set_cons_zero, List.set_cons_succ])); ((refine ⟨_, ?_, rfl, Or.inl ⟨by rfl, ?_⟩, ?_⟩; rotate_left; focus (intro W hW; have hcW := (bcell hW).1; clear hW; go_simp; try with_reducible rfl)); (try simp only [Act.put, List.getElem_toArray, List.getElem_cons_succ, List.getElem_cons_zero, List.setIfInBounds_toArray, List.set_cons_zero, List.set_cons_succ])); ((refine ⟨_, ?_, rfl, Or.inl ⟨by rfl, ?_⟩, ?_⟩; rotate_left; focus (intro W hW; have hcW := (bcell hW).1; clear hW; go_simp; try with_reducible rfl)); (try simp only [Act.put, List.getElem_toArray, List.getElem_cons_succ, List.getElem_cons_zero, List.setIfInBounds_toArray, List.set_cons_zero, List.set_cons_succ]))
          exact rfl
        refine NoPanic.normal ?_
        go_wp2_with fail
        go_ret
        exact ⟨by rw [HE2.out]; rfl, E3.out.2⟩
      | true =>
        cases hc0 : coversB p c.y p.goal with
        | false =>
          have HE2 : Hid (rjudgeB p c = false) := by unfold Hid; rw [HE1.out, hf, hs0, hc0]; rfl
          have l0 := (K1.out.blk 1 rfl).lt
          have l1 := (K1.out.blk 0 rfl).lt
          go_wp2_with fail
          refine wp_chainS (S := Below w1.heap.size w1) [([0, 1, 2], 3), ([4, 5, 6, 7], 8), ([9, 10, 11, 12, 13, 14, 15], 16), ([17, 18, 19, 20, 21, 23, 24, 25], 22), ([], 26), ([], 27)] [28, 29, 30] (by kernel_rfl) (by kernel_rfl) (by kernel_rfl) rfl (Below.drew (Below.refl _ _)) ?_
          refine ⟨?_, _, ?_, rfl, ?_⟩
          rotate_left
          · ((refine ⟨_, ?_, rfl, Or.inl ⟨by rfl, ?_⟩, ?_⟩; rotate_left; focus (intro W hW; have hcW := (bcell hW).1; clear hW; go_simp; try with_reducible rfl)); (try simp only [Act.put, List.getElem_toArray, List.getElem_cons_succ, List.getElem_cons_zero, List.setIfInBounds_toArray, List.set_cons_zero, List.set_cons_succ])); ((refine ⟨_, ?_, rfl, Or.inl ⟨by rfl, ?_⟩, ?_⟩; rotate_left; focus (intro W hW; have hcW := (bcell hW).1; clear hW; go_simp; try with_reducible rfl)); (try simp only [Act.put, List.getElem_toArray, List.getElem_cons_succ, List.getElem_cons_zero, List.setIfInBounds_toArray, List.set_cons_zero, List.set_cons_succ])); ((refine ⟨_, ?_, rfl, Or.inl ⟨by rfl, ?_⟩, ?_⟩; rotate_left; focus (intro W hW; have hcW := (bcell hW).1; clear hW; go_simp; try with_reducible rfl)); (try simp only [Act.put, List.getElem_toArray, List.getElem_cons_succ, List.getElem_cons_zero, List.setIfInBounds_toArray, List.set_cons_zero, List.set_cons_succ]))
            exact rfl
          have D0 : Hid (Below w1.heap.size w1 w1.drew) := Below.drew (Below.refl _ _)
          have E0 := Lib.hid (HS.step K1.out D0.out)
          go_wp2_with fail
          refine (calls_to (rfits_calls _ _ _ p c.x (HP.out.of_below E0.out.2) (HX.out.below EF.stays E0.out.2)) hf).mono ?_
          rintro e w2 ⟨rfl, hb⟩
          have D2 := Lib.hid (below_next D0.out hb)
          have E2 := Lib.hid (HS.step K1.out D2.out)
          clear hb
          go_wp2_with fail
          refine And.intro D2.out ?_
          refine ⟨?_, _, ?_, rfl, ?_⟩
          rotate_left
          · ((refine ⟨_, ?_, rfl, Or.inl ⟨by rfl, ?_⟩, ?_⟩; rotate_left; focus (intro W hW; have hcW := (bcell hW).1; clear hW; go_simp; try with_reducible rfl)); (try simp only [Act.put, List.getElem_toArray, List.getElem_cons_succ, List.getElem_cons_zero, List.setIfInBounds_toArray, List.set_cons_zero, List.set_cons_succ])); ((refine ⟨_, ?_, rfl, Or.inl ⟨by rfl, ?_⟩, ?_⟩; rotate_left; focus (intro W hW; have hcW := (bcell hW).1; clear hW; go_simp; try with_reducible rfl)); (try simp only [Act.put, List.getElem_toArray, List.getElem_cons_succ, List.getElem_cons_zero, List.setIfInBounds_toArray, List.set_cons_zero, List.set_cons_succ])); ((refine ⟨_, ?_, rfl, Or.inl ⟨by rfl, ?_⟩, ?_⟩; rotate_left; focus (intro W hW; have hcW := (bcell hW).1; clear hW; go_simp; try with_reducible rfl)); (try simp only [Act.put, List.getElem_toArray, List.getElem_cons_succ, List.getElem_cons_zero, List.setIfInBounds_toArray, List.set_cons_zero, List.set_cons_succ])); ((refine ⟨_, ?_, rfl, Or.inl ⟨by rfl, ?_⟩, ?_⟩; rotate_left; focus (intro W hW; have hcW := (bcell hW).1; clear hW; go_simp; try with_reducible rfl)); (try simp only [Act.put, List.getElem_toArray, List.getElem_cons_succ, List.getElem_cons_zero, List.setIfInBounds_toArray, List.set_cons_zero, List.set_cons_succ]))
            exact rfl
          go_wp2_with fail
          refine (calls_to (rsigns_calls _ _ _ p c.y (HP.out.of_below E2.out.2) (HY.out.below EF.stays E2.out.2) HR0.out hly) hs0).mono ?_
          rintro e w3 ⟨rfl, hb⟩
          have D3 := Lib.hid (below_next D2.out hb)
          have E3 := Lib.hid (HS.step K1.out D3.out)
          clear hb
          go_wp2_with fail
          refine And.intro D3.out ?_
          refine ⟨?_, _, ?_, rfl, ?_⟩
          rotate_left
          · ((refine ⟨_, ?_, rfl, Or.inl ⟨by rfl, ?_⟩, ?_⟩; rotate_left; focus (intro W hW; have hcW := (bcell hW).1; clear hW; go_simp; try with_reducible rfl)); (try simp only [Act.put, List.getElem_toArray, List.getElem_cons_succ, List.getElem_cons_zero, List.setIfInBounds_toArray, List.set_cons_zero, List.set_cons_succ])); ((refine ⟨_, ?_, rfl, Or.inl ⟨by rfl, ?_⟩, ?_⟩; rotate_left; focus (intro W hW; have hcW := (bcell hW).1; clear hW; go_simp; try with_reducible rfl)); (try simp only [Act.put, List.getElem_toArray, List.getElem_cons_succ, List.getElem_cons_zero, List.setIfInBounds_toArray, List.set_cons_zero, List.set_cons_succ])); ((refine ⟨_, ?_, rfl, Or.inl ⟨by rfl, ?_⟩, ?_⟩; rotate_left; focus (intro W hW; have hcW := (bcell hW).1; clear hW; go_simp; try with_reducible rfl)); (try simp only [Act.put, List.getElem_toArray, List.getElem_cons_succ, List.getElem_cons_zero, List.setIfInBounds_toArray, List.set_cons_zero, List.set_cons_succ])); ((refine ⟨_, ?_, rfl, Or.inl ⟨by rfl, ?_⟩, ?_⟩; rotate_left; focus (intro W hW; have hcW := (bcell hW).1; clear hW; go_simp; try with_reducible rfl)); (try simp only [Act.put, List.getElem_toArray, List.getElem_cons_succ, List.getElem_cons_zero, List.setIfInBounds_toArray, List.set_cons_zero, List.set_cons_succ])); ((refine ⟨_, ?_, rfl, Or.inl ⟨by rfl, ?_⟩, ?_⟩; rotate_left; focus (intro W hW; have hcW := (bcell hW).1; clear hW; go_simp; try with_reducible rfl)); (try simp only [Act.put, List.getElem_toArray, List.getElem_cons_succ, List.getElem_cons_zero, List.setIfInBounds_toArray, List.set_cons_zero, List.set_cons_succ])); ((refine ⟨_, ?_, rfl, Or.inl ⟨by rfl, ?_⟩, ?_⟩; rotate_left; focus (intro W hW; have hcW := (bcell hW).1; clear hW; go_simp; try with_reducible rfl)); (try simp only [Act.put, List.getElem_toArray, List.getElem_cons_succ, List.getElem_cons_zero, List.setIfInBounds_toArray, List.set_cons_zero, List.set_cons_succ])); ((refine ⟨_, ?_, rfl, Or.inl ⟨by rfl, ?_⟩, ?_⟩; rotate_left; focus (intro W hW; have hcW := (bcell hW).1; clear hW; go_simp; try with_reducible rfl)); (try simp only [Act.put, List.getElem_toArray, List.getElem_cons_succ, List.getElem_cons_zero, List.setIfInBounds_toArray, List.set_cons_zero, List.set_cons_succ]))
            exact rfl
          go_wp2_with fail
          refine (calls_to (rcovers_calls _ _ _ p c.y (HP.out.of_below E3.out.2) (HY.out.below EF.stays E3.out.2) _ p.goal (H2.out.below EF.stays E3.out.2) HGV.out HR0.out hly (rsignsB_len hs0)) hc0).mono ?_
          rintro e w4 ⟨rfl, hb⟩
          have D4 := Lib.hid (below_next D3.out hb)
          have E4 := Lib.hid (HS.step K1.out D4.out)
          clear hb
          go_wp2_with fail
          refine And.intro D4.out ?_
          refine ⟨?_, _, ?_, rfl, ?_⟩
          rotate_left
          · ((refine ⟨_, ?_, rfl, Or.inl ⟨by rfl, ?_⟩, ?_⟩; rotate_left; focus (intro W hW; have hcW := (bcell hW).1; clear hW; go_simp; try with_reducible rfl)); (try simp only [Act.put, List.getElem_toArray, List.getElem_cons_succ, List.getElem_cons_zero, List.setIfInBounds_toArray, List.set_cons_zero, List.set_cons_succ])); ((refine ⟨_, ?_, rfl, Or.inl ⟨by rfl, ?_⟩, ?_⟩; rotate_left; focus (intro W hW; have hcW := (bcell hW).1; clear hW; go_simp; try with_reducible rfl)); (try simp only [Act.put, List.getElem_toArray, List.getElem_cons_succ, List.getElem_cons_zero, List.setIfInBounds_toArray, List.set_cons_zero, List.set_cons_succ])); ((refine ⟨_, undef, rfl, Or.inr ⟨by kernel_rfl, rfl⟩, ?_⟩); (try simp only [Act.put, List.getElem_toArray, List.getElem_cons_succ, List.getElem_cons_zero, List.setIfInBounds_toArray, List.set_cons_zero, List.set_cons_succ])); ((refine ⟨_, undef, rfl, Or.inr ⟨by kernel_rfl, rfl⟩, ?_⟩); (try simp only [Act.put, List.getElem_toArray, List.getElem_cons_succ, List.getElem_cons_zero, List.setIfInBounds_toArray, List.set_cons_zero, List.set_cons_succ])); ((refine ⟨_, undef, rfl, Or.inr ⟨by kernel_rfl, rfl⟩, ?_⟩); (try simp only [Act.put, List.getElem_toArray, List.getElem_cons_succ, List.getElem_cons_zero, List.setIfInBounds_toArray, List.set_cons_zero, List.set_cons_succ])); ((refine ⟨_, undef, rfl, Or.inr ⟨by kernel_rfl, rfl⟩, ?_⟩); (try simp only [Act.put, List.getElem_toArray, List.getElem_cons_succ, List.getElem_cons_zero, List.setIfInBounds_toArray, List.set_cons_zero, List.set_cons_succ])); ((refine ⟨_, undef, rfl, Or.inr ⟨by kernel_rfl, rfl⟩, ?_⟩); (try simp only [Act.put, List.getElem_toArray, List.getElem_cons_succ, List.getElem_cons_zero, List.setIfInBounds_toArray, List.set_cons_zero, List.set_cons_succ])); ((refine ⟨_, undef, rfl, Or.inr ⟨by kernel_rfl, rfl⟩, ?_⟩); (try simp only [Act.put, List.getElem_toArray, List.getElem_cons_succ, List.getElem_cons_zero, List.setIfInBounds_toArray, List.set_cons_zero, List.set_cons_succ]))
            exact rfl
          refine chain_skip (by kernel_rfl) (And.intro D4.out ?_)
          (try simp only [Act.put, List.getElem_toArray, List.getElem_cons_succ, List.getElem_cons_zero, List.setIfInBounds_toArray, List.set_cons_zero, List.set_cons_succ])
          refine ⟨_, _, rfl, rfl, ?_⟩
          refine chain_skip (by kernel_rfl) (And.intro D4.out ?_)
          (try simp only [Act.put, List.getElem_toArray, List.getElem_cons_succ, List.getElem_cons_zero, List.setIfInBounds_toArray, List.set_cons_zero, List.set_cons_succ])
          refine ⟨_, _, rfl, rfl, ?_⟩
          refine chain_skip (by kernel_rfl) ?_
          refine And.intro D4.out ?_
          (try simp only [Act.put, List.getElem_toArray, List.getElem_cons_succ, List.getElem_cons_zero, List.setIfInBounds_toArray, List.set_cons_zero, List.set_cons_succ])
          refine ⟨?_, ?_, ?_⟩
          rotate_left
          · ((refine ⟨_, undef, rfl, Or.inr ⟨by kernel_rfl, rfl⟩, ?_⟩); (try simp only [Act.put, List.getElem_toArray, List.getElem_cons_succ, List.getElem_cons_zero, List.setIfInBounds_toArray, List.set_cons_zero, List.set_cons_succ])); ((refine ⟨_, ?_, rfl, Or.inl ⟨by rfl, ?_⟩, ?_⟩; rotate_left; focus (intro W hW; have hcW := (bcell hW).1; clear hW; go_simp; try with_reducible rfl)); (try simp only [Act.put, List.getElem_toArray, List.getElem_cons_succ, List.getElem_cons_zero, List.setIfInBounds_toArray, List.set_cons_zero, List.set_cons_succ])); ((refine ⟨_, ?_, rfl, Or.inl ⟨by rfl, ?_⟩, ?_⟩; rotate_left; focus (intro W hW; have hcW := (bcell hW).1; clear hW; go_simp; try with_reducible rfl)); (try simp only [Act.put, List.getElem_toArray, List.getElem_cons_succ, List.getElem_cons_zero, List.setIfInBounds_toArray, List.set_cons_zero, List.set_cons_succ]))
            exact rfl
          refine NoPanic.normal ?_
          go_wp2_with fail
          go_ret
          exact ⟨by rw [HE2.out]; rfl, E4.out.2⟩
        | true =>
          have HE2 : Hid (rjudgeB p c = decide (ordQ (worthQ p c.y) (rvalueP p c.x) = 0)) := by unfold Hid; rw [HE1.out, hf, hs0, hc0]; rfl
          have l0 := (K1.out.blk 1 rfl).lt
          have l1 := (K1.out.blk 0 rfl).lt
          go_wp2_with fail
          refine wp_chainS (S := Below w1.heap.size w1) [([0, 1, 2], 3), ([4, 5, 6, 7], 8), ([9, 10, 11, 12, 13, 14, 15], 16), ([17, 18, 19, 20, 21, 23, 24, 25], 22), ([], 26), ([], 27)] [28, 29, 30] (by kernel_rfl) (by kernel_rfl) (by kernel_rfl) rfl (Below.drew (Below.refl _ _)) ?_
          refine ⟨?_, _, ?_, rfl, ?_⟩
          rotate_left
          · ((refine ⟨_, ?_, rfl, Or.inl ⟨by rfl, ?_⟩, ?_⟩; rotate_left; focus (intro W hW; have hcW := (bcell hW).1; clear hW; go_simp; try with_reducible rfl)); (try simp only [Act.put, List.getElem_toArray, List.getElem_cons_succ, List.getElem_cons_zero, List.setIfInBounds_toArray, List.set_cons_zero, List.set_cons_succ])); ((refine ⟨_, ?_, rfl, Or.inl ⟨by rfl, ?_⟩, ?_⟩; rotate_left; focus (intro W hW; have hcW := (bcell hW).1; clear hW; go_simp; try with_reducible rfl)); (try simp only [Act.put, List.getElem_toArray, List.getElem_cons_succ, List.getElem_cons_zero, List.setIfInBounds_toArray, List.set_cons_zero, List.set_cons_succ])); ((refine ⟨_, ?_, rfl, Or.inl ⟨by rfl, ?_⟩, ?_⟩; rotate_left; focus (intro W hW; have hcW := (bcell hW).1; clear hW; go_simp; try with_reducible rfl)); (try simp only [Act.put, List.getElem_toArray, List.getElem_cons_succ, List.getElem_cons_zero, List.setIfInBounds_toArray, List.set_cons_zero, List.set_cons_succ]))
            exact rfl
          have D0 : Hid (Below w1.heap.size w1 w1.drew) := Below.drew (Below.refl _ _)
          have E0 := Lib.hid (HS.step K1.out D0.out)
          go_wp2_with fail
          refine (calls_to (rfits_calls _ _ _ p c.x (HP.out.of_below E0.out.2) (HX.out.below EF.stays E0.out.2)) hf).mono ?_
          rintro e w2 ⟨rfl, hb⟩
          have D2 := Lib.hid (below_next D0.out hb)
          have E2 := Lib.hid (HS.step K1.out D2.out)
          clear hb
          go_wp2_with fail
          refine And.intro D2.out ?_
          refine ⟨?_, _, ?_, rfl, ?_⟩
          rotate_left
          · ((refine ⟨_, ?_, rfl, Or.inl ⟨by rfl, ?_⟩, ?_⟩; rotate_left; focus (intro W hW; have hcW := (bcell hW).1; clear hW; go_simp; try with_reducible rfl)); (try simp only [Act.put, List.getElem_toArray, List.getElem_cons_succ, List.getElem_cons_zero, List.setIfInBounds_toArray, List.set_cons_zero, List.set_cons_succ])); ((refine ⟨_, ?_, rfl, Or.inl ⟨by rfl, ?_⟩, ?_⟩; rotate_left; focus (intro W hW; have hcW := (bcell hW).1; clear hW; go_simp; try with_reducible rfl)); (try simp only [Act.put, List.getElem_toArray, List.getElem_cons_succ, List.getElem_cons_zero, List.setIfInBounds_toArray, List.set_cons_zero, List.set_cons_succ])); ((refine ⟨_, ?_, rfl, Or.inl ⟨by rfl, ?_⟩, ?_⟩; rotate_left; focus (intro W hW; have hcW := (bcell hW).1; clear hW; go_simp; try with_reducible rfl)); (try simp only [Act.put, List.getElem_toArray, List.getElem_cons_succ, List.getElem_cons_zero, List.setIfInBounds_toArray, List.set_cons_zero, List.set_cons_succ])); ((refine ⟨_, ?_, rfl, Or.inl ⟨by rfl, ?_⟩, ?_⟩; rotate_left; focus (intro W hW; have hcW := (bcell hW).1; clear hW; go_simp; try with_reducible rfl)); (try simp only [Act.put, List.getElem_toArray, List.getElem_cons_succ, List.getElem_cons_zero, List.setIfInBounds_toArray, List.set_cons_zero, List.set_cons_succ]))
            exact rfl
          go_wp2_with fail
          refine (calls_to (rsigns_calls _ _ _ p c.y (HP.out.of_below E2.out.2) (HY.out.below EF.stays E2.out.2) HR0.out hly) hs0).mono ?_
          rintro e w3 ⟨rfl, hb⟩
          have D3 := Lib.hid (below_next D2.out hb)
          have E3 := Lib.hid (HS.step K1.out D3.out)
          clear hb
          go_wp2_with fail
          refine And.intro D3.out ?_
          refine ⟨?_, _, ?_, rfl, ?_⟩
          rotate_left
          · ((refine ⟨_, ?_, rfl, Or.inl ⟨by rfl, ?_⟩, ?_⟩; rotate_left; focus (intro W hW; have hcW := (bcell hW).1; clear hW; go_simp; try with_reducible rfl)); (try simp only [Act.put, List.getElem_toArray, List.getElem_cons_succ, List.getElem_cons_zero, List.setIfInBounds_toArray, List.set_cons_zero, List.set_cons_succ])); ((refine ⟨_, ?_, rfl, Or.inl ⟨by rfl, ?_⟩, ?_⟩; rotate_left; focus (intro W hW; have hcW := (bcell hW).1; clear hW; go_simp; try with_reducible rfl)); (try simp only [Act.put, List.getElem_toArray, List.getElem_cons_succ, List.getElem_cons_zero, List.setIfInBounds_toArray, List.set_cons_zero, List.set_cons_succ])); ((refine ⟨_, ?_, rfl, Or.inl ⟨by rfl, ?_⟩, ?_⟩; rotate_left; focus (intro W hW; have hcW := (bcell hW).1; clear hW; go_simp; try with_reducible rfl)); (try simp only [Act.put, List.getElem_toArray, List.getElem_cons_succ, List.getElem_cons_zero, List.setIfInBounds_toArray, List.set_cons_zero, List.set_cons_succ])); ((refine ⟨_, ?_, rfl, Or.inl ⟨by rfl, ?_⟩, ?_⟩; rotate_left; focus (intro W hW; have hcW := (bcell hW).1; clear hW; go_simp; try with_reducible rfl)); (try simp only [Act.put, List.getElem_toArray, List.getElem_cons_succ, List.getElem_cons_zero, List.setIfInBounds_toArray, List.set_cons_zero, List.set_cons_succ])); ((refine ⟨_, ?_, rfl, Or.inl ⟨by rfl, ?_⟩, ?_⟩; rotate_left; focus (intro W hW; have hcW := (bcell hW).1; clear hW; go_simp; try with_reducible rfl)); (try simp only [Act.put, List.getElem_toArray, List.getElem_cons_succ, List.getElem_cons_zero, List.setIfInBounds_toArray, List.set_cons_zero, List.set_cons_succ])); ((refine ⟨_, ?_, rfl, Or.inl ⟨by rfl, ?_⟩, ?_⟩; rotate_left; focus (intro W hW; have hcW := (bcell hW).1; clear hW; go_simp; try with_reducible rfl)); (try simp only [Act.put, List.getElem_toArray, List.getElem_cons_succ, List.getElem_cons_zero, List.setIfInBounds_toArray, List.set_cons_zero, List.set_cons_succ])); ((refine ⟨_, ?_, rfl, Or.inl ⟨by rfl, ?_⟩, ?_⟩; rotate_left; focus (intro W hW; have hcW := (bcell hW).1; clear hW; go_simp; try with_reducible rfl)); (try simp only [Act.put, List.getElem_toArray, List.getElem_cons_succ, List.getElem_cons_zero, List.setIfInBounds_toArray, List.set_cons_zero, List.set_cons_succ]))
            exact rfl
          go_wp2_with fail
          refine (calls_to (rcovers_calls _ _ _ p c.y (HP.out.of_below E3.out.2) (HY.out.below EF.stays E3.out.2) _ p.goal (H2.out.below EF.stays E3.out.2) HGV.out HR0.out hly (rsignsB_len hs0)) hc0).mono ?_
          rintro e w4 ⟨rfl, hb⟩
          have D4 := Lib.hid (below_next D3.out hb)
          have E4 := Lib.hid (HS.step K1.out D4.out)
          clear hb
          go_wp2_with fail
          refine And.intro D4.out ?_
          refine ⟨?_, _, ?_, rfl, ?_⟩
          rotate_left
          · ((refine ⟨_, ?_, rfl, Or.inl ⟨by rfl, ?_⟩, ?_⟩; rotate_left; focus (intro W hW; have hcW := (bcell hW).1; clear hW; go_simp; try with_reducible rfl)); (try simp only [Act.put, List.getElem_toArray, List.getElem_cons_succ, List.getElem_cons_zero, List.setIfInBounds_toArray, List.set_cons_zero, List.set_cons_succ])); ((refine ⟨_, ?_, rfl, Or.inl ⟨by rfl, ?_⟩, ?_⟩; rotate_left; focus (intro W hW; have hcW := (bcell hW).1; clear hW; go_simp; try with_reducible rfl)); (try simp only [Act.put, List.getElem_toArray, List.getElem_cons_succ, List.getElem_cons_zero, List.setIfInBounds_toArray, List.set_cons_zero, List.set_cons_succ])); ((refine ⟨_, ?_, rfl, Or.inl ⟨by rfl, ?_⟩, ?_⟩; rotate_left; focus (intro W hW; have hcW := (bcell hW).1; clear hW; go_simp; try with_reducible rfl)); (try simp only [Act.put, List.getElem_toArray, List.getElem_cons_succ, List.getElem_cons_zero, List.setIfInBounds_toArray, List.set_cons_zero, List.set_cons_succ])); ((refine ⟨_, ?_, rfl, Or.inl ⟨by rfl, ?_⟩, ?_⟩; rotate_left; focus (intro W hW; have hcW := (bcell hW).1; clear hW; go_simp; try with_reducible rfl)); (try simp only [Act.put, List.getElem_toArray, List.getElem_cons_succ, List.getElem_cons_zero, List.setIfInBounds_toArray, List.set_cons_zero, List.set_cons_succ])); ((refine ⟨_, ?_, rfl, Or.inl ⟨by rfl, ?_⟩, ?_⟩; rotate_left; focus (intro W hW; have hcW := (bcell hW).1; clear hW; go_simp; try with_reducible rfl)); (try simp only [Act.put, List.getElem_toArray, List.getElem_cons_succ, List.getElem_cons_zero, List.setIfInBounds_toArray, List.set_cons_zero, List.set_cons_succ])); ((refine ⟨_, ?_, rfl, Or.inl ⟨by rfl, ?_⟩, ?_⟩; rotate_left; focus (intro W hW; have hcW := (bcell hW).1; clear hW; go_simp; try with_reducible rfl)); (try simp only [Act.put, List.getElem_toArray, List.getElem_cons_succ, List.getElem_cons_zero, List.setIfInBounds_toArray, List.set_cons_zero, List.set_cons_succ])); ((refine ⟨_, ?_, rfl, Or.inl ⟨by rfl, ?_⟩, ?_⟩; rotate_left; focus (intro W hW; have hcW := (bcell hW).1; clear hW; go_simp; try with_reducible rfl)); (try simp only [Act.put, List.getElem_toArray, List.getElem_cons_succ, List.getElem_cons_zero, List.setIfInBounds_toArray, List.set_cons_zero, List.set_cons_succ])); ((refine ⟨_, ?_, rfl, Or.inl ⟨by rfl, ?_⟩, ?_⟩; rotate_left; focus (intro W hW; have hcW := (bcell hW).1; clear hW; go_simp; try with_reducible rfl)); (try simp only [Act.put, List.getElem_toArray, List.getElem_cons_succ, List.getElem_cons_zero, List.setIfInBounds_toArray, List.set_cons_zero, List.set_cons_succ]))
            exact rfl
          go_wp2_with fail
          refine (rworth_calls _ _ _ p c.y (HP.out.of_below E4.out.2) (HY.out.below EF.stays E4.out.2) hrw hly (rsignsB_len hs0)).mono ?_
          rintro e w5 ⟨v, rfl, hv, hb⟩
          obtain ⟨A5, n5, c5, A6, n6, c6, rfl, HV1⟩ := hv.opened
          have D5 := Lib.hid (below_next D4.out hb)
          have E5 := Lib.hid (HS.step K1.out D5.out)
          clear hv hb
          go_wp2_with fail
          refine And.intro D5.out ⟨_, _, rfl, rfl, ?_⟩
          go_wp2_with fail
          refine (r2value_calls _ _ _ p c.x (HP.out.of_below E5.out.2) (HX.out.below EF.stays E5.out.2)).mono ?_
          rintro e w6 ⟨v, rfl, hv, hb⟩
          obtain ⟨A7, n7, c7, A8, n8, c8, rfl, HV2⟩ := hv.opened
          have HV1' := Lib.hid (HV1.out.of_below hb)
          have D6 := Lib.hid (below_next D5.out hb)
          clear hv hb
          go_wp2_with fail
          refine And.intro D6.out ⟨_, _, rfl, rfl, ?_⟩
          go_wp2_with fail
          refine (rcmp_calls _ _ _ _ _ (FR.of_fq HV1'.out (worthQ_size _ _)) (FR.of_fq HV2.out (rvalueP_size _ _))).mono ?_
          rintro e w7 ⟨rfl, hb⟩
          have e1 : fixQ (rawQ (worthQ p c.y)) = worthQ p c.y := fixQ_raw _ (worthQ_size _ _)
          have e2 : fixQ (rawQ (rvalueP p c.x)) = rvalueP p c.x := fixQ_raw _ (rvalueP_size _ _)
          rw [e1, e2]
          have D7 := Lib.hid (below_next D6.out hb)
          have E7 := Lib.hid (HS.step K1.out D7.out)
          clear hb e1 e2
          go_wp2_with fail
          refine And.intro D7.out ⟨?_, ?_, ?_⟩
          rotate_left
          · ((refine ⟨_, ?_, rfl, Or.inl ⟨by rfl, ?_⟩, ?_⟩; rotate_left; focus (intro W hW; have hcW := (bcell hW).1; clear hW; go_simp; try with_reducible rfl)); (try simp only [Act.put, List.getElem_toArray, List.getElem_cons_succ, List.getElem_cons_zero, List.setIfInBounds_toArray, List.set_cons_zero, List.set_cons_succ])); ((refine ⟨_, ?_, rfl, Or.inl ⟨by rfl, ?_⟩, ?_⟩; rotate_left; focus (intro W hW; have hcW := (bcell hW).1; clear hW; go_simp; try with_reducible rfl)); (try simp only [Act.put, List.getElem_toArray, List.getElem_cons_succ, List.getElem_cons_zero, List.setIfInBounds_toArray, List.set_cons_zero, List.set_cons_succ])); ((refine ⟨_, ?_, rfl, Or.inl ⟨by rfl, ?_⟩, ?_⟩; rotate_left; focus (intro W hW; have hcW := (bcell hW).1; clear hW; go_simp; try with_reducible rfl)); (try simp only [Act.put, List.getElem_toArray, List.getElem_cons_succ, List.getElem_cons_zero, List.setIfInBounds_toArray, List.set_cons_zero, List.set_cons_succ]))
            exact rfl
          refine NoPanic.normal ?_
          go_wp2_with fail
          go_ret
          exact ⟨by rw [HE2.out]; rfl, E7.out.2⟩
  have t1 : (kd == 1) = false := bneI' k1
  by_cases k2 : kd = 2
  · have t2 : (kd == 2) = true := beqI' k2
    have HE1 : Hid (rjudgeB p c = (rsignsB p c.y && (coversB p c.y (zerosF p.vars.toNat) && decide (signQ (worthQ p c.y) < 0)))) := by unfold Hid rjudgeB; rw [if_neg (by rw [HR0.out]; simp), if_neg (by rw [← HKD.out]; exact k1), if_pos (by rw [← HKD.out]; exact k2)]
    clear k1 k2
    obtain ⟨n, hn⟩ : ∃ n : Nat, vars = (n : Int) := ⟨vars.toNat, by omega⟩
    subst hn
    have HVN : Hid (p.vars.toNat = n) := by unfold Hid; rw [← HV.out]; omega
    go_wp2_with fail
    clear x0 x1 x2 x3 y0 y1 y2 y3
    go_loopw [5, 6] (fun v5 vi wr => ∃ i : Nat, i ≤ n ∧ vi = .int .i64 (i : Int) ∧ OL 3 40 EF (w.heap.size + 2) wr v5 (zerosF i) ∧ w.heap.size + 2 ≤ wr.heap.size ∧ HS w [(w.heap.size + 1, 44, #[.int .i64 kd, .slice B1 c.x.length d1, .slice B2 c.y.length d2, .slice B3 c.ray.length d3]), (w.heap.size, 26, #[.int .i64 (n : Int), .slice A1 p.free.length c1, .slice A2 p.goal.length c2, .slice A3 p.rows.length c3])] wr) (fun _ vi _ => n - (intOf vi).toNat)
    case atStart => exact ⟨0, Nat.zero_le _, rfl, OL.nil _ _ _ _ _, hsz1, K1.out⟩
    case round =>
      obtain ⟨i, hi, rfl, hol, hsz2, hs⟩ := hrel
      have HOL := Lib.hid hol
      have HK := Lib.hid hs
      obtain ⟨A5, c5, hv5, _⟩ := hol.slice
      rw [show (zerosF i).length = i from List.length_replicate] at hv5
      subst hv5
      clear hol hs
      obtain ⟨x0, x1, x2, x3⟩ := HK.out.c4 1 rfl
      obtain ⟨y0, y1, y2, y3⟩ := HK.out.c4 0 rfl
      have l0 := (HK.out.blk 1 rfl).lt
      have l1 := (HK.out.blk 0 rfl).lt
      by_cases hlt : i < n
      · have m1 : (i : Int) < (n : Int) := by omega
        go_wp2_with fail
        refine (rwhole0_calls wr).mono ?_
        rintro e w2 ⟨v, rfl, hv, hb⟩
        obtain ⟨A6, n6, c6, A7, n7, c7, rfl, HVZ⟩ := hv.opened
        have HOL2 := Lib.hid (HOL.out.below EF.stays hb)
        have HK2 := Lib.hid (HK.out.step hb)
        have hsz3 : w.heap.size + 2 ≤ w2.heap.size := by have := hb.size; omega
        have hll : (zerosF i).length ≤ 1000000000 := by rw [show (zerosF i).length = i from List.length_replicate]; omega
        clear hv hb x0 x1 x2 x3 y0 y1 y2 y3
        go_wp2_with (at_builtin; refine wpl_appendF rfl (.tmp 52) (.tmp 54) rfl (base := w.heap.size + 2) (.slice A5 i c5) (zerosF i) rfl (HOL2.out.below EF.stays (below_new _ _)) (rawQ 0) rfl (Blk.newAt (by simp)) (FR.of_fq (HVZ.out.of_below (below_new _ _)) (by rw [sizeQ_zero]; decide)) hll (by simp; omega) ?_; intro v6 w6 hown6 hg6 hk6 hb6)
        have HOL6 := Lib.hid hown6
        have HK6 := Lib.hid (HS.grown (HK2.out.step (below_new _ _)) hg6 (fun b hm e => by
          have := (HOL2.out.lt b.1 e.symm).1
          simp only [List.mem_cons, List.not_mem_nil, or_false] at hm
          rcases hm with rfl | rfl <;> (simp only at this; omega)) (fun g e => by have := (HOL2.out.lt g e).1; omega))
        have hsz6 : w.heap.size + 2 ≤ w6.heap.size := by have := hk6.1; simp at this; omega
        have HNX : Hid (zerosF (i + 1) = zerosF i ++ [rawQ 0]) := List.replicate_succ'
        clear hown6 hg6 hk6 hb6
        go_wp2_with fail
        go_roundw
        case rel => exact ⟨i + 1, by omega, by go_num, by rw [HNX.out]; exact HOL6.out, hsz6, HK6.out⟩
        case measure => simp [intOf]; omega
      · obtain rfl : i = n := by omega
        have HFL := Lib.hid HOL.out.sl
        have HZL : Hid (((zerosF i).length : Int) = p.vars) := by unfold Hid; rw [show (zerosF i).length = i from List.length_replicate, ← HV.out]
        obtain ⟨wo, hwo⟩ : ∃ wo, wo = wr := ⟨_, rfl⟩
        rw [← hwo] at HK HFL l0 l1 x0 x1 x2 x3 y0 y1 y2 y3 ⊢
        clear hwo hlt HOL hsz1 hsz2 K1
        go_wp2_with fail
        refine (rsigns_calls wo _ _ p c.y (HP.out.of_below HK.out.2) (HY.out.below EF.stays HK.out.2) HR0.out hly).mono ?_
        rintro e w2 ⟨rfl, hb⟩
        have K2 := Lib.hid (HK.out.step hb)
        have HFL2 := Lib.hid (HFL.out.below EF.stays hb)
        obtain ⟨x0, x1, x2, x3⟩ := K2.out.c4 1 rfl
        obtain ⟨y0, y1, y2, y3⟩ := K2.out.c4 0 rfl
        clear hb
        cases hs0 : rsignsB p c.y with
        | false =>
          have HE2 : Hid (rjudgeB p c = false) := by unfold Hid; rw [HE1.out, hs0]; rfl
          clear hs0
          go_wp2_with fail
          go_ret
          exact ⟨by rw [HE2.out]; rfl, K2.out.2⟩
        | true =>
          have HS0 := Lib.hid hs0
          clear hs0
          go_wp2_with fail
          refine (rcovers_calls w2 _ _ p c.y (HP.out.of_below K2.out.2) (HY.out.below EF.stays K2.out.2) _ (zerosF i) HFL2.out HZL.out HR0.out hly (rsignsB_len HS0.out)).mono ?_
          rintro e w3 ⟨rfl, hb⟩
          have K3 := Lib.hid (K2.out.step hb)
          obtain ⟨x0, x1, x2, x3⟩ := K3.out.c4 1 rfl
          obtain ⟨y0, y1, y2, y3⟩ := K3.out.c4 0 rfl
          clear hb
          cases hc0 : coversB p c.y (zerosF i) with
          | false =>
            have HE2 : Hid (rjudgeB p c = false) := by unfold Hid; rw [HE1.out, HS0.out, HVN.out, hc0]; rfl
            clear hc0
            go_wp2_with fail
            go_ret
            exact ⟨by rw [HE2.out]; rfl, K3.out.2⟩
          | true =>
            have HE2 : Hid (rjudgeB p c = decide (signQ (worthQ p c.y) < 0)) := by unfold Hid; rw [HE1.out, HS0.out, HVN.out, hc0]; rfl
            clear hc0
            go_wp2_with fail
            refine (rworth_calls w3 _ _ p c.y (HP.out.of_below K3.out.2) (HY.out.below EF.stays K3.out.2) hrw hly (rsignsB_len HS0.out)).mono ?_
            rintro e w4 ⟨v, rfl, hv, hb⟩
            obtain ⟨A6, n6, c6, A7, n7, c7, rfl, HV1⟩ := hv.opened
            have K4 := Lib.hid (K3.out.step hb)
            clear hv hb
            go_wp2_with fail
            refine (rsign_calls _ _ _ (FR.of_fq HV1.out (worthQ_size _ _))).mono ?_
            rintro e w5 ⟨rfl, hb⟩
            rw [fixQ_raw _ (worthQ_size _ _)]
            have K5 := Lib.hid (K4.out.step hb)
            clear hb
            go_wp2_with fail
            go_ret
            exact ⟨by rw [HE2.out]; rfl, K5.out.2⟩
  have t2 : (kd == 2) = false := bneI' k2
  clear hsz1 hv1 hv2
  by_cases k3 : kd = 3
  · have t3 : (kd == 3) = true := beqI' k3
    have HE1 : Hid (rjudgeB p c = (rfitsP p c.x && rgoesB p c.ray)) := by unfold Hid rjudgeB; rw [if_neg (by rw [HR0.out]; simp), if_neg (by rw [← HKD.out]; exact k1), if_neg (by rw [← HKD.out]; exact k2), if_pos (by rw [← HKD.out]; exact k3)]
    clear k1 k2 k3
    go_wp2_with fail
    refine (rfits_calls w1 _ _ p c.x (HP.out.of_below K1.out.2) (HX.out.below EF.stays K1.out.2)).mono ?_
    rintro e w2 ⟨rfl, hb⟩
    have K2 := Lib.hid (K1.out.step hb)
    obtain ⟨x0, x1, x2, x3⟩ := K2.out.c4 1 rfl
    obtain ⟨y0, y1, y2, y3⟩ := K2.out.c4 0 rfl
    clear hb
    cases hb0 : rfitsP p c.x with
    | false =>
      have HE2 : Hid (rjudgeB p c = false) := by unfold Hid; rw [HE1.out, hb0]; rfl
      clear hb0
      go_wp2_with fail
      go_ret
      exact ⟨by rw [HE2.out]; rfl, K2.out.2⟩
    | true =>
      have HE2 : Hid (rjudgeB p c = rgoesB p c.ray) := by unfold Hid; rw [HE1.out, hb0]; rfl
      clear hb0
      go_wp2_with fail
      refine (rgoes_calls w2 _ _ p c.ray (HP.out.of_below K2.out.2) (HR.out.below EF.stays K2.out.2) HR0.out).mono ?_
      rintro e w3 ⟨rfl, hb⟩
      have K3 := Lib.hid (K2.out.step hb)
      clear hb
      go_wp2_with fail
      go_ret
      exact ⟨by rw [HE2.out]; rfl, K3.out.2⟩
  have t3 : (kd == 3) = false := bneI' k3
  have HE1 : Hid (rjudgeB p c = false) := by unfold Hid rjudgeB; rw [if_neg (by rw [HR0.out]; simp), if_neg (by rw [← HKD.out]; exact k1), if_neg (by rw [← HKD.out]; exact k2), if_neg (by rw [← HKD.out]; exact k3)]
  clear k1 k2 k3
  go_wp2_with fail
  go_ret
  exact ⟨by rw [HE1.out]; rfl, K1.out.2⟩
end Go.Proofs.Ytfhambfgjigneaa
set_option linter.unusedVariables false
set_option linter.unusedSimpArgs false
namespace Go.Proofs.Ytfhambfgjigneaa
open Go.RowKit
theorem signQ_ord (q : Rat) : signQ q = ordQ q 0 := by
  unfold signQ ordQ
  by_cases h : q = 0
  · subst h; rfl
  · rw [if_neg (fun h0 => h (Rat.num_eq_zero.1 h0)), if_neg h]
    have e : q.num < 0 ↔ q < 0 := by
      have := @Rat.num_nonneg q
      constructor
      · intro h1; exact Rat.not_le.1 (fun h2 => by have := this.2 h2; omega)
      · intro h1; exact Int.not_le.1 (fun h2 => Rat.not_le.2 h1 (this.1 h2))
    by_cases h1 : q < 0
    · rw [if_pos h1, if_pos (e.2 h1)]
    · rw [if_neg h1, if_neg (fun h2 => h1 (e.1 h2))]
theorem signQ_sub (a b : Rat) : signQ (a + -b) = ordQ a b := by
  rw [signQ_ord]
  unfold ordQ
  have e0 : a + -b = 0 ↔ a = b := by grind
  have e1 : a + -b < 0 ↔ a < b := by grind
  simp only [e0, e1]
theorem fit_nth {n : Nat} {fs : List RawF} (h : wordsB fs n = true) (hn : 1 ≤ n) (v : Nat) : FitQ n (fixQ (nthF fs v)) := by
  unfold nthF
  rw [List.getD_eq_getElem?_getD]
  cases hx : fs[v]? with
  | none => exact fit_words (f := ⟨false, [], []⟩) (by simp [wordF]) hn
  | some f => exact fit_words (List.all_eq_true.1 h f (List.mem_of_getElem? hx)) hn
theorem fit_zipf {α : Type} {k1 k2 : Nat} {f : α → Rat} : ∀ (rows : List α) (ys : List Rat), (∀ r ∈ rows, FitQ k1 (f r)) → (∀ q ∈ ys, FitQ k2 q) → ∀ q ∈ List.zipWith (fun r q => q * f r) rows ys, FitQ (k1 + k2) q
  | [], _, _, _, q, hq => by simp at hq
  | _ :: _, [], _, _, q, hq => by simp at hq
  | x :: a, y :: b, ha, hb, q, hq => by
    rw [List.zipWith_cons_cons, List.mem_cons] at hq
    rcases hq with rfl | hq
    · exact fit_mul (hb y (by simp)) (ha x (by simp)) (by omega)
    · exact fit_zipf a b (fun z hz => ha z (List.mem_cons_of_mem _ hz)) (fun z hz => hb z (List.mem_cons_of_mem _ hz)) q hq
theorem fold_sum {k n : Nat} {l : List Rat} (h : ∀ q ∈ l, FitQ k q) (hn : l.length ≤ n) (hk : 2 * (n * (k + 1) + 1) ≤ 4096) : l.foldl dotStep 0 = sumQ l ∧ FitQ (n * (k + 1) + 1) (sumQ l) := by
  have h2 := Nat.mul_le_mul_right (k + 1) hn
  exact ⟨fold_fits k l 1 0 fit_zero h (by omega), fit_mono (fit_sum l k h) (by omega)⟩
section
variable {p : ProgF} {c : CertF}
theorem col_fit (hp : withinB p 20 30 = true) (hc : certB c 31 = true) (v : Nat) : FitQ 571 (colQ p.rows (c.y.map fixQ) v) := by
  obtain ⟨_, h2, _, _, _, h6⟩ := withinB_ok hp
  obtain ⟨_, _, hy, _⟩ := certB_ok hc
  have := fold_sum (k := 18) (n := 30) (l := colL p.rows (c.y.map fixQ) v) (fit_zipf (k1 := 6) (k2 := 12) (f := fun (r : RowF) => fixQ (nthF r.a v)) p.rows (c.y.map fixQ) (fun r hr => fit_nth (h6 r hr).2.1 (by decide) v) (fit_list hy (by decide))) (by unfold colL; rw [List.length_zipWith]; omega) (by decide)
  unfold colQ
  rw [this.1]
  exact this.2
theorem col_same (hp : withinB p 20 30 = true) (hc : certB c 31 = true) (v : Nat) : colOk p (c.y.map fixQ) (some p.goal) v = covOk p (c.y.map fixQ) p.goal v := by
  obtain ⟨_, _, _, _, h5, _⟩ := withinB_ok hp
  have h1 := col_fit hp hc v
  have h2 := fit_neg (fit_nth h5 (by decide) v)
  have h3 := fit_add h1 h2 (Nat.le_refl _)
  have e : signQ (capQ (colQ p.rows (c.y.map fixQ) v + -(fixQ (nthF p.goal v)))) = ordQ (colQ p.rows (c.y.map fixQ) v) (fixQ (nthF p.goal v)) := by
    rw [capQ_fits (Nat.le_trans h3.size (by decide)), signQ_sub]
  unfold colOk covOk colV
  simp only
  rw [e]
  generalize ordQ (colQ p.rows (c.y.map fixQ) v) (fixQ (nthF p.goal v)) = o
  cases freeAt p v
  · simp
  · by_cases ho : o < 0
    · simp [ho]
    · by_cases h0 : o = 0
      · simp [h0]
      · have : o > 0 := by omega
        simp [ho, h0, this]
theorem col_same0 (v n : Nat) (hv : v < n) (ys : List Rat) : colOk p ys none v = covOk p ys (zerosF n) v := by
  have e : nthF (zerosF n) v = rawQ 0 := nthF_get (by unfold zerosF; rw [List.getElem?_replicate, if_pos hv])
  unfold colOk covOk colV
  simp only
  rw [e, fixQ_zero, signQ_ord]
  generalize ordQ (colQ p.rows ys v) 0 = o
  cases freeAt p v
  · simp
  · by_cases ho : o < 0
    · simp [ho]
    · by_cases h0 : o = 0
      · simp [h0]
      · have : o > 0 := by omega
        simp [ho, h0, this]
theorem bounds_same (hp : withinB p 20 30 = true) (hc : certB c 31 = true) : boundsB p c.y (some p.goal) = (rsignsB p c.y && coversB p c.y p.goal) := by
  unfold boundsB rsignsB coversB
  rw [Bool.and_assoc, all_congr fun v _ => col_same hp hc v]
theorem bounds_same0 : boundsB p c.y none = (rsignsB p c.y && coversB p c.y (zerosF p.vars.toNat)) := by
  unfold boundsB rsignsB coversB
  rw [Bool.and_assoc, all_congr fun v hv => col_same0 v _ (List.mem_range.1 hv) _]
theorem zip_swap : ∀ (ys : List Rat) (rows : List RowF), List.zipWith (· * ·) ys (rows.map fun r => fixQ r.b) = worL rows ys
  | [], [] => rfl
  | [], _ :: _ => rfl
  | _ :: _, [] => rfl
  | y :: ys, r :: rows => by
    have := zip_swap ys rows
    unfold worL at this ⊢
    rw [List.map_cons, List.zipWith_cons_cons, List.zipWith_cons_cons, this]
theorem worth_same (hp : withinB p 20 30 = true) (hc : certB c 31 = true) : rightsQ p c.y = worthQ p c.y := by
  obtain ⟨_, h2, _, _, _, h6⟩ := withinB_ok hp
  obtain ⟨_, _, hy, _⟩ := certB_ok hc
  have := fold_sum (k := 18) (n := 30) (l := worL p.rows (c.y.map fixQ)) (fit_zipf (k1 := 6) (k2 := 12) (f := fun (r : RowF) => fixQ r.b) p.rows (c.y.map fixQ) (fun r hr => fit_words (h6 r hr).2.2 (by decide)) (fit_list hy (by decide))) (by unfold worL; rw [List.length_zipWith]; omega) (by decide)
  unfold rightsQ worthQ dotQ
  rw [zip_swap, this.1, capQ_fits (Nat.le_trans this.2.size (by decide))]
theorem goes_same (hp : withinB p 20 30 = true) (hc : certB c 31 = true) : goesB p c.ray = rgoesB p c.ray := by
  obtain ⟨_, _, _, h4, h5, h6⟩ := withinB_ok hp
  obtain ⟨_, _, _, hr⟩ := certB_ok hc
  have h2 := fit_list hr (by decide)
  have e : p.rows.all (rowGoes (c.ray.map fixQ)) = p.rows.all (rrowGoes (c.ray.map fixQ)) := all_congr fun r hm => by
    obtain ⟨h7, h8, _⟩ := h6 r hm
    have h1 := fit_list h8 (by decide)
    unfold rowGoes rrowGoes
    rw [cap_dotQ h1 h2 (n := 20) (by rw [List.length_map]; exact h7) (by decide), rdotQ_fits h1 h2 (n := 20) (by rw [List.length_map]; exact h7) (by decide), holds_same]
  have h1 := fit_list h5 (by decide)
  unfold goesB rgoesB
  rw [e, cap_dotQ h1 h2 (n := 20) (by rw [List.length_map]; exact h4) (by decide), rdotQ_fits h1 h2 (n := 20) (by rw [List.length_map]; exact h4) (by decide)]
theorem judge_same (hp : withinB p 20 30 = true) (hc : certB c 31 = true) : judgeB p c = rjudgeB p c := by
  obtain ⟨_, hx, _, _⟩ := certB_ok hc
  obtain ⟨_, _, _, h4, h5, _⟩ := withinB_ok hp
  unfold judgeB rjudgeB
  by_cases hr : rightP p = 0
  case neg => rw [if_pos hr, if_pos hr]
  have hf : fitsB p c.x = rfitsP p c.x := by
    rw [← fits_same hp hx (by decide) (by decide)]
    unfold fitsP
    rw [decide_eq_true hr, Bool.true_and]
  rw [if_neg (show ¬ rightP p ≠ 0 from fun h => h hr), if_neg (show ¬ rightP p ≠ 0 from fun h => h hr), bounds_same hp hc, bounds_same0, worth_same hp hc, goes_same hp hc, hf]
  split
  · cases hfx : rfitsP p c.x with
    | false => rfl
    | true =>
      have hl : (c.x.length : Int) = p.vars := by
        unfold rfitsP rfitsB at hfx
        simp only [Bool.and_eq_true, decide_eq_true_eq] at hfx
        exact hfx.2.1
      have e : capQ (dotQ (p.goal.map fixQ) (c.x.map fixQ)) = rvalueP p c.x := by
        have h1 := fit_list h5 (by decide)
        have h2 := fit_list hx (by decide)
        unfold rvalueP
        rw [if_neg (by simp [hr, hl]), cap_dotQ h1 h2 (n := 20) (by rw [List.length_map]; exact h4) (by decide), rdotQ_fits h1 h2 (n := 20) (by rw [List.length_map]; exact h4) (by decide)]
      rw [e, Bool.and_assoc]
  · split
    · rw [Bool.and_assoc]
    · rfl
end
end Go.Proofs.Ytfhambfgjigneaa
set_option linter.unusedVariables false
set_option linter.unusedSimpArgs false
namespace Go.Proofs.Ytfhambfgjigneaa
open Go.RowKit
set_option maxHeartbeats 32000000 in
set_option maxRecDepth 100000 in
theorem judges_calls (w : World) (v v2 : Value) (p : ProgF) (c : CertF) (h : PG0 w v p) (h2 : CG0 w v2 c) : Calls Try.prog 5 #[v, v2] w fun e w' => BPost w true e w' := by
  have HP := Lib.hid h
  have HC := Lib.hid h2
  obtain ⟨A1, c1, A2, c2, A3, c3, rfl, HI, H1, H2, H3⟩ := h.opened
  obtain ⟨B1, d1, B2, d2, B3, d3, rfl, HX, HY, HR⟩ := h2.opened
  clear h h2
  obtain ⟨vars, hv⟩ : ∃ n, n = p.vars := ⟨_, rfl⟩
  rw [← hv] at HP ⊢
  obtain ⟨kd, hkd⟩ : ∃ k, k = c.kind := ⟨_, rfl⟩
  rw [← hkd] at HC ⊢
  clear hv hkd
  go_enter Try.func5, Try.ntmps5
  go_wp2_with fail
  have H0 := Lib.hid (HS.two (w := w) #[.int .i64 vars, .slice A1 p.free.length c1, .slice A2 p.goal.length c2, .slice A3 p.rows.length c3] #[.int .i64 kd, .slice B1 c.x.length d1, .slice B2 c.y.length d2, .slice B3 c.ray.length d3] 26 44)
  generalize (w.alloc (.cells #[.int .i64 vars, .slice A1 p.free.length c1, .slice A2 p.goal.length c2, .slice A3 p.rows.length c3] 26)).alloc (.cells #[.int .i64 kd, .slice B1 c.x.length d1, .slice B2 c.y.length d2, .slice B3 c.ray.length d3] 44) = W0 at *
  refine (within_calls W0 _ p 20 30 (HP.out.of_below H0.out.2) (by decide) (by decide)).mono ?_
  rintro e w1 ⟨rfl, hb⟩
  have K1 := Lib.hid (H0.out.step hb)
  obtain ⟨x0, x1, x2, x3⟩ := K1.out.c4 1 rfl
  obtain ⟨y0, y1, y2, y3⟩ := K1.out.c4 0 rfl
  clear hb
  cases hw : withinB p 20 30 with
  | false =>
    clear hw
    go_wp2_with fail
    go_ret
    exact ⟨rfl, K1.out.2⟩
  | true =>
    have HW := Lib.hid hw
    clear hw
    go_wp2_with fail
    refine (cert_calls w1 _ c 31 (HC.out.of_below K1.out.2) (by decide)).mono ?_
    rintro e w2 ⟨rfl, hb⟩
    have K2 := Lib.hid (K1.out.step hb)
    obtain ⟨x0, x1, x2, x3⟩ := K2.out.c4 1 rfl
    obtain ⟨y0, y1, y2, y3⟩ := K2.out.c4 0 rfl
    clear hb
    cases hc : certB c 31 with
    | false =>
      clear hc
      go_wp2_with fail
      go_ret
      exact ⟨rfl, K2.out.2⟩
    | true =>
      have HPF := Lib.hid (HP.out.full HW.out)
      have HCF := Lib.hid (HC.out.full hc)
      have HJ := Lib.hid (judge_same HW.out hc)
      have hl := (certB_ok hc).1
      have hlx : c.x.length ≤ 100000 := by omega
      have hly : c.y.length ≤ 100000 := by omega
      have hlr : c.ray.length ≤ 100000 := by omega
      have cells : ∀ W, HS w [(w.heap.size + 1, 44, #[.int .i64 kd, .slice B1 c.x.length d1, .slice B2 c.y.length d2, .slice B3 c.ray.length d3]), (w.heap.size, 26, #[.int .i64 vars, .slice A1 p.free.length c1, .slice A2 p.goal.length c2, .slice A3 p.rows.length c3])] W → (W.cell? ⟨w.heap.size, 0, none⟩ = some (.int .i64 vars) ∧ W.cell? ⟨w.heap.size, 1, none⟩ = some (.slice A1 p.free.length c1) ∧ W.cell? ⟨w.heap.size, 2, none⟩ = some (.slice A2 p.goal.length c2) ∧ W.cell? ⟨w.heap.size, 3, none⟩ = some (.slice A3 p.rows.length c3) ∧ W.cell? ⟨w.heap.size + 1, 0, none⟩ = some (.int .i64 kd) ∧ W.cell? ⟨w.heap.size + 1, 1, none⟩ = some (.slice B1 c.x.length d1) ∧ W.cell? ⟨w.heap.size + 1, 2, none⟩ = some (.slice B2 c.y.length d2) ∧ W.cell? ⟨w.heap.size + 1, 3, none⟩ = some (.slice B3 c.ray.length d3)) := fun W h => by
        obtain ⟨a, b, c, d⟩ := h.c4 1 rfl
        obtain ⟨e, f, g, i⟩ := h.c4 0 rfl
        exact ⟨a, b, c, d, e, f, g, i⟩
      have HCELLS := Lib.hid cells
      clear cells hc x0 x1 x2 x3 y0 y1 y2 y3 hl
      go_wp2_with fail
      go_region_held3 (fun W => (W.cell? ⟨w.heap.size, 0, none⟩ = some (.int .i64 vars) ∧ W.cell? ⟨w.heap.size, 1, none⟩ = some (.slice A1 p.free.length c1) ∧ W.cell? ⟨w.heap.size, 2, none⟩ = some (.slice A2 p.goal.length c2) ∧ W.cell? ⟨w.heap.size, 3, none⟩ = some (.slice A3 p.rows.length c3) ∧ W.cell? ⟨w.heap.size + 1, 0, none⟩ = some (.int .i64 kd) ∧ W.cell? ⟨w.heap.size + 1, 1, none⟩ = some (.slice B1 c.x.length d1) ∧ W.cell? ⟨w.heap.size + 1, 2, none⟩ = some (.slice B2 c.y.length d2) ∧ W.cell? ⟨w.heap.size + 1, 3, none⟩ = some (.slice B3 c.ray.length d3)) ∧ HS w [(w.heap.size + 1, 44, #[.int .i64 kd, .slice B1 c.x.length d1, .slice B2 c.y.length d2, .slice B3 c.ray.length d3]), (w.heap.size, 26, #[.int .i64 vars, .slice A1 p.free.length c1, .slice A2 p.goal.length c2, .slice A3 p.rows.length c3])] W)
        (first
          | exact ⟨HCELLS.out _ K2.out.drew, K2.out.drew⟩
          | (have hk9 := HS.step (And.right ‹_ ∧ HS _ _ _›) ‹_›; exact ⟨HCELLS.out _ hk9, hk9⟩))
        (first
          | (go_at_call 28; refine (judge_calls _ _ _ p c (HPF.out.of_below (And.right ‹_ ∧ HS _ _ _›).2) (HCF.out.of_below (And.right ‹_ ∧ HS _ _ _›).2) hlx hly hlr).mono ?_; rintro e w' ⟨rfl, hb⟩)
          | (go_at_call 29; refine (rjudge_calls _ _ _ p c (HPF.out.of_below (And.right ‹_ ∧ HS _ _ _›).2) (HCF.out.of_below (And.right ‹_ ∧ HS _ _ _›).2) hlx hly hlr).mono ?_; rintro e w' ⟨rfl, hb⟩; have hb7 := (HS.step (And.right ‹_ ∧ HS _ _ _›) hb).2))
      have hff : (judgeB p c == rjudgeB p c) = true := by rw [HJ.out]; simp
      go_wp2_with fail
      go_ret
      exact ⟨congrArg (fun b => Ending.returned (.bool b)) hff, hb7⟩
end Go.Proofs.Ytfhambfgjigneaa

/- Contracts of Go functions that the statement reaches, proved by walking their text, and plain laws over them (texts put together). -/
import Derived.Test.YtfhambfgjigneaaK9
set_option linter.unusedVariables false
set_option linter.unusedSimpArgs false
namespace Go.Proofs.Ytfhambfgjigneaa
open Go.RowKit
theorem valueP_size (p : ProgF) (x : List RawF) : sizeQ (valueP p x) ≤ 4096 := by
  unfold valueP
  split
  · rw [sizeQ_zero]; decide
  · exact capQ_size _
theorem rcmp_same (w : World) (v v2 : Value) (f g : RawF) (h : FR w v f) (h2 : FR w v2 g) (he : fixQ f = fixQ g) : Calls Try.prog 22 #[v, v2] w fun e w' => IPost w 0 e w' := by
  have := rcmp_calls w v v2 f g h h2
  rw [he, ordQ_self] at this
  exact this
set_option maxHeartbeats 16000000 in
set_option maxRecDepth 100000 in
theorem looks_calls (w : World) (v v2 : Value) (p : ProgF) (x : List RawF) (h : PG0 w v p) (h2 : FL0 w v2 x) (hx : x.length ≤ 9223372036854775807) : Calls Try.prog 4 #[v, v2] w fun e w' => BPost w true e w' := by
  have HP := Lib.hid h
  obtain ⟨A1, c1, A2, c2, A3, c3, rfl, HI, H1, H2, H3⟩ := h.opened
  obtain ⟨A4, c4, rfl, hc4⟩ := h2.slice
  have HX := Lib.hid h2
  clear h h2
  obtain ⟨vars, hv⟩ : ∃ n, n = p.vars := ⟨_, rfl⟩
  rw [← hv] at HP ⊢
  clear hv
  go_enter Try.func4, Try.ntmps4
  go_wp2_with fail
  have H0 := Lib.hid (HS.one (w := w) #[.int .i64 vars, .slice A1 p.free.length c1, .slice A2 p.goal.length c2, .slice A3 p.rows.length c3] 26)
  generalize w.alloc (.cells #[.int .i64 vars, .slice A1 p.free.length c1, .slice A2 p.goal.length c2, .slice A3 p.rows.length c3] 26) = W0 at *
  refine (within_calls W0 _ p 40 60 (HP.out.of_below H0.out.2) (by decide) (by decide)).mono ?_
  rintro e w1 ⟨rfl, hb⟩
  have H1' := Lib.hid (H0.out.step hb)
  obtain ⟨x0, x1, x2, x3⟩ := H1'.out.c4 0 rfl
  clear hb
  cases hw : withinB p 40 60 with
  | false =>
    clear hw
    go_wp2_with fail
    go_ret
    exact ⟨rfl, H1'.out.2⟩
  | true =>
    have HW := Lib.hid hw
    clear hw
    by_cases a1 : x.length > 41
    · have t1 : decide ((x.length : Int) > 41) = true := decide_eq_true (by omega)
      clear a1
      go_wp2_with fail
      go_ret
      exact ⟨rfl, H1'.out.2⟩
    have t1 : decide ((x.length : Int) > 41) = false := decide_eq_false (by omega)
    clear a1
    go_wp2_with fail
    refine (words_calls w1 _ x 6 (HX.out.below EF0.stays H1'.out.2) hx (by decide)).mono ?_
    rintro e w2 ⟨rfl, hb⟩
    have H2' := Lib.hid (H1'.out.step hb)
    obtain ⟨x0, x1, x2, x3⟩ := H2'.out.c4 0 rfl
    clear hb
    cases hxw : wordsB x 6 with
    | false =>
      clear hxw
      go_wp2_with fail
      go_ret
      exact ⟨rfl, H2'.out.2⟩
    | true =>
      have HXW := Lib.hid hxw
      have HPF := Lib.hid (HP.out.full HW.out)
      have HXF := Lib.hid (HX.out.full (by decide) hxw)
      have HVS := Lib.hid (value_same (k := 6) HW.out hxw (by decide) (by decide))
      have HFS := Lib.hid (fits_same (k := 6) HW.out hxw (by decide) (by decide))
      clear hxw x0 x1 x2 x3
      go_wp2_with fail
      have hrr : (rightP p == rightP p) = true := by simp
      go_region_held3 (fun W => (W.cell? ⟨w.heap.size, 0, none⟩ = some (.int .i64 vars) ∧ W.cell? ⟨w.heap.size, 1, none⟩ = some (.slice A1 p.free.length c1) ∧ W.cell? ⟨w.heap.size, 2, none⟩ = some (.slice A2 p.goal.length c2) ∧ W.cell? ⟨w.heap.size, 3, none⟩ = some (.slice A3 p.rows.length c3)) ∧ HS w [(w.heap.size, 26, #[.int .i64 vars, .slice A1 p.free.length c1, .slice A2 p.goal.length c2, .slice A3 p.rows.length c3])] W)
        (first
          | exact ⟨H2'.out.drew.c4 0 rfl, H2'.out.drew⟩
          | (have hk9 := HS.step (And.right ‹_ ∧ HS _ _ _›) ‹_›; exact ⟨hk9.c4 0 rfl, hk9⟩))
        (first
          | (go_at_call 20; refine (pright_calls _ _ p (HPF.out.of_below (And.right ‹_ ∧ HS _ _ _›).2)).mono ?_; rintro e w' ⟨rfl, hb⟩)
          | (go_at_call 21; refine (r2right_calls _ _ p (HPF.out.of_below (And.right ‹_ ∧ HS _ _ _›).2)).mono ?_; rintro e w' ⟨rfl, hb⟩)
          | (go_at_call 23; refine (value_calls _ _ _ p x (HPF.out.of_below (And.right ‹_ ∧ HS _ _ _›).2) (HXF.out.below EF.stays (And.right ‹_ ∧ HS _ _ _›).2)).mono ?_; rintro e w' ⟨v, rfl, hv, hb⟩; obtain ⟨A5, n5, c5, A6, n6, c6, rfl, HV1⟩ := hv.opened; clear hv)
          | (go_at_call 24; refine (r2value_calls _ _ _ p x (HPF.out.of_below (And.right ‹_ ∧ HS _ _ _›).2) (HXF.out.below EF.stays (And.right ‹_ ∧ HS _ _ _›).2)).mono ?_; rintro e w' ⟨v, rfl, hv2, hb2⟩; obtain ⟨A7, n7, c7, A8, n8, c8, rfl, HV2⟩ := hv2.opened; have HV1' := Lib.hid (HV1.out.of_below hb2); clear hv2)
          | (go_at_call 22; refine (rcmp_same _ _ _ _ _ (FR.of_fq HV1'.out (valueP_size p x)) (FR.of_fq HV2.out (by rw [← HVS.out]; exact valueP_size p x)) (by rw [HVS.out])).mono ?_; rintro e w' ⟨rfl, hb⟩)
          | (go_at_call 25; refine (pfits_calls _ _ _ p x (HPF.out.of_below (And.right ‹_ ∧ HS _ _ _›).2) (HXF.out.below EF.stays (And.right ‹_ ∧ HS _ _ _›).2)).mono ?_; rintro e w' ⟨rfl, hb⟩)
          | (go_at_call 26; refine (rfits_calls _ _ _ p x (HPF.out.of_below (And.right ‹_ ∧ HS _ _ _›).2) (HXF.out.below EF.stays (And.right ‹_ ∧ HS _ _ _›).2)).mono ?_; rintro e w' ⟨rfl, hb⟩; have hb7 := (HS.step (And.right ‹_ ∧ HS _ _ _›) hb).2))
      have hff : (fitsP p x == rfitsP p x) = true := by rw [HFS.out]; simp
      go_wp2_with fail
      go_ret
      exact ⟨congrArg (fun b => Ending.returned (.bool b)) hff, hb7⟩
end Go.Proofs.Ytfhambfgjigneaa

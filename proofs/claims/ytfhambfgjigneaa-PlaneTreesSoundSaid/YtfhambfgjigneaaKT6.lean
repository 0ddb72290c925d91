/- Contracts of the Go functions that the statement reaches, and plain laws over them. -/
import Derived.Test.YtfhambfgjigneaaKT5
import Derived.Test.YtfhambfgjigneaaKT4
set_option linter.unusedVariables false
set_option linter.unusedSimpArgs false
set_option maxHeartbeats 64000000
set_option maxRecDepth 100000
namespace Go.Proofs.Ytfhambfgjigneaa
open Go.RowKit
structure X60 where
 l8 : Value
 v9 : Value
 l15 : Value
 v16 : Value
 l28 : Value
 v29 : Value
def put60 (A : Act) (x : X60) : Act := (((((A.put (some 312) x.l8).put (some 313) x.v9).put (some 319) x.l15).put (some 320) x.v16).put (some 332) x.l28).put (some 333) x.v29
theorem sq1 (P : Prop) (h : P := by
 refine And.intro HX4.out ?_
 refine forkK_one O16.out ?_
 refine wpl_bagF rfl (.tmp 317) (.tmp 319) rfl HS4.out.bag 7 _ ((p.rows.map bOfR).take i) rfl rfl (bOfR r) rfl K15_4.out HQ4.out (by rw [ltk]; omega) ?_
 intro v16 V5 hbg hst
 obtain ⟨E16, n16, c16, rfl⟩ : ∃ E n c, v16 = .slice E n c := (by obtain ⟨A, n, c, e, _⟩ := (hbg.ok 7 _ _ rfl).slice; exact ⟨A, n, c, e⟩)
 have HS5 := Hd (HS4.out.app (i := 7) rfl hbg hst)
 have HX5 := Hd (HX4.out.next (SameT.of_blk HS4.out.t HS5.out.t) (SameT.of_step hst (HS4.out.bag.own_lt (i := 0) rfl) (HS4.out.bag.ne_own (i := 7) (j := 0) (by decide) rfl rfl)) (SameT.of_step hst (HS4.out.bag.own_lt (i := 5) rfl) (HS4.out.bag.ne_own (i := 7) (j := 5) (by decide) rfl rfl)))
 have HQ5 := Hd (HQ4.out.keeps hst.1)
 have K28_5 : Hid (Blk V5 gl28 3 #[.int .i64 (ny : Int)]) := ((hst.2.1 gl28 K28_4.out.lt (HS4.out.bag.ne_typ (i := 7) rfl K28_4.out (by show (40 : Nat) ≠ 3; decide))).trans K28_4.out)
 clear hbg hst
 refine And.intro HX5.out ?_
 refine forkK_one O29.out ?_
 refine wpl_bagI rfl (.tmp 324) (.tmp 332) rfl HS5.out.bag 8 _ (il.take i) rfl rfl (ny : Int) rfl K28_5.out (by rw [ltk]; omega) ?_
 intro v29 V6 hbg hst
 obtain ⟨E29, n29, c29, rfl⟩ : ∃ E n c, v29 = .slice E n c := (by obtain ⟨A, n, c, e, _⟩ := (hbg.ok 8 _ _ rfl).slice; exact ⟨A, n, c, e⟩)
 have HS6 := Hd (HS5.out.app (i := 8) rfl hbg hst)
 have HX6 := Hd (HX5.out.next (SameT.of_blk HS5.out.t HS6.out.t) (SameT.of_step hst (HS5.out.bag.own_lt (i := 0) rfl) (HS5.out.bag.ne_own (i := 8) (j := 0) (by decide) rfl rfl)) (SameT.of_step hst (HS5.out.bag.own_lt (i := 5) rfl) (HS5.out.bag.ne_own (i := 8) (j := 5) (by decide) rfl rfl)))
 have HQ6 := Hd (HQ5.out.keeps hst.1)
 clear hbg hst
 refine And.intro HX6.out ?_
 refine forkK_fin ?_
 exact fin_eq (HK60.out (X60.mk (.slice (some ⟨gl8, 0, none⟩) 1 1) (.slice E9 n9 c9) (.slice (some ⟨gl15, 0, none⟩) 1 1) (.slice E16 n16 c16) (.slice (some ⟨gl28, 0, none⟩) 1 1) (.slice E29 n29 c29)) _ ⟨_, _, _, _, _, _, _, _, _, _, _, _, rfl, HS6.out⟩) (by kernel_rfl)) : P := h
theorem sq5 (P : Prop) (h : P := by
 have HNX : Hid (idN p.rows sl rb (i + 1) = (il ++ [(wd : Int)], wd + 1)) := by unfold Hid; rw [idN, HIN.out, HIC.out]; rfl
 have HS6 := Hd (HS5.out.tput 12 (.slice T1 (i + 1) tc1) rfl (by decide))
 clear x0 x4 x5 x6 x7 x8 x9 x10 x11 x12 hltt fzt
 clear z0 z1 z2 z3 z4 hlr hrt hrt2 hgS kS fS hSt hSt2 HR5
 generalize W5.setCell ⟨gt, 12, none⟩ (.slice T1 (i + 1) tc1) = W6 at *
 clear HS5
 obtain ⟨x0, x4, x5, x6, x7, x8, x9, x10, x11, x12⟩ := HS6.out.t.c13
 have hltt := HS6.out.t.lt
 have fzt := HS6.out.t.frozen
 have hlt0 := hltt
 go_wp2_with fail
 refine wp_chainF (l := [_, _, _, _, _, _, _, _, _, _, _, _, _, _]) (S := SameT gt W6) 11 [([0, 1, 2, 3, 4, 5, 6, 7, 8], 9), ([], 10)] [] (by kernel_rfl) (by kernel_rfl) (by kernel_rfl) rfl (SameT.of_below Bd hltt) ?_
 refine ⟨?_, _, ?_, rfl, ?_⟩
 rotate_left
 ·(iterate 9 ((refine pu ?_); (try simp only [SQ])))
  exact rfl
 clear x0 x4 x5 x6 x7 x8 x9 x10 x11 x12 hltt fzt
 go_wp2_with fail
 have D1 : Hid (Below W6.heap.size W6 (W6.alloc (.cells #[.int .i64 ((wd : Int))] 3)).drew) := Below.drew (below_new _ _)
 have HS7 := Hd (HS6.out.to D1.out)
 have HK7 : Hid (Blk (W6.alloc (.cells #[.int .i64 ((wd : Int))] 3)).drew W6.heap.size 3 #[.int .i64 ((wd : Int))]) := Blk.new W6 3 #[.int .i64 ((wd : Int))]
 refine And.intro (SameT.of_below D1.out hlt0) ⟨_, _, rfl, rfl, ?_⟩
 generalize (W6.alloc (.cells #[.int .i64 ((wd : Int))] 3)).drew = W7 at *
 obtain ⟨gl, hgl⟩ : ∃ g, g = W6.heap.size := ⟨_, rfl⟩
 rw [← hgl] at HK7 ⊢
 clear hgl
 refine wpl_bagI rfl (.tmp 173) (.tmp 178) rfl HS7.out.bag 4 _ il rfl rfl ((wd : Int)) rfl HK7.out (by have := HIL.out; omega) ?_
 intro v8 W8 hbag8 hst8
 obtain ⟨I1, ic1, rfl⟩ := hbag8.isl (i := 4) (k := i + 1) rfl (by rw [lap, HIL.out]; rfl)
 have HS8 := Hd (HS7.out.app (i := 4) rfl hbag8 hst8)
 refine And.intro (SameT.of_blk HS6.out.t HS8.out.t) ⟨_, rfl, ?_⟩
 simp only [SQ, List.drop_succ_cons, List.drop_zero]
 clear hbag8 hst8 HS7 HK7 hlt0
 obtain ⟨x0, x4, x5, x6, x7, x8, x9, x10, x11, x12⟩ := HS8.out.t.c13
 have hltt := HS8.out.t.lt
 have fzt := HS8.out.t.frozen
 go_wp2_with fail
 refine NoPanic.normal ?_
 have HS9 := Hd (HS8.out.tput 11 (.slice I1 (i + 1) ic1) rfl (by decide))
 clear x0 x4 x5 x6 x7 x8 x9 x10 x11 x12 hltt fzt
 generalize W8.setCell ⟨gt, 11, none⟩ (.slice I1 (i + 1) ic1) = W9 at *
 clear HS8
 obtain ⟨x0, x4, x5, x6, x7, x8, x9, x10, x11, x12⟩ := HS9.out.t.c13
 have hltt := HS9.out.t.lt
 have fzt := HS9.out.t.frozen
 have mr : (wd : Int) + 1 ≤ 9223372036854775807 := by omega
 go_wp2_with fail
 have HS10 := Hd (HS9.out.tput 10 (.int .i64 ((wd : Int) + 1)) rfl (by decide))
 go_roundw
 case rel => exact ⟨i + 1, by omega, by go_num, _, _, by rw [HTS.out, HNX.out]; exact HS10.out⟩
 case measure => simp [intOf]; omega) : P := h
theorem sq6 (P : Prop) (h : P := by
 refine And.intro HX3.out ?_
 refine forkK_two O16.out O28.out ?_ ?_
 ·as_aux_lemma =>
   refine wpl_bagF rfl (.tmp 317) (.tmp 319) rfl HS3.out.bag 7 _ ((p.rows.map bOfR).take i) rfl rfl (bOfR r) rfl K15_3.out HQ3.out (by rw [ltk]; omega) ?_
   intro v16 V4 hbg hst
   obtain ⟨E16, n16, c16, rfl⟩ : ∃ E n c, v16 = .slice E n c := (by obtain ⟨A, n, c, e, _⟩ := (hbg.ok 7 _ _ rfl).slice; exact ⟨A, n, c, e⟩)
   have HS4 := Hd (HS3.out.app (i := 7) rfl hbg hst)
   have HX4 := Hd (HX3.out.next (SameT.of_blk HS3.out.t HS4.out.t) (SameT.of_step hst (HS3.out.bag.own_lt (i := 0) rfl) (HS3.out.bag.ne_own (i := 7) (j := 0) (by decide) rfl rfl)) (SameT.of_step hst (HS3.out.bag.own_lt (i := 5) rfl) (HS3.out.bag.ne_own (i := 7) (j := 5) (by decide) rfl rfl)))
   have HQ4 := Hd (HQ3.out.keeps hst.1)
   clear hbg hst
   refine And.intro HX4.out ?_
   refine forkK_one O28.out ?_
   go_wp2_with fail
   have hn := below_new V4 (.cells #[.int .i64 (ny : Int)] 3)
   have HS5 := Hd (HS4.out.to hn)
   have HX5 := Hd (HX4.out.next (SameT.of_below hn HS4.out.t.lt) (SameT.of_below hn (HS4.out.bag.own_lt (i := 0) rfl)) (SameT.of_below hn (HS4.out.bag.own_lt (i := 5) rfl)))
   have HQ5 := Hd (HQ4.out.of_below hn)
   have K28_5 := Hd (Blk.new V4 3 #[.int .i64 (ny : Int)])
   obtain ⟨gl28, hgl⟩ : ∃ g, g = V4.heap.size := ⟨_, rfl⟩
   rw [← hgl] at K28_5 ⊢
   clear hgl hn
   generalize V4.alloc (.cells #[.int .i64 (ny : Int)] 3) = V5 at *
   refine And.intro HX5.out ?_
   refine forkK_one O29.out ?_
   refine wpl_bagI rfl (.tmp 324) (.tmp 332) rfl HS5.out.bag 8 _ (il.take i) rfl rfl (ny : Int) rfl K28_5.out (by rw [ltk]; omega) ?_
   intro v29 V6 hbg hst
   obtain ⟨E29, n29, c29, rfl⟩ : ∃ E n c, v29 = .slice E n c := (by obtain ⟨A, n, c, e, _⟩ := (hbg.ok 8 _ _ rfl).slice; exact ⟨A, n, c, e⟩)
   have HS6 := Hd (HS5.out.app (i := 8) rfl hbg hst)
   have HX6 := Hd (HX5.out.next (SameT.of_blk HS5.out.t HS6.out.t) (SameT.of_step hst (HS5.out.bag.own_lt (i := 0) rfl) (HS5.out.bag.ne_own (i := 8) (j := 0) (by decide) rfl rfl)) (SameT.of_step hst (HS5.out.bag.own_lt (i := 5) rfl) (HS5.out.bag.ne_own (i := 8) (j := 5) (by decide) rfl rfl)))
   have HQ6 := Hd (HQ5.out.keeps hst.1)
   clear hbg hst
   refine And.intro HX6.out ?_
   refine forkK_fin ?_
   exact fin_eq (HK60.out (X60.mk (.slice (some ⟨gl8, 0, none⟩) 1 1) (.slice E9 n9 c9) (.slice (some ⟨gl15, 0, none⟩) 1 1) (.slice E16 n16 c16) (.slice (some ⟨gl28, 0, none⟩) 1 1) (.slice E29 n29 c29)) _ ⟨_, _, _, _, _, _, _, _, _, _, _, _, rfl, HS6.out⟩) (by kernel_rfl)
 ·as_aux_lemma =>
   go_wp2_with fail
   have hn := below_new V3 (.cells #[.int .i64 (ny : Int)] 3)
   have HS4 := Hd (HS3.out.to hn)
   have HX4 := Hd (HX3.out.next (SameT.of_below hn HS3.out.t.lt) (SameT.of_below hn (HS3.out.bag.own_lt (i := 0) rfl)) (SameT.of_below hn (HS3.out.bag.own_lt (i := 5) rfl)))
   have HQ4 := Hd (HQ3.out.of_below hn)
   have K15_4 := Hd (K15_3.out.below hn K15_3.out.lt)
   have K28_4 := Hd (Blk.new V3 3 #[.int .i64 (ny : Int)])
   obtain ⟨gl28, hgl⟩ : ∃ g, g = V3.heap.size := ⟨_, rfl⟩
   rw [← hgl] at K28_4 ⊢
   clear hgl hn
   generalize V3.alloc (.cells #[.int .i64 (ny : Int)] 3) = V4 at *
   exact sq1 _) : P := h
theorem sq8 (P : Prop) (h : P := by
 refine And.intro HX3.out ?_
 refine forkK_one O9.out ?_
 refine wpl_bagG rfl (.tmp 310) (.tmp 312) rfl HS3.out.bag 6 _ gl rfl rfl (go, wd) rfl K8_3.out (by rw [HGL.out]; omega) ?_
 intro v9 V4 hbg hst
 obtain ⟨E9, n9, c9, rfl⟩ : ∃ E n c, v9 = .slice E n c := (by obtain ⟨A, n, c, e, _⟩ := (hbg.ok 6 _ _ rfl).slice; exact ⟨A, n, c, e⟩)
 have HS4 := Hd (HS3.out.app (i := 6) rfl hbg hst)
 have HX4 := Hd (HX3.out.next (SameT.of_blk HS3.out.t HS4.out.t) (SameT.of_step hst (HS3.out.bag.own_lt (i := 0) rfl) (HS3.out.bag.ne_own (i := 6) (j := 0) (by decide) rfl rfl)) (SameT.of_step hst (HS3.out.bag.own_lt (i := 5) rfl) (HS3.out.bag.ne_own (i := 6) (j := 5) (by decide) rfl rfl)))
 have HQ4 := Hd (HQ3.out.keeps hst.1)
 have K15_4 : Hid (Blk V4 gl15 40 #[.bool (negQ (bOfR r)), .slice C1 e1 f1, .slice C2 e2 f2]) := ((hst.2.1 gl15 K15_3.out.lt (HS3.out.bag.ne_typ (i := 6) rfl K15_3.out (by show (23 : Nat) ≠ 40; decide))).trans K15_3.out)
 have K28_4 : Hid (Blk V4 gl28 3 #[.int .i64 (ny : Int)]) := ((hst.2.1 gl28 K28_3.out.lt (HS3.out.bag.ne_typ (i := 6) rfl K28_3.out (by show (23 : Nat) ≠ 3; decide))).trans K28_3.out)
 clear hbg hst
 exact sq1 _) : P := h
theorem sq29 (P : Prop) (h : P := by
 refine And.intro HX3.out ?_
 refine forkK_one O15.out ?_
 go_wp2_with fail
 have hn := below_new V3 (.cells #[.bool (negQ (bOfR r)), .slice C1 e1 f1, .slice C2 e2 f2] 40)
 have HS4 := Hd (HS3.out.to hn)
 have HX4 := Hd (HX3.out.next (SameT.of_below hn HS3.out.t.lt) (SameT.of_below hn (HS3.out.bag.own_lt (i := 0) rfl)) (SameT.of_below hn (HS3.out.bag.own_lt (i := 5) rfl)))
 have HQ4 := Hd (HQ3.out.of_below hn)
 have K28_4 := Hd (K28_3.out.below hn K28_3.out.lt)
 have K15_4 := Hd (Blk.new V3 40 #[.bool (negQ (bOfR r)), .slice C1 e1 f1, .slice C2 e2 f2])
 obtain ⟨gl15, hgl⟩ : ∃ g, g = V3.heap.size := ⟨_, rfl⟩
 rw [← hgl] at K15_4 ⊢
 clear hgl hn
 generalize V3.alloc (.cells #[.bool (negQ (bOfR r)), .slice C1 e1 f1, .slice C2 e2 f2] 40) = V4 at *
 exact sq1 _) : P := h
theorem sq10 (P : Prop) (h : P := by
 refine And.intro HX2.out ?_
 refine forkK_two O9.out O15.out ?_ ?_
 ·as_aux_lemma =>
   refine wpl_bagG rfl (.tmp 310) (.tmp 312) rfl HS2.out.bag 6 _ gl rfl rfl (go, wd) rfl K8_2.out (by rw [HGL.out]; omega) ?_
   intro v9 V3 hbg hst
   obtain ⟨E9, n9, c9, rfl⟩ : ∃ E n c, v9 = .slice E n c := (by obtain ⟨A, n, c, e, _⟩ := (hbg.ok 6 _ _ rfl).slice; exact ⟨A, n, c, e⟩)
   have HS3 := Hd (HS2.out.app (i := 6) rfl hbg hst)
   have HX3 := Hd (HX2.out.next (SameT.of_blk HS2.out.t HS3.out.t) (SameT.of_step hst (HS2.out.bag.own_lt (i := 0) rfl) (HS2.out.bag.ne_own (i := 6) (j := 0) (by decide) rfl rfl)) (SameT.of_step hst (HS2.out.bag.own_lt (i := 5) rfl) (HS2.out.bag.ne_own (i := 6) (j := 5) (by decide) rfl rfl)))
   have HQ3 := Hd (HQ2.out.keeps hst.1)
   have K28_3 : Hid (Blk V3 gl28 3 #[.int .i64 (ny : Int)]) := ((hst.2.1 gl28 K28_2.out.lt (HS2.out.bag.ne_typ (i := 6) rfl K28_2.out (by show (23 : Nat) ≠ 3; decide))).trans K28_2.out)
   clear hbg hst
   exact sq29 _
 ·as_aux_lemma =>
   go_wp2_with fail
   have hn := below_new V2 (.cells #[.bool (negQ (bOfR r)), .slice C1 e1 f1, .slice C2 e2 f2] 40)
   have HS3 := Hd (HS2.out.to hn)
   have HX3 := Hd (HX2.out.next (SameT.of_below hn HS2.out.t.lt) (SameT.of_below hn (HS2.out.bag.own_lt (i := 0) rfl)) (SameT.of_below hn (HS2.out.bag.own_lt (i := 5) rfl)))
   have HQ3 := Hd (HQ2.out.of_below hn)
   have K8_3 := Hd (K8_2.out.below hn K8_2.out.lt)
   have K28_3 := Hd (K28_2.out.below hn K28_2.out.lt)
   have K15_3 := Hd (Blk.new V2 40 #[.bool (negQ (bOfR r)), .slice C1 e1 f1, .slice C2 e2 f2])
   obtain ⟨gl15, hgl⟩ : ∃ g, g = V2.heap.size := ⟨_, rfl⟩
   rw [← hgl] at K15_3 ⊢
   clear hgl hn
   generalize V2.alloc (.cells #[.bool (negQ (bOfR r)), .slice C1 e1 f1, .slice C2 e2 f2] 40) = V3 at *
   exact sq8 _) : P := h
theorem sq11 (P : Prop) (h : P := by
 have HIC : Hid (idC p.rows sl i = true) := by unfold Hid; rw [idC_eq HXD.out HSO.out HTO.out]; simp [h0, h1']
 clear h0 h1 h1'
 have HNX : Hid (idN p.rows sl rb (i + 1) = (il ++ [x], wd)) := by unfold Hid; rw [idN, HIN.out, HIC.out]; rw [HXD.out]; rfl
 have HS6 := Hd (HS5.out.tput 12 (.slice T1 (i + 1) tc1) rfl (by decide))
 clear x0 x4 x5 x6 x7 x8 x9 x10 x11 x12 hltt fzt
 clear z0 z1 z2 z3 z4 hlr hrt hrt2 hgS kS fS hSt hSt2 HR5
 generalize W5.setCell ⟨gt, 12, none⟩ (.slice T1 (i + 1) tc1) = W6 at *
 clear HS5
 obtain ⟨x0, x4, x5, x6, x7, x8, x9, x10, x11, x12⟩ := HS6.out.t.c13
 have hltt := HS6.out.t.lt
 have fzt := HS6.out.t.frozen
 obtain ⟨gs', eS, hgS, kS, fS⟩ := HS6.out.bag.iat (i := 2) (j := i) (x := x) rfl HSX.out
 obtain rfl : gs = gs' := (by injection eS with eS; injection eS)
 clear eS
 have hgS0 := hgS
 have hlt0 := hltt
 go_wp2_with fail
 refine wp_chainF (l := [_, _, _, _, _, _, _, _, _, _, _, _, _, _]) (S := Same2 gt gs W6) 11 [([0, 1, 2, 3, 4, 5, 6, 7, 8], 9), ([], 10)] [] (by kernel_rfl) (by kernel_rfl) (by kernel_rfl) rfl ⟨SameT.of_below Bd hltt, SameT.of_below Bd hgS⟩ ?_
 refine ⟨?_, _, ?_, rfl, ?_⟩
 rotate_left
 ·(iterate 9 ((refine ⟨_, ?_, rfl, Or.inl ⟨by rfl, ?_⟩, ?_⟩; rotate_left; focus (intro W hW; have hcW := hW.1; have hcW2 := hW.2; clear hW; unfold SameT at hcW hcW2; go_simp; try with_reducible rfl)); (try simp only [SQ])))
  exact rfl
 clear x0 x4 x5 x6 x7 x8 x9 x10 x11 x12 hltt fzt
 clear hgS kS fS
 go_wp2_with fail
 have D1 : Hid (Below W6.heap.size W6 (W6.alloc (.cells #[.int .i64 (x)] 3)).drew) := Below.drew (below_new _ _)
 have HS7 := Hd (HS6.out.to D1.out)
 have HK7 : Hid (Blk (W6.alloc (.cells #[.int .i64 (x)] 3)).drew W6.heap.size 3 #[.int .i64 (x)]) := Blk.new W6 3 #[.int .i64 (x)]
 refine And.intro ⟨SameT.of_below D1.out hlt0, SameT.of_below D1.out hgS0⟩ ⟨_, _, rfl, rfl, ?_⟩
 generalize (W6.alloc (.cells #[.int .i64 (x)] 3)).drew = W7 at *
 obtain ⟨gl, hgl⟩ : ∃ g, g = W6.heap.size := ⟨_, rfl⟩
 rw [← hgl] at HK7 ⊢
 clear hgl
 refine wpl_bagI rfl (.tmp 160) (.tmp 165) rfl HS7.out.bag 4 _ il rfl rfl (x) rfl HK7.out (by have := HIL.out; omega) ?_
 intro v8 W8 hbag8 hst8
 obtain ⟨I1, ic1, rfl⟩ := hbag8.isl (i := 4) (k := i + 1) rfl (by rw [lap, HIL.out]; rfl)
 have HS8 := Hd (HS7.out.app (i := 4) rfl hbag8 hst8)
 refine And.intro ⟨SameT.of_blk HS6.out.t HS8.out.t, fun o => ((SameT.of_step hst8 (Nat.lt_of_lt_of_le hgS0 D1.out.size) (HS7.out.bag.ne_own (i := 4) (j := 2) (by decide) rfl rfl)) o).trans (SameT.of_below D1.out hgS0 o)⟩ ⟨_, rfl, ?_⟩
 simp only [SQ, List.drop_succ_cons, List.drop_zero]
 clear hbag8 hst8 HS7 HK7 hlt0 hgS0
 obtain ⟨x0, x4, x5, x6, x7, x8, x9, x10, x11, x12⟩ := HS8.out.t.c13
 have hltt := HS8.out.t.lt
 have fzt := HS8.out.t.frozen
 go_wp2_with fail
 refine NoPanic.normal ?_
 have HS9 := Hd (HS8.out.tput 11 (.slice I1 (i + 1) ic1) rfl (by decide))
 go_wp2_with fail
 go_roundw
 case rel => exact ⟨i + 1, by omega, by go_num, _, _, by rw [HTS.out, HNX.out]; exact HS9.out⟩
 case measure => simp [intOf]; omega) : P := h
theorem sq16 (P : Prop) (h : P := by
 clear hb
 go_upto_region 58 with (fail)
 go_wp2_with fail
 refine wp_chainF (l := [_, _, _, _, _, _, _, _, _]) (S := Below wr.heap.size wr) 8 [([0, 1, 2, 3, 4, 5], 6), ([], 7)] [] (by kernel_rfl) (by kernel_rfl) (by kernel_rfl) rfl Bd ?_
 refine ⟨?_, _, ?_, rfl, ?_⟩
 rotate_left
 ·(iterate 6 ((refine pu ?_); (try simp only [SQ])))
  exact rfl
 have D0 : Hid (Below wr.heap.size wr wr.drew) := Bd
 clear x0 x4 x5 x6 x7 x8 x9 x10 x11 x12 hltt fzt
 clear kT fT hgT kS hgS z0 z1 z2 z3 z4 hlr
 go_wp2_with fail
 refine (number_calls _ _ (by omega) (by omega)).mono ?_
 rintro e w2 ⟨v, rfl, hv, hb⟩
 rw [HNM.out] at hv
 obtain ⟨D7, n9, c9, D8, n10, c10, rfl, HF6⟩ := hv.opened
 have D6 := Hd (below_next D0.out hb)
 have HR6 := Hd (HRP.out.below D6.out)
 have HB6 := Hd (below_next HBr.out D6.out)
 clear hv hb
 go_wp2_with fail
 refine And.intro D6.out ⟨_, _, rfl, rfl, ?_⟩
 go_wp2_with fail
 refine And.intro D6.out ⟨_, rfl, ?_⟩
 simp only [SQ, List.drop_succ_cons, List.drop_zero]
 obtain ⟨o0, o1, o2, z0, z1, z2⟩ := HR6.out.cells hnx
 have g0 := HR6.out.free (nx * 3)
 have g1 := HR6.out.free (nx * 3 + 1)
 have g2 := HR6.out.free (nx * 3 + 2)
 have hgol := HR6.out.lt
 go_wp2_with fail
 refine NoPanic.normal ?_
 have hst := HR6.out.put (q := (num : Rat)) (qs' := (fillN ps ms (aOf r) wd n).set nx (num : Rat)) hnx HF6.out (by simp [notWord]) col_put
 have hb7 := below_put3' HB6.out HGO.out (nx * 3) (.bool (negQ (num : Rat))) (.slice D7 n9 c9) (.slice D8 n10 c10)
 go_wp2_with fail
 go_meet
 case rel => exact ⟨by rw [HRS1.out]; exact hst.1, hb7⟩) : P := h
theorem sq17 (P : Prop) (h : P := by
 refine And.intro HX2.out ?_
 refine forkK_two O9.out O28.out ?_ ?_
 ·as_aux_lemma =>
   refine wpl_bagG rfl (.tmp 310) (.tmp 312) rfl HS2.out.bag 6 _ gl rfl rfl (go, wd) rfl K8_2.out (by rw [HGL.out]; omega) ?_
   intro v9 V3 hbg hst
   obtain ⟨E9, n9, c9, rfl⟩ : ∃ E n c, v9 = .slice E n c := (by obtain ⟨A, n, c, e, _⟩ := (hbg.ok 6 _ _ rfl).slice; exact ⟨A, n, c, e⟩)
   have HS3 := Hd (HS2.out.app (i := 6) rfl hbg hst)
   have HX3 := Hd (HX2.out.next (SameT.of_blk HS2.out.t HS3.out.t) (SameT.of_step hst (HS2.out.bag.own_lt (i := 0) rfl) (HS2.out.bag.ne_own (i := 6) (j := 0) (by decide) rfl rfl)) (SameT.of_step hst (HS2.out.bag.own_lt (i := 5) rfl) (HS2.out.bag.ne_own (i := 6) (j := 5) (by decide) rfl rfl)))
   have HQ3 := Hd (HQ2.out.keeps hst.1)
   have K15_3 : Hid (Blk V3 gl15 40 #[.bool (negQ (bOfR r)), .slice C1 e1 f1, .slice C2 e2 f2]) := ((hst.2.1 gl15 K15_2.out.lt (HS2.out.bag.ne_typ (i := 6) rfl K15_2.out (by show (23 : Nat) ≠ 40; decide))).trans K15_2.out)
   clear hbg hst
   exact sq6 _
 ·as_aux_lemma =>
   go_wp2_with fail
   have hn := below_new V2 (.cells #[.int .i64 (ny : Int)] 3)
   have HS3 := Hd (HS2.out.to hn)
   have HX3 := Hd (HX2.out.next (SameT.of_below hn HS2.out.t.lt) (SameT.of_below hn (HS2.out.bag.own_lt (i := 0) rfl)) (SameT.of_below hn (HS2.out.bag.own_lt (i := 5) rfl)))
   have HQ3 := Hd (HQ2.out.of_below hn)
   have K8_3 := Hd (K8_2.out.below hn K8_2.out.lt)
   have K15_3 := Hd (K15_2.out.below hn K15_2.out.lt)
   have K28_3 := Hd (Blk.new V2 3 #[.int .i64 (ny : Int)])
   obtain ⟨gl28, hgl⟩ : ∃ g, g = V2.heap.size := ⟨_, rfl⟩
   rw [← hgl] at K28_3 ⊢
   clear hgl hn
   generalize V2.alloc (.cells #[.int .i64 (ny : Int)] 3) = V3 at *
   exact sq8 _) : P := h
theorem sq26 (P : Prop) (h : P := by
 refine And.intro HX2.out ?_
 refine forkK_one O8.out ?_
 go_wp2_with fail
 have hn := below_new V2 (.cells #[.slice (some ⟨go, 0, none⟩) wd wd] 23)
 have HS3 := Hd (HS2.out.to hn)
 have HX3 := Hd (HX2.out.next (SameT.of_below hn HS2.out.t.lt) (SameT.of_below hn (HS2.out.bag.own_lt (i := 0) rfl)) (SameT.of_below hn (HS2.out.bag.own_lt (i := 5) rfl)))
 have HQ3 := Hd (HQ2.out.of_below hn)
 have K15_3 := Hd (K15_2.out.below hn K15_2.out.lt)
 have K28_3 := Hd (K28_2.out.below hn K28_2.out.lt)
 have K8_3 := Hd (Blk.new V2 23 #[.slice (some ⟨go, 0, none⟩) wd wd])
 obtain ⟨gl8, hgl⟩ : ∃ g, g = V2.heap.size := ⟨_, rfl⟩
 rw [← hgl] at K8_3 ⊢
 clear hgl hn
 generalize V2.alloc (.cells #[.slice (some ⟨go, 0, none⟩) wd wd] 23) = V3 at *
 exact sq8 _) : P := h
theorem build_calls (w : World) (n m : Nat) (A1 A2 A3 : Option Addr) (c1 c2 c3 : Nat) (p : ProgQ) (hn : n ≤ 1000) (hm : m ≤ 1000) (hfl : p.free.length = n) (hrl : p.rows.length = m) (hfr : BL w (.slice A1 n c1) p.free) (hro : RO 0 w (.slice A3 m c3) p.rows) (hra : ∀ r ∈ p.rows, r.a.length = n) (hrs : ∀ r ∈ p.rows, SmallR r) (hss : ∀ r ∈ p.rows, -1 ≤ r.s ∧ r.s ≤ 1) :
  Calls Try.prog 103 #[.agg #[.int .i64 (n : Int), .slice A1 n c1, .slice A2 n c2, .slice A3 m c3]] w fun e w' => BuildPost p n m #[.int .i64 (n : Int), .slice A1 n c1, .slice A2 n c2, .slice A3 m c3] w e w' := by
 have HFR := Hd hfr
 have HRO := Hd hro
 have HFL := Hd hfl
 have HRL := Hd hrl
 have HRA := Hd hra
 have HRS := Hd hrs
 have HSS := Hd hss
 clear hfr hro hfl hrl hra hrs hss
 go_enter Try.func103, Try.ntmps103
 go_wp2_with fail
 have hb1 := below_new w (.cells #[.int .i64 (n : Int), .slice A1 n c1, .slice A2 n c2, .slice A3 m c3] 26)
 have hb2 := below_new (w.alloc (.cells #[.int .i64 (n : Int), .slice A1 n c1, .slice A2 n c2, .slice A3 m c3] 26)) (.cells #[.int .i64 (n : Int), .slice A1 n c1, .slice A2 n c2, .slice A3 m c3, .slice none 0 0, .slice none 0 0, .slice none 0 0, .slice none 0 0, .slice none 0 0, .int .i64 (0), .int .i64 (0), .slice none 0 0, .slice none 0 0] 121)
 have hp0 := (Blk.new w 26 #[.int .i64 (n : Int), .slice A1 n c1, .slice A2 n c2, .slice A3 m c3]).alloc (.cells #[.int .i64 (n : Int), .slice A1 n c1, .slice A2 n c2, .slice A3 m c3, .slice none 0 0, .slice none 0 0, .slice none 0 0, .slice none 0 0, .slice none 0 0, .int .i64 (0), .int .i64 (0), .slice none 0 0, .slice none 0 0] 121)
 have ht0 := Blk.new (w.alloc (.cells #[.int .i64 (n : Int), .slice A1 n c1, .slice A2 n c2, .slice A3 m c3] 26)) 121 #[.int .i64 (n : Int), .slice A1 n c1, .slice A2 n c2, .slice A3 m c3, .slice none 0 0, .slice none 0 0, .slice none 0 0, .slice none 0 0, .slice none 0 0, .int .i64 (0), .int .i64 (0), .slice none 0 0, .slice none 0 0]
 rw [World.size_alloc] at ht0
 have hbag0 : Bag w.heap.size ((w.alloc (.cells #[.int .i64 (n : Int), .slice A1 n c1, .slice A2 n c2, .slice A3 m c3] 26)).alloc (.cells #[.int .i64 (n : Int), .slice A1 n c1, .slice A2 n c2, .slice A3 m c3, .slice none 0 0, .slice none 0 0, .slice none 0 0, .slice none 0 0, .slice none 0 0, .int .i64 (0), .int .i64 (0), .slice none 0 0, .slice none 0 0] 121)) [(.slice none 0 0, .I []), (.slice none 0 0, .I [])] := by
  refine ⟨(below_next hb1 hb2).size, fun i v c hi => ?_, fun i j v c v' c' g hij h1 h2 hg => ?_⟩
  ·match i, hi with
   | 0, hi => obtain ⟨rfl, rfl⟩ := Prod.mk.inj (Option.some.inj hi).symm; exact OL.nil _ _ _ _ _
   | 1, hi => obtain ⟨rfl, rfl⟩ := Prod.mk.inj (Option.some.inj hi).symm; exact OL.nil _ _ _ _ _
   | k + 2, hi => simp at hi
  ·match i, h1 with
   | 0, hi => obtain ⟨rfl, rfl⟩ := Prod.mk.inj (Option.some.inj hi).symm; simp [Value.ownBlock] at hg
   | 1, hi => obtain ⟨rfl, rfl⟩ := Prod.mk.inj (Option.some.inj hi).symm; simp [Value.ownBlock] at hg
   | k + 2, hi => simp at hi
 have HS0 : Hid (BS w w.heap.size (w.heap.size + 1) #[.int .i64 (n : Int), .slice A1 n c1, .slice A2 n c2, .slice A3 m c3] #[.int .i64 (n : Int), .slice A1 n c1, .slice A2 n c2, .slice A3 m c3, .slice none 0 0, .slice none 0 0, .slice none 0 0, .slice none 0 0, .slice none 0 0, .int .i64 (0), .int .i64 (0), .slice none 0 0, .slice none 0 0] [(.slice none 0 0, .I []), (.slice none 0 0, .I [])] _) := ⟨hbag0, ht0, hp0, below_next hb1 hb2, by omega, by intro u hu; simp at hu; rcases hu with rfl | rfl | rfl | rfl | rfl | rfl | rfl | rfl | rfl | rfl | rfl | rfl | rfl <;> rfl, rfl⟩
 clear hb1 hb2 hp0 ht0 hbag0
 obtain ⟨gt, hgt⟩ : ∃ g, g = w.heap.size + 1 := ⟨_, rfl⟩
 obtain ⟨gp, hgp⟩ : ∃ g, g = w.heap.size := ⟨_, rfl⟩
 rw [← hgt] at HS0 ⊢
 rw [← hgp] at HS0 ⊢
 have HGB : Hid (w.heap.size = gp) := hgp.symm
 clear hgt hgp
 generalize (w.alloc (.cells #[.int .i64 (n : Int), .slice A1 n c1, .slice A2 n c2, .slice A3 m c3] 26)).alloc (.cells #[.int .i64 (n : Int), .slice A1 n c1, .slice A2 n c2, .slice A3 m c3, .slice none 0 0, .slice none 0 0, .slice none 0 0, .slice none 0 0, .slice none 0 0, .int .i64 (0), .int .i64 (0), .slice none 0 0, .slice none 0 0] 121) = W0 at *
 go_loopw [25] (fun vi wr => ∃ i : Nat, i ≤ n ∧ vi = .int .i64 (i : Int) ∧ ∃ vP vM, BS w gp gt #[.int .i64 (n : Int), .slice A1 n c1, .slice A2 n c2, .slice A3 m c3] #[.int .i64 (n : Int), .slice A1 n c1, .slice A2 n c2, .slice A3 m c3, .slice none 0 0, .slice none 0 0, .slice none 0 0, vP, vM, .int .i64 (((varsN p.free i).2.2 : Nat) : Int), .int .i64 (0), .slice none 0 0, .slice none 0 0] [(vP, .I (varsN p.free i).1), (vM, .I (varsN p.free i).2.1)] wr) (fun vi _ => n - (intOf vi).toNat)
 case atStart => exact ⟨0, Nat.zero_le _, rfl, _, _, HS0.out⟩
 case round =>
  obtain ⟨i, hi, rfl, vP, vM, hs⟩ := hrel
  clear HS0
  obtain ⟨ps, ms, real, hvn⟩ : ∃ ps ms real, varsN p.free i = (ps, ms, real) := ⟨_, _, _, rfl⟩
  have HVN := Hd hvn
  have hpl : ps.length = i := by have := varsN_len1 p.free i; rw [hvn] at this; exact this
  have hml : ms.length = i := by have := varsN_len2 p.free i; rw [hvn] at this; exact this
  have hrb : real ≤ 2 * i := by have := varsN_real p.free i; rw [hvn] at this; exact this
  rw [hvn] at hs
  obtain ⟨P0, pc, rfl⟩ := hs.bag.isl (i := 0) rfl hpl
  obtain ⟨M0, mc, rfl⟩ := hs.bag.isl (i := 1) rfl hml
  have HS := Hd (hs)
  clear hs hvn
  have HPL := Hd hpl
  have HML := Hd hml
  clear hpl hml
  by_cases hlt : i < n
  ·as_aux_lemma =>
    obtain ⟨fb, hf⟩ : ∃ f, p.free[i]? = some f := ⟨p.free[i]'(by rw [HFL.out]; exact hlt), geq _⟩
    have HFD : Hid (p.free.getD i false = fb) := by unfold Hid; rw [gdd, hf]; rfl
    have HFB := Hd hf
    have m1 : (i : Int) < (n : Int) := by omega
    have m3 : (i : Int).toNat = i := by omega
    have m4 : (0 : Int) ≤ (i : Int) := by omega
    clear hf
    obtain ⟨gF, oF, rfl, hgF, kF0⟩ := BL.at1 HFR.out HFB.out
    have hgt5 := HS.out.gtb
    have hnF : gF ≠ gt := by omega
    have hnF2 : gt ≠ gF := by omega
    clear hgt5
    obtain ⟨x0, x4, x5, x6, x7, x8, x9, x10, x11, x12⟩ := HS.out.t.c13
    have hltt := HS.out.t.lt
    have fzt := HS.out.t.frozen
    go_wp2_with fail
    refine wp_chainF (l := [_, _, _, _, _, _, _, _, _, _, _, _, _, _]) (S := SameT gt wr) 11 [([0, 1, 2, 3, 4, 5, 6, 7, 8], 9), ([], 10)] [] (by kernel_rfl) (by kernel_rfl) (by kernel_rfl) rfl (SameT.of_below Bd hltt) ?_
    refine ⟨?_, _, ?_, rfl, ?_⟩
    rotate_left
    ·(iterate 9 ((refine pu ?_); (try simp only [SQ])))
     exact rfl
    have hlt0 := hltt
    have D0 : Hid (Below wr.heap.size wr wr.drew) := Bd
    clear x0 x4 x5 x6 x7 x8 x9 x10 x11 x12 hltt fzt
    go_wp2_with fail
    have D1 : Hid (Below wr.heap.size wr (wr.alloc (.cells #[.int .i64 (real : Int)] 3)).drew) := Below.drew (below_new _ _)
    have HS1 := Hd (HS.out.to D1.out)
    have HK1 : Hid (Blk (wr.alloc (.cells #[.int .i64 (real : Int)] 3)).drew wr.heap.size 3 #[.int .i64 (real : Int)]) := Blk.new wr 3 #[.int .i64 (real : Int)]
    refine And.intro (SameT.of_below D1.out hlt0) ⟨_, _, rfl, rfl, ?_⟩
    generalize (wr.alloc (.cells #[.int .i64 (real : Int)] 3)).drew = W1 at *
    obtain ⟨gl, hgl⟩ : ∃ g, g = wr.heap.size := ⟨_, rfl⟩
    rw [← hgl] at HK1 ⊢
    clear hgl
    refine wpl_bagI rfl (.tmp 32) (.tmp 37) rfl HS1.out.bag 0 _ ps rfl rfl (real : Int) rfl HK1.out (by have := HPL.out; omega) ?_
    intro v2 W2 hbag2 hst2
    obtain ⟨P1, pc1, rfl⟩ := hbag2.isl (i := 0) (k := i + 1) rfl (by rw [lap, HPL.out]; rfl)
    have HS2 := Hd (HS1.out.app (i := 0) rfl hbag2 hst2)
    refine And.intro (SameT.of_blk HS.out.t HS2.out.t) ⟨_, rfl, ?_⟩
    simp only [SQ, List.drop_succ_cons, List.drop_zero]
    clear hbag2 hst2 HS1 HK1 hlt0
    obtain ⟨x0, x4, x5, x6, x7, x8, x9, x10, x11, x12⟩ := HS2.out.t.c13
    have hltt := HS2.out.t.lt
    have fzt := HS2.out.t.frozen
    go_wp2_with fail
    refine NoPanic.normal ?_
    have HS3 := Hd (HS2.out.tput 7 (.slice P1 (i + 1) pc1) rfl (by decide))
    clear x0 x4 x5 x6 x7 x8 x9 x10 x11 x12 hltt fzt
    generalize W2.setCell ⟨gt, 7, none⟩ (.slice P1 (i + 1) pc1) = W3 at *
    clear HS2
    obtain ⟨x0, x4, x5, x6, x7, x8, x9, x10, x11, x12⟩ := HS3.out.t.c13
    have hltt := HS3.out.t.lt
    have fzt := HS3.out.t.frozen
    have mr : (real : Int) + 1 ≤ 9223372036854775807 := by omega
    go_upto_region 7 with (fail)
    have HS4 := Hd (HS3.out.tput 9 (.int .i64 ((real : Int) + 1)) rfl (by decide))
    clear x0 x4 x5 x6 x7 x8 x9 x10 x11 x12 hltt fzt
    generalize W3.setCell ⟨gt, 9, none⟩ (.int .i64 ((real : Int) + 1)) = W4 at *
    clear HS3 mr
    obtain ⟨x0, x4, x5, x6, x7, x8, x9, x10, x11, x12⟩ := HS4.out.t.c13
    have hltt := HS4.out.t.lt
    have fzt := HS4.out.t.frozen
    have HS4a := Hd (HS4.out.to (below_new W4 (.cells #[.int .i64 (-1)] 3)))
    have HK4 := Hd (Blk.new W4 3 #[.int .i64 (-1)])
    cases fb with
    | false =>
     have HNX : Hid (varsN p.free (i + 1) = (ps ++ [(real : Int)], ms ++ [-1], real + 1)) := by unfold Hid; rw [varsN, HVN.out, HFD.out]; rfl
     go_wp2_with (at_builtin; refine wpl_bagI rfl (.tmp 52) (.tmp 53) rfl HS4a.out.bag 1 _ ms rfl rfl (-1) rfl HK4.out (by have := HML.out; omega) ?_; intro v5 W5 hbag5 hst5; obtain ⟨M1, mc1, rfl⟩ := hbag5.isl (i := 1) (k := i + 1) rfl (by rw [lap, HML.out]; rfl); have HS5 := Hd (HS4a.out.app (i := 1) rfl hbag5 hst5); clear hbag5 hst5 HS4a HK4 HS4  x0 x4 x5 x6 x7 x8 x9 x10 x11 x12 hltt fzt; have kF := ((bcell HS5.out.below).1 _ _ hgF).trans kF0; obtain ⟨x0, x4, x5, x6, x7, x8, x9, x10, x11, x12⟩ := HS5.out.t.c13; have hltt := HS5.out.t.lt; have fzt := HS5.out.t.frozen; obtain ⟨y0, y1, y2, y3⟩ := HS5.out.p.c4; have hltp := HS5.out.p.lt)
     have HS6 := Hd (HS5.out.tput 8 (.slice M1 (i + 1) mc1) rfl (by decide))
     go_roundw
     case rel => exact ⟨i + 1, by omega, by go_num, _, _, by rw [HNX.out]; exact HS6.out⟩
     case measure => simp [intOf]; omega
    | true =>
     have HNX : Hid (varsN p.free (i + 1) = (ps ++ [(real : Int)], ms ++ [((real + 1 : Nat) : Int)], real + 2)) := by unfold Hid; rw [varsN, HVN.out, HFD.out]; rfl
     go_wp2_with (at_builtin; refine wpl_bagI rfl (.tmp 52) (.tmp 53) rfl HS4a.out.bag 1 _ ms rfl rfl (-1) rfl HK4.out (by have := HML.out; omega) ?_; intro v5 W5 hbag5 hst5; obtain ⟨M1, mc1, rfl⟩ := hbag5.isl (i := 1) (k := i + 1) rfl (by rw [lap, HML.out]; rfl); have HS5 := Hd (HS4a.out.app (i := 1) rfl hbag5 hst5); clear hbag5 hst5 HS4a HK4 HS4  x0 x4 x5 x6 x7 x8 x9 x10 x11 x12 hltt fzt; have kF := ((bcell HS5.out.below).1 _ _ hgF).trans kF0; obtain ⟨x0, x4, x5, x6, x7, x8, x9, x10, x11, x12⟩ := HS5.out.t.c13; have hltt := HS5.out.t.lt; have fzt := HS5.out.t.frozen; obtain ⟨y0, y1, y2, y3⟩ := HS5.out.p.c4; have hltp := HS5.out.p.lt)
     have HS6 := Hd (HS5.out.tput 8 (.slice M1 (i + 1) mc1) rfl (by decide))
     clear y0 y1 y2 y3 hltp
     clear x0 x4 x5 x6 x7 x8 x9 x10 x11 x12 hltt fzt
     clear kF hgF hnF hnF2 kF0
     generalize W5.setCell ⟨gt, 8, none⟩ (.slice M1 (i + 1) mc1) = W6 at *
     clear HS5
     obtain ⟨x0, x4, x5, x6, x7, x8, x9, x10, x11, x12⟩ := HS6.out.t.c13
     have hltt := HS6.out.t.lt
     have fzt := HS6.out.t.frozen
     obtain ⟨gM, eM, hgM, kM, fM⟩ := HS6.out.bag.iat (i := 1) (j := i) (x := -1) rfl (by rw [List.getElem?_append_right (by rw [HML.out]; exact Nat.le_refl _), HML.out, Nat.sub_self]; rfl)
     subst eM
     have m5 : (i : Int) < ((i + 1 : Nat) : Int) := by omega
     have m6 : (i : Int) < (i : Int) + 1 := by omega
     refine wp_chainF (l := [_, _, _, _, _, _, _, _, _, _, _]) (S := Below W6.heap.size W6) 10 [([0, 1, 2, 3, 4, 5, 6, 7, 8], 9)] [] (by kernel_rfl) (by kernel_rfl) (by kernel_rfl) rfl Bd ?_
     refine ⟨?_, _, ?_, rfl, ?_⟩
     rotate_left
     ·(iterate 9 ((refine pu ?_); (try simp only [SQ])))
      exact rfl
     have D0 : Hid (Below W6.heap.size W6 W6.drew) := Bd
     go_wp2_with fail
     refine And.intro D0.out ⟨_, rfl, ?_⟩
     simp only [SQ, List.drop_succ_cons, List.drop_zero]
     have HS6d := Hd (HS6.out.to D0.out)
     have hMt : gM ≠ gt := fun e => HS6.out.bag.other (i := 1) rfl HS6.out.t (by decide) (by rw [← e]; rfl)
     have hMt2 : gt ≠ gM := fun e => hMt e.symm
     have mr2 : (real : Int) + 1 + 1 ≤ 9223372036854775807 := by omega
     go_wp2_with fail
     refine NoPanic.normal ?_
     go_wp2_with fail
     have HS8 : Hid (BS w gp gt #[.int .i64 (n : Int), .slice (some ⟨gF, oF, none⟩) n c1, .slice A2 n c2, .slice A3 m c3] #[.int .i64 (n : Int), .slice (some ⟨gF, oF, none⟩) n c1, .slice A2 n c2, .slice A3 m c3, .slice none 0 0, .slice none 0 0, .slice none 0 0, .slice P1 (i + 1) pc1, .slice (some ⟨gM, 0, none⟩) (i + 1) mc1, .int .i64 ((real : Int) + 1 + 1), .int .i64 (0), .slice none 0 0, .slice none 0 0] [(.slice P1 (i + 1) pc1, .I (ps ++ [(real : Int)])), (.slice (some ⟨gM, 0, none⟩) (i + 1) mc1, .I (ms ++ [((real : Int) + 1)]))] ((W6.drew.setCell ⟨gM, i, none⟩ (.int .i64 ((real : Int) + 1))).setCell ⟨gt, 9, none⟩ (.int .i64 ((real : Int) + 1 + 1)))) := by
      have h7 := (HS6d.out.iset (i := 1) (j := i) (x := (real : Int) + 1) rfl (by rw [lap, HML.out]; exact Nat.lt_succ_self _)).tput 9 (.int .i64 ((real : Int) + 1 + 1)) rfl (by decide)
      rw [set_last _ _ _ HML.out] at h7
      exact h7
     go_roundw
     case rel => exact ⟨i + 1, by omega, by go_num, _, _, by rw [HNX.out]; exact HS8.out⟩
     case measure => simp [intOf]; omega
  ·obtain rfl : n = i := by omega
   obtain ⟨y0, y1, y2, y3⟩ := HS.out.p.c4
   have hltp := HS.out.p.lt
   have hmk := run_makeI m (by omega)
   clear hlt hi
   go_wp2_with fail
   clear hmk y0 y1 y2 y3 hltp
   have HSB : Hid (BS w gp gt #[.int .i64 (n : Int), .slice A1 n c1, .slice A2 n c2, .slice A3 m c3] #[.int .i64 (n : Int), .slice A1 n c1, .slice A2 n c2, .slice A3 m c3, .slice none 0 0, .slice none 0 0, .slice none 0 0, .slice P0 n pc, .slice M0 n mc, .int .i64 ((real : Nat) : Int), .int .i64 (0), .slice none 0 0, .slice none 0 0] [(.slice P0 n pc, .I ps), (.slice M0 n mc, .I ms), (.slice (some ⟨wr.heap.size, 0, none⟩) m m, .I (List.replicate m 0))] (wr.alloc (.cells (madeCells #[.int .i64 0] m) 3))) :=
    HS.out.add (below_new wr _) (madeI_ok _ _ _ HS.out.below.size (by omega)) (fun g hg => by simp [Value.ownBlock] at hg; omega)
   obtain ⟨gs, hgs⟩ : ∃ g, g = wr.heap.size := ⟨_, rfl⟩
   rw [← hgs] at HSB ⊢
   generalize wr.alloc (.cells (madeCells #[.int .i64 0] m) 3) = WB at *
   clear HS hgs
   obtain ⟨y0, y1, y2, y3⟩ := HSB.out.p.c4
   have hltp := HSB.out.p.lt
   go_wp2_with fail
   clear y0 y1 y2 y3 hltp
   go_loopw [87] (fun vi wr => ∃ i : Nat, i ≤ m ∧ vi = .int .i64 (i : Int) ∧ BS w gp gt #[.int .i64 (n : Int), .slice A1 n c1, .slice A2 n c2, .slice A3 m c3] #[.int .i64 (n : Int), .slice A1 n c1, .slice A2 n c2, .slice A3 m c3, .slice none 0 0, .slice none 0 0, .slice none 0 0, .slice P0 n pc, .slice M0 n mc, .int .i64 (((slackN p.rows real i).2 : Nat) : Int), .int .i64 (0), .slice none 0 0, .slice none 0 0] [(.slice P0 n pc, .I ps), (.slice M0 n mc, .I ms), (.slice (some ⟨gs, 0, none⟩) m m, .I ((slackN p.rows real i).1 ++ List.replicate (m - i) 0))] wr) (fun vi _ => m - (intOf vi).toNat)
   case atStart => exact ⟨0, Nat.zero_le _, rfl, HSB.out⟩
   case round =>
    obtain ⟨i, hi, rfl, hs⟩ := hrel
    clear HSB
    obtain ⟨sl, rb, hsn⟩ : ∃ sl rb, slackN p.rows real i = (sl, rb) := ⟨_, _, rfl⟩
    have HSN := Hd hsn
    have hsl : sl.length = i := by have := slackN_len p.rows real i; rw [hsn] at this; exact this
    have hrb2 : rb ≤ real + i := by have := slackN_real p.rows real i; rw [hsn] at this; exact this
    rw [hsn] at hs
    have HS := Hd (hs)
    have HSL := Hd hsl
    clear hs hsn hsl
    by_cases hlt : i < m
    ·as_aux_lemma =>
      obtain ⟨r, hr⟩ : ∃ r, p.rows[i]? = some r := ⟨p.rows[i]'(by rw [HRL.out]; exact hlt), geq _⟩
      have HSO : Hid (sOf p.rows i = r.s) := by unfold Hid sOf; rw [hr]; rfl
      obtain ⟨gA, B1, d1, B2, n2, d2, B3, n3, d3, rfl, _, hgA, k0, k1, k2, k3, k4, _, _, _, _⟩ := RO.at5 (OL.below ERO.stays HRO.out HS.out.below) hr
      have m1 : (i : Int) < (m : Int) := by omega
      have m3 : (i : Int).toNat = i := by omega
      have m4 : (0 : Int) ≤ (i : Int) := by omega
      obtain ⟨gs', eS, hgS, kS, fS⟩ := HS.out.bag.iat (i := 2) (j := i) (x := 0) rfl (by rw [List.getElem?_append_right (by rw [HSL.out]; exact Nat.le_refl _), HSL.out, Nat.sub_self, List.getElem?_replicate, if_pos (by omega)])
      obtain rfl : gs = gs' := by injection eS with eS; injection eS
      have hSt : gs ≠ gt := fun e => HS.out.bag.other (i := 2) rfl HS.out.t (by decide) (by rw [← e]; rfl)
      have hSt2 : gt ≠ gs := fun e => hSt e.symm
      clear hr eS
      obtain ⟨x0, x4, x5, x6, x7, x8, x9, x10, x11, x12⟩ := HS.out.t.c13
      have hltt := HS.out.t.lt
      have fzt := HS.out.t.frozen
      go_upto_region 17 with (fail)
      have HS1 : Hid (BS w gp gt #[.int .i64 (n : Int), .slice A1 n c1, .slice A2 n c2, .slice (some ⟨gA, 0, none⟩) m c3] #[.int .i64 (n : Int), .slice A1 n c1, .slice A2 n c2, .slice (some ⟨gA, 0, none⟩) m c3, .slice none 0 0, .slice none 0 0, .slice none 0 0, .slice P0 n pc, .slice M0 n mc, .int .i64 ((rb : Nat) : Int), .int .i64 (0), .slice none 0 0, .slice none 0 0] [(.slice P0 n pc, .I ps), (.slice M0 n mc, .I ms), (.slice (some ⟨gs, 0, none⟩) m m, .I (sl ++ [-1] ++ List.replicate (m - (i + 1)) 0))] (wr.setCell ⟨gs, i, none⟩ (.int .i64 (-1)))) := by
       have h := HS.out.iset (i := 2) (j := i) (x := -1) rfl (by rw [lap, HSL.out, List.length_replicate]; omega)
       rw [set_rep _ HSL.out hlt] at h
       exact h
      have HS2 := Hd (HS1.out.to (below_new _ (.cells #[.slice B1 r.a.length d1, .int .i64 r.s, .bool (negQ r.b), .slice B2 n2 d2, .slice B3 n3 d3] 65)))
      have HR2 := Hd (Blk.new (wr.setCell ⟨gs, i, none⟩ (.int .i64 (-1))) 65 #[.slice B1 r.a.length d1, .int .i64 r.s, .bool (negQ r.b), .slice B2 n2 d2, .slice B3 n3 d3])
      rw [show (wr.setCell ⟨gs, i, none⟩ (.int .i64 (-1))).heap.size = wr.heap.size from World.size_setCell ..] at HR2
      obtain ⟨gr, hgr⟩ : ∃ g, g = wr.heap.size := ⟨_, rfl⟩
      rw [← hgr] at HR2 ⊢
      clear x0 x4 x5 x6 x7 x8 x9 x10 x11 x12 hltt fzt
      clear HS HS1 hgr hgA k0 k1 k2 k3 k4 hgS kS fS
      generalize (wr.setCell ⟨gs, i, none⟩ (.int .i64 (-1))).alloc (.cells #[.slice B1 r.a.length d1, .int .i64 r.s, .bool (negQ r.b), .slice B2 n2 d2, .slice B3 n3 d3] 65) = W2 at *
      obtain ⟨z0, z1, z2, z3, z4⟩ := HR2.out.c5
      have hlr := HR2.out.lt
      by_cases hz : r.s = 0
      ·have t1 : (r.s != 0) = false := by rw [hz]; rfl
       have HNX : Hid (slackN p.rows real (i + 1) = (sl ++ [-1], rb)) := by unfold Hid; rw [slackN, HSN.out, HSO.out, if_pos hz, if_pos hz]; rfl
       clear hz
       go_wp2_with fail
       go_roundw
       case rel => exact ⟨i + 1, by omega, by go_num, by rw [HNX.out]; exact HS2.out⟩
       case measure => simp [intOf]; omega
      ·have t1 : (r.s != 0) = true := by simp [hz]
       have HNX : Hid (slackN p.rows real (i + 1) = (sl ++ [(rb : Int)], rb + 1)) := by unfold Hid; rw [slackN, HSN.out, HSO.out, if_neg hz, if_neg hz]
       clear hz
       obtain ⟨x0, x4, x5, x6, x7, x8, x9, x10, x11, x12⟩ := HS2.out.t.c13
       have hltt := HS2.out.t.lt
       have fzt := HS2.out.t.frozen
       obtain ⟨gs', eS, hgS, kS, fS⟩ := HS2.out.bag.iat (i := 2) (j := i) (x := -1) rfl (by rw [List.append_assoc, List.getElem?_append_right (by rw [HSL.out]; exact Nat.le_refl _), HSL.out, Nat.sub_self]; rfl)
       obtain rfl : gs = gs' := by injection eS with eS; injection eS
       clear eS
       have mr : (rb : Int) + 1 ≤ 9223372036854775807 := by omega
       go_wp2_with fail
       have HS3 : Hid (BS w gp gt #[.int .i64 (n : Int), .slice A1 n c1, .slice A2 n c2, .slice (some ⟨gA, 0, none⟩) m c3] #[.int .i64 (n : Int), .slice A1 n c1, .slice A2 n c2, .slice (some ⟨gA, 0, none⟩) m c3, .slice none 0 0, .slice none 0 0, .slice none 0 0, .slice P0 n pc, .slice M0 n mc, .int .i64 (((rb + 1 : Nat) : Int)), .int .i64 (0), .slice none 0 0, .slice none 0 0] [(.slice P0 n pc, .I ps), (.slice M0 n mc, .I ms), (.slice (some ⟨gs, 0, none⟩) m m, .I (sl ++ [(rb : Int)] ++ List.replicate (m - (i + 1)) 0))] ((W2.setCell ⟨gs, i, none⟩ (.int .i64 (rb : Int))).setCell ⟨gt, 9, none⟩ (.int .i64 ((rb : Int) + 1)))) := by
        have h := (HS2.out.iset (i := 2) (j := i) (x := (rb : Int)) rfl (by rw [lap, lap, HSL.out, List.length_replicate]; show i < i + 1 + _; omega)).tput 9 (.int .i64 ((rb : Int) + 1)) rfl (by decide)
        rw [set_mid2 _ _ HSL.out] at h
        exact h
       go_roundw
       case rel => exact ⟨i + 1, by omega, by go_num, by rw [HNX.out]; exact HS3.out⟩
       case measure => simp [intOf]; omega
    ·obtain rfl : m = i := by omega
     rw [Nat.sub_self, List.replicate_zero, List.append_nil] at HS
     obtain ⟨x0, x4, x5, x6, x7, x8, x9, x10, x11, x12⟩ := HS.out.t.c13
     have hltt := HS.out.t.lt
     have fzt := HS.out.t.frozen
     clear hlt hi
     go_upto_region 22 with (fail)
     have HS1 : Hid (BS w gp gt #[.int .i64 (n : Int), .slice A1 n c1, .slice A2 n c2, .slice A3 m c3] #[.int .i64 (n : Int), .slice A1 n c1, .slice A2 n c2, .slice A3 m c3, .slice none 0 0, .slice none 0 0, .slice none 0 0, .slice P0 n pc, .slice M0 n mc, .int .i64 ((rb : Nat) : Int), .int .i64 ((rb : Nat) : Int), .slice none 0 0, .slice none 0 0] [(.slice P0 n pc, .I ps), (.slice M0 n mc, .I ms), (.slice (some ⟨gs, 0, none⟩) m m, .I sl), (.slice none 0 0, .B ([])), (.slice none 0 0, .I ([]))] (wr.setCell ⟨gt, 10, none⟩ (.int .i64 (rb : Int)))) :=
      ((HS.out.tput 10 (.int .i64 (rb : Int)) rfl (by decide)).add (v := .slice none 0 0) (c := .B []) (Below.refl _ _) (OL.nil _ _ _ _ _) (fun g hg => by simp [Value.ownBlock] at hg)).add (v := .slice none 0 0) (c := .I []) (Below.refl _ _) (OL.nil _ _ _ _ _) (fun g hg => by simp [Value.ownBlock] at hg)
     clear x0 x4 x5 x6 x7 x8 x9 x10 x11 x12 hltt fzt
     generalize wr.setCell ⟨gt, 10, none⟩ (.int .i64 (rb : Int)) = WC at *
     clear HS
     obtain ⟨y0, y1, y2, y3⟩ := HS1.out.p.c4
     have hltp := HS1.out.p.lt
     go_wp2_with fail
     clear y0 y1 y2 y3 hltp
     go_loopw [123] (fun vi wr => ∃ i : Nat, i ≤ m ∧ vi = .int .i64 (i : Int) ∧ ∃ vT vI, BS w gp gt #[.int .i64 (n : Int), .slice A1 n c1, .slice A2 n c2, .slice A3 m c3] #[.int .i64 (n : Int), .slice A1 n c1, .slice A2 n c2, .slice A3 m c3, .slice none 0 0, .slice none 0 0, .slice none 0 0, .slice P0 n pc, .slice M0 n mc, .int .i64 ((rb : Nat) : Int), .int .i64 (((idN p.rows sl rb i).2 : Nat) : Int), vI, vT] [(.slice P0 n pc, .I ps), (.slice M0 n mc, .I ms), (.slice (some ⟨gs, 0, none⟩) m m, .I sl), (vT, .B (turnN p.rows i)), (vI, .I ((idN p.rows sl rb i).1))] wr) (fun vi _ => m - (intOf vi).toNat)
     case atStart => exact ⟨0, Nat.zero_le _, rfl, _, _, HS1.out⟩
     case round =>
      obtain ⟨i, hi, rfl, vT, vI, hs⟩ := hrel
      clear HS1
      obtain ⟨il, wd, hin⟩ : ∃ il wd, idN p.rows sl rb i = (il, wd) := ⟨_, _, rfl⟩
      have HIN := Hd hin
      have hil : il.length = i := by have := idN_len p.rows sl rb i; rw [hin] at this; exact this
      have hwd : wd ≤ rb + i := by have := idN_width p.rows sl rb i; rw [hin] at this; exact this
      rw [hin] at hs
      obtain ⟨T0, tc, rfl⟩ := hs.bag.bsl (i := 3) rfl (turnN_len p.rows i (by rw [HRL.out]; exact hi))
      obtain ⟨I0, ic, rfl⟩ := hs.bag.isl (i := 4) rfl hil
      have HS := Hd (hs)
      have HIL := Hd hil
      clear hs hin hil
      by_cases hlt : i < m
      ·as_aux_lemma =>
        obtain ⟨r, hr⟩ : ∃ r, p.rows[i]? = some r := ⟨p.rows[i]'(by rw [HRL.out]; exact hlt), geq _⟩
        have HR := Hd hr
        have HSR : Hid (SmallR r) := HRS.out r (mog hr)
        obtain ⟨gA, B1, d1, B2, n2, d2, B3, n3, d3, rfl, _, hgA, k0, k1, k2, k3, k4, _, _, HQA, HQB⟩ := RO.at5 (OL.below ERO.stays HRO.out HS.out.below) hr
        have m1 : (i : Int) < (m : Int) := by omega
        have m3 : (i : Int).toNat = i := by omega
        have m4 : (0 : Int) ≤ (i : Int) := by omega
        clear hr
        go_wp2_with fail
        have HS1 := Hd (HS.out.to (below_new wr (.cells #[.slice B1 r.a.length d1, .int .i64 r.s, .bool (negQ r.b), .slice B2 n2 d2, .slice B3 n3 d3] 65)))
        have HR1 := Hd (Blk.new wr 65 #[.slice B1 r.a.length d1, .int .i64 r.s, .bool (negQ r.b), .slice B2 n2 d2, .slice B3 n3 d3])
        have HQ1 := Hd (HQB.out.of_below (below_new wr (.cells #[.slice B1 r.a.length d1, .int .i64 r.s, .bool (negQ r.b), .slice B2 n2 d2, .slice B3 n3 d3] 65)))
        obtain ⟨gr, hgr⟩ : ∃ g, g = wr.heap.size := ⟨_, rfl⟩
        rw [← hgr] at HR1 ⊢
        clear HS hgr hgA k0 k1 k2 k3 k4 HQB
        generalize wr.alloc (.cells #[.slice B1 r.a.length d1, .int .i64 r.s, .bool (negQ r.b), .slice B2 n2 d2, .slice B3 n3 d3] 65) = W1 at *
        refine (sgn_calls _ _ (rawQ r.b) (FR.of_fq HQ1.out HSR.out.2)).mono ?_
        rintro ee w2 ⟨rfl, hb⟩
        rw [fixQ_raw _ HSR.out.2]
        have HS2 := Hd (HS1.out.to hb)
        have HR2 := Hd (HR1.out.below hb HR1.out.lt)
        clear hb HS1 HR1 HQ1
        have HSO : Hid (sOf p.rows i = r.s) := by unfold Hid sOf; rw [HR.out]; rfl
        have HTO : Hid (tOf p.rows i = decide (r.b < 0)) := by unfold Hid tOf bOf; rw [HR.out]; rfl
        obtain ⟨tb, htb⟩ : ∃ b, decide (r.b < 0) = b := ⟨_, rfl⟩
        have HTS : Hid (turnN p.rows (i + 1) = turnN p.rows i ++ [tb]) := by unfold Hid; rw [turnN_succ HR.out, htb]
        rw [htb] at HTO
        have t1 : decide (signQ r.b < 0) = tb := by rw [← htb]; exact decide_eq_decide.2 (signQ_neg_iff _)
        clear htb
        have hs1 : -1 ≤ r.s := (HSS.out r (mog HR.out)).1
        have hs2 : r.s ≤ 1 := (HSS.out r (mog HR.out)).2
        obtain ⟨x, hx⟩ : ∃ x, sl[i]? = some x := ⟨sl[i]'(by rw [HSL.out]; exact hlt), geq _⟩
        have HXD : Hid (sl.getD i 0 = x) := by unfold Hid; rw [gdd, hx]; rfl
        have HSX := Hd hx
        clear hx
        have HS2a := Hd (HS2.out.to (below_new w2 (.cells #[.bool tb] 4)))
        have HK2 := Hd (Blk.new w2 4 #[.bool tb])
        have HR2a := Hd (HR2.out.below (below_new w2 (.cells #[.bool tb] 4)) HR2.out.lt)
        obtain ⟨x0, x4, x5, x6, x7, x8, x9, x10, x11, x12⟩ := HS2.out.t.c13
        have hltt := HS2.out.t.lt
        have fzt := HS2.out.t.frozen
        go_wp2_with (at_builtin; refine wpl_bagB rfl (.tmp 136) (.tmp 138) rfl HS2a.out.bag 3 _ (turnN p.rows i) rfl rfl tb rfl HK2.out (by rw [turnN_len _ _ (by rw [HRL.out]; omega)]; omega) ?_; intro v5 W5 hbag5 hst5; obtain ⟨T1, tc1, rfl⟩ := hbag5.bsl (i := 3) (k := i + 1) rfl (by rw [lap, turnN_len _ _ (by rw [HRL.out]; omega)]; rfl); have HS5 := Hd (HS2a.out.app (i := 3) rfl hbag5 hst5); have HR5 : Hid (Blk W5 gr 65 #[.slice B1 r.a.length d1, .int .i64 r.s, .bool (negQ r.b), .slice B2 n2 d2, .slice B3 n3 d3]) := (hst5.2.1 gr HR2a.out.lt (HS2a.out.bag.other (i := 3) rfl HR2a.out (by decide))).trans HR2a.out; clear hbag5 hst5 HS2a HK2 HR2a HS2 HR2  x0 x4 x5 x6 x7 x8 x9 x10 x11 x12 hltt fzt; obtain ⟨x0, x4, x5, x6, x7, x8, x9, x10, x11, x12⟩ := HS5.out.t.c13; have hltt := HS5.out.t.lt; have fzt := HS5.out.t.frozen; obtain ⟨z0, z1, z2, z3, z4⟩ := (show Blk W5 gr 65 #[.slice B1 r.a.length d1, .int .i64 r.s, .bool (negQ r.b), .slice B2 n2 d2, .slice B3 n3 d3] from HR5.out).c5; have hlr := HR5.out.lt; have hrt : gr ≠ gt := Blk.ne_typ HR5.out HS5.out.t (by decide); have hrt2 : gt ≠ gr := fun e => hrt e.symm; obtain ⟨gs', eS, hgS, kS, fS⟩ := HS5.out.bag.iat (i := 2) (j := i) (x := x) rfl HSX.out; obtain rfl : gs = gs' := (by injection eS with eS; injection eS); have hSt : gs ≠ gt := fun e => HS5.out.bag.other (i := 2) rfl HS5.out.t (by decide) (by rw [← e]; rfl); have hSt2 : gt ≠ gs := fun e => hSt e.symm; clear eS)
        ·as_aux_lemma =>
          obtain ⟨hb, h0, h1⟩ : tb = true ∧ 0 ≤ x ∧ (r.s == 1) = true := ⟨by assumption, by assumption, by assumption⟩
          subst hb
          have h1' : r.s = 1 := by simpa using h1
          exact sq11 _
        ·as_aux_lemma =>
          obtain ⟨hb, h0, h1⟩ : tb = true ∧ 0 ≤ x ∧ (r.s == 1) = false := ⟨by assumption, by assumption, by assumption⟩
          subst hb
          have h1' : r.s ≠ 1 := by simpa using h1
          have HIC : Hid (idC p.rows sl i = false) := by unfold Hid; rw [idC_eq HXD.out HSO.out HTO.out]; simp [h0, h1']
          clear h0 h1 h1'
          exact sq5 _
        ·as_aux_lemma =>
          obtain ⟨hb, h0⟩ : tb = true ∧ x < 0 := ⟨by assumption, by assumption⟩
          subst hb
          have HIC : Hid (idC p.rows sl i = false) := by unfold Hid; rw [idC_eq HXD.out HSO.out HTO.out]; simp [show ¬ (0 ≤ x) by omega]
          clear h0
          exact sq5 _
        ·as_aux_lemma =>
          obtain ⟨hb, h0, h1⟩ : tb = false ∧ 0 ≤ x ∧ (-r.s == 1) = true := ⟨by assumption, by assumption, by assumption⟩
          subst hb
          have h1' : -r.s = 1 := by simpa using h1
          exact sq11 _
        ·as_aux_lemma =>
          obtain ⟨hb, h0, h1⟩ : tb = false ∧ 0 ≤ x ∧ (-r.s == 1) = false := ⟨by assumption, by assumption, by assumption⟩
          subst hb
          have h1' : -r.s ≠ 1 := by simpa using h1
          have HIC : Hid (idC p.rows sl i = false) := by unfold Hid; rw [idC_eq HXD.out HSO.out HTO.out]; simp [h0, h1']
          clear h0 h1 h1'
          exact sq5 _
        ·as_aux_lemma =>
          obtain ⟨hb, h0⟩ : tb = false ∧ x < 0 := ⟨by assumption, by assumption⟩
          subst hb
          have HIC : Hid (idC p.rows sl i = false) := by unfold Hid; rw [idC_eq HXD.out HSO.out HTO.out]; simp [show ¬ (0 ≤ x) by omega]
          clear h0
          exact sq5 _
      ·obtain rfl : m = i := by omega
       have HPB : Hid (∀ x ∈ ps, 0 ≤ x ∧ x < (real : Int)) := by have := varsN_lt1 p.free n; rw [HVN.out] at this; exact this
       have HMB : Hid (∀ x ∈ ms, x < (real : Int)) := by have := varsN_lt2 p.free n; rw [HVN.out] at this; exact this
       have hrr : real ≤ rb := by have := slackN_ge p.rows real m; rw [HSN.out] at this; exact this
       have HSB : Hid (∀ x ∈ sl, x < (rb : Int)) := by have := slackN_lt p.rows real m; rw [HSN.out] at this; exact this
       have hrw : rb ≤ wd := by have := idN_ge p.rows sl rb m; rw [HIN.out] at this; exact this
       have HIB : Hid (∀ x ∈ il, 0 ≤ x ∧ x < (wd : Int)) := by have := idN_lt p.rows sl rb HSB.out m (by rw [HSL.out]; exact Nat.le_refl _); rw [HIN.out] at this; exact this
       have HS1 : Hid (BS w gp gt #[.int .i64 (n : Int), .slice A1 n c1, .slice A2 n c2, .slice A3 m c3] #[.int .i64 (n : Int), .slice A1 n c1, .slice A2 n c2, .slice A3 m c3, .slice none 0 0, .slice none 0 0, .slice none 0 0, .slice P0 n pc, .slice M0 n mc, .int .i64 ((rb : Nat) : Int), .int .i64 ((wd : Nat) : Int), .slice I0 m ic, .slice T0 m tc] ((.slice P0 n pc, .I ps) :: (.slice M0 n mc, .I ms) :: (.slice (some ⟨gs, 0, none⟩) m m, .I sl) :: (.slice T0 m tc, .B (turnN p.rows m)) :: (.slice I0 m ic, .I il) :: (.slice none 0 0, .R wd ([])) :: (.slice none 0 0, .F ([])) :: (.slice none 0 0, .I ([])) :: []) wr) :=
        ((HS.out.add (v := .slice none 0 0) (c := .R wd []) (Below.refl _ _) (OL.nil _ _ _ _ _) (fun g hg => by simp [Value.ownBlock] at hg)).add (v := .slice none 0 0) (c := .F []) (Below.refl _ _) (OL.nil _ _ _ _ _) (fun g hg => by simp [Value.ownBlock] at hg)).add (v := .slice none 0 0) (c := .I []) (Below.refl _ _) (OL.nil _ _ _ _ _) (fun g hg => by simp [Value.ownBlock] at hg)
       clear HS hlt hi
       obtain ⟨y0, y1, y2, y3⟩ := HS1.out.p.c4
       have hltp := HS1.out.p.lt
       go_wp2_with fail
       clear y0 y1 y2 y3 hltp
       go_loopw [193] (fun vi wr => ∃ i : Nat, i ≤ m ∧ vi = .int .i64 (i : Int) ∧ ∃ vR vRt vB, ∃ gl : List (Nat × Nat), gl.length = i ∧ BS w gp gt #[.int .i64 (n : Int), .slice A1 n c1, .slice A2 n c2, .slice A3 m c3] #[.int .i64 (n : Int), .slice A1 n c1, .slice A2 n c2, .slice A3 m c3, vR, vRt, vB, .slice P0 n pc, .slice M0 n mc, .int .i64 ((rb : Nat) : Int), .int .i64 ((wd : Nat) : Int), .slice I0 m ic, .slice T0 m tc] ((.slice P0 n pc, .I ps) :: (.slice M0 n mc, .I ms) :: (.slice (some ⟨gs, 0, none⟩) m m, .I sl) :: (.slice T0 m tc, .B (turnN p.rows m)) :: (.slice I0 m ic, .I il) :: (vR, .R wd (gl)) :: (vRt, .F ((p.rows.map bOfR).take i)) :: (vB, .I (il.take i)) :: entN wd gl ((rowsN ps ms sl il wd n p.rows).take i)) wr) (fun vi _ => m - (intOf vi).toNat)
       case atStart => exact ⟨0, Nat.zero_le _, rfl, _, _, _, [], rfl, HS1.out⟩
       case round =>
        obtain ⟨i, hi, rfl, vR, vRt, vB, gl, hgl0, hs⟩ := hrel
        clear HS1
        have HGL := Hd hgl0
        have HS := Hd hs
        clear hs hgl0
        by_cases hlt : i < m
        ·obtain ⟨r, hr⟩ : ∃ r, p.rows[i]? = some r := ⟨p.rows[i]'(by rw [HRL.out]; exact hlt), geq _⟩
         have HR := Hd hr
         have HSR : Hid (SmallR r) := HRS.out r (mog hr)
         have HRN : Hid (r.a.length = n) := HRA.out r (mog hr)
         obtain ⟨gA, B1, d1, B2, n2, d2, B3, n3, d3, rfl, _, hgA, k0, k1, k2, k3, k4, _, _, HQA, HQB⟩ := RO.at5 (OL.below ERO.stays HRO.out HS.out.below) hr
         have m1 : (i : Int) < (m : Int) := by omega
         have m3 : (i : Int).toNat = i := by omega
         have m4 : (0 : Int) ≤ (i : Int) := by omega
         rw [HRN.out] at HQA k0
         clear hr
         go_wp2_with fail
         have HS1 := Hd (HS.out.to (below_new wr (.cells #[.slice B1 n d1, .int .i64 r.s, .bool (negQ r.b), .slice B2 n2 d2, .slice B3 n3 d3] 65)))
         have HR1 := Hd (Blk.new wr 65 #[.slice B1 n d1, .int .i64 r.s, .bool (negQ r.b), .slice B2 n2 d2, .slice B3 n3 d3])
         have HQA1 := Hd (OL.below EFQ.stays HQA.out (below_new wr (.cells #[.slice B1 n d1, .int .i64 r.s, .bool (negQ r.b), .slice B2 n2 d2, .slice B3 n3 d3] 65)))
         have HQB1 := Hd (HQB.out.of_below (below_new wr (.cells #[.slice B1 n d1, .int .i64 r.s, .bool (negQ r.b), .slice B2 n2 d2, .slice B3 n3 d3] 65)))
         obtain ⟨gr, hgr⟩ : ∃ g, g = wr.heap.size := ⟨_, rfl⟩
         rw [← hgr] at HR1 ⊢
         clear HS hgr hgA k0 k1 k2 k3 k4 HQA HQB
         generalize wr.alloc (.cells #[.slice B1 n d1, .int .i64 r.s, .bool (negQ r.b), .slice B2 n2 d2, .slice B3 n3 d3] 65) = W1 at *
         obtain ⟨z0, z1, z2, z3, z4⟩ := HR1.out.c5
         have hlr := HR1.out.lt
         refine wp_chainF (l := [_, _, _, _, _, _, _]) (S := Below W1.heap.size W1) 6 [([0, 1, 2, 3], 4)] [5] (by kernel_rfl) (by kernel_rfl) (by kernel_rfl) rfl Bd ?_
         refine ⟨?_, _, ?_, rfl, ?_⟩
         rotate_left
         ·(iterate 4 ((refine pu ?_); (try simp only [SQ])))
          exact rfl
         have D0 : Hid (Below W1.heap.size W1 W1.drew) := Bd
         clear z0 z1 z2 z3 z4 hlr
         go_wp2_with fail
         have D1 : Hid (Below W1.heap.size W1 (W1.alloc (.cells #[.bool false, .slice none 0 0, .slice none 0 0] 40)).drew) := Below.drew (below_new _ _)
         refine And.intro D1.out ⟨?_, ?_, ?_⟩
         rotate_left
         ·((refine pu ?_); (try simp only [SQ]))
          exact rfl
         simp only [SQ, List.drop_succ_cons, List.drop_zero]
         go_wp2_with fail
         refine NoPanic.normal ?_
         have D2 : Hid (Below W1.heap.size W1 (W1.alloc (.cells #[.bool (negQ r.b), .slice B2 n2 d2, .slice B3 n3 d3] 40)).drew) := Below.drew (below_new _ _)
         have HS2 := Hd (HS1.out.to D2.out)
         have HR2 := Hd (HR1.out.below D2.out HR1.out.lt)
         have HB2 : Hid (Blk (W1.alloc (.cells #[.bool (negQ r.b), .slice B2 n2 d2, .slice B3 n3 d3] 40)).drew W1.heap.size 40 #[.bool (negQ r.b), .slice B2 n2 d2, .slice B3 n3 d3]) := Blk.new W1 40 #[.bool (negQ r.b), .slice B2 n2 d2, .slice B3 n3 d3]
         have HQA2 := Hd (OL.below EFQ.stays HQA1.out D2.out)
         have HQB2 := Hd (HQB1.out.of_below D2.out)
         have HS1x := HS1
         clear D0 D1 D2 HS1 HR1 HQA1 HQB1
         obtain ⟨gb, hgb⟩ : ∃ g, g = W1.heap.size := ⟨_, rfl⟩
         rw [← hgb] at HB2 ⊢
         have HNB : Hid (∀ (j : Nat) (v : Value) (c : Cont), ((.slice P0 n pc, .I ps) :: (.slice M0 n mc, .I ms) :: (.slice (some ⟨gs, 0, none⟩) m m, .I sl) :: (.slice T0 m tc, .B (turnN p.rows m)) :: (.slice I0 m ic, .I il) :: (vR, .R wd (gl)) :: (vRt, .F ((p.rows.map bOfR).take i)) :: (vB, .I (il.take i)) :: entN wd gl ((rowsN ps ms sl il wd n p.rows).take i))[j]? = some (v, c) → v.ownBlock ≠ some gb) := fun j v c hj e => by
          have := ((HS1x.out.bag.ok j v c hj).lt _ e).2
          omega
         have hgw : w.heap.size ≤ gb := by rw [hgb]; exact HS1x.out.below.size
         clear hgb HS1x
         generalize (W1.alloc (.cells #[.bool (negQ r.b), .slice B2 n2 d2, .slice B3 n3 d3] 40)).drew = W2 at *
         obtain ⟨x0, x4, x5, x6, x7, x8, x9, x10, x11, x12⟩ := HS2.out.t.c13
         have hltt := HS2.out.t.lt
         have fzt := HS2.out.t.frozen
         obtain ⟨gT, eT, hgT, kT, fT⟩ := HS2.out.bag.bat (i := 3) (j := i) (x := decide (r.b < 0)) rfl (by unfold turnN; rw [List.getElem?_map, List.getElem?_take, if_pos hlt, HR.out]; rfl)
         subst eT
         obtain ⟨tb, htb⟩ : ∃ b, decide (r.b < 0) = b := ⟨_, rfl⟩
         rw [htb] at kT
         have HTB := Hd htb
         clear htb
         go_upto_if 208 with (fail)
         clear kT fT hgT
         clear x0 x4 x5 x6 x7 x8 x9 x10 x11 x12 hltt fzt
         go_cut [14] from 209 to 212 (fun s14 wc => ∃ (Ba : Option Addr) (da : Nat) (C1 : Option Addr) (e1 f1 : Nat) (C2 : Option Addr) (e2 f2 : Nat), s14 = .slice Ba n da ∧ SL 3 EFQ wc (.slice Ba n da) (aOf r) ∧ Blk wc gb 40 #[.bool (negQ (bOfR r)), .slice C1 e1 f1, .slice C2 e2 f2] ∧ FQ wc (.agg #[.bool (negQ (bOfR r)), .slice C1 e1 f1, .slice C2 e2 f2]) (bOfR r) ∧ BS w gp gt #[.int .i64 (n : Int), .slice A1 n c1, .slice A2 n c2, .slice (some ⟨gA, 0, none⟩) m c3] #[.int .i64 (n : Int), .slice A1 n c1, .slice A2 n c2, .slice (some ⟨gA, 0, none⟩) m c3, vR, vRt, vB, .slice P0 n pc, .slice M0 n mc, .int .i64 ((rb : Nat) : Int), .int .i64 ((wd : Nat) : Int), .slice I0 m ic, .slice (some ⟨gT, 0, none⟩) m tc] ((.slice P0 n pc, .I ps) :: (.slice M0 n mc, .I ms) :: (.slice (some ⟨gs, 0, none⟩) m m, .I sl) :: (.slice (some ⟨gT, 0, none⟩) m tc, .B (turnN p.rows m)) :: (.slice I0 m ic, .I il) :: (vR, .R wd (gl)) :: (vRt, .F ((p.rows.map bOfR).take i)) :: (vB, .I (il.take i)) :: entN wd gl ((rowsN ps ms sl il wd n p.rows).take i)) wc ∧ Blk wc gr 65 #[.slice B1 n d1, .int .i64 r.s, .bool (negQ r.b), .slice B2 n2 d2, .slice B3 n3 d3])
         case first =>
          cases tb with
          | false =>
           have hb : ¬ r.b < 0 := of_decide_eq_false HTB.out
           have HA : Hid (aOf r = r.a) := if_neg hb
           have HBR : Hid (bOfR r = r.b) := if_neg hb
           clear hb
           go_wp2_with fail
           go_meet
           case rel => exact ⟨B1, d1, B2, n2, d2, B3, n3, d3, rfl, by rw [HA.out]; exact OL.sl HQA2.out, by rw [HBR.out]; exact HB2.out, by rw [HBR.out]; exact HQB2.out, HS2.out, HR2.out⟩
          | true =>
           as_aux_lemma =>
            have hb : r.b < 0 := of_decide_eq_true HTB.out
            have HA : Hid (aOf r = r.a.map fun q => -q) := if_pos hb
            have HBR : Hid (bOfR r = -r.b) := if_pos hb
            clear hb
            obtain ⟨z0, z1, z2⟩ := HB2.out.c3
            have hlb := HB2.out.lt
            go_wp2_with fail
            refine wp_chainF (l := [_, _, _, _, _, _]) (S := Below W2.heap.size W2) 5 [([0, 2], 1), ([], 3)] [4] (by kernel_rfl) (by kernel_rfl) (by kernel_rfl) rfl Bd ?_
            refine ⟨?_, _, ?_, rfl, ?_⟩
            rotate_left
            ·(iterate 2 ((refine pu ?_); (try simp only [SQ])))
             exact rfl
            have D0 : Hid (Below W2.heap.size W2 W2.drew) := Bd
            clear z0 z1 z2 hlb
            go_wp2_with fail
            refine (negated_calls _ _ (r.a.map rawQ) (QO.fl (OL.below EFQ.stays HQA2.out D0.out) HSR.out.1) (by rw [lmp, HRN.out]; omega)).mono ?_
            rintro e W3 ⟨v3, rfl, hq3, hb⟩
            rw [neg_raw HSR.out.1] at hq3
            have D1 := Hd (below_next D0.out hb)
            obtain ⟨Ba, da, rfl, _⟩ := OL.slice hq3
            rw [lmp, HRN.out] at hq3 ⊢
            have HQ3 := Hd hq3
            clear hq3 hb
            go_wp2_with fail
            refine And.intro D1.out ⟨_, _, rfl, rfl, ?_⟩
            go_wp2_with fail
            refine (fneg_calls _ _ (rawQ r.b) (FR.of_fq (HQB2.out.of_below D1.out) HSR.out.2)).mono ?_
            rintro e W4 ⟨v4, rfl, hv4, hb4⟩
            rw [fixQ_raw _ HSR.out.2] at hv4
            obtain ⟨C1, e1, f1, C2, e2, f2, rfl, HF4⟩ := hv4.opened
            have D4 := Hd (below_next D1.out hb4)
            have HQ4 := Hd (OL.below EFQ.stays HQ3.out hb4)
            clear hv4 hb4
            go_wp2_with fail
            refine And.intro D4.out ⟨?_, ?_, ?_⟩
            rotate_left
            ·((refine pu ?_); (try simp only [SQ]))
             exact rfl
            simp only [SQ, List.drop_succ_cons, List.drop_zero]
            have HB4 : Hid (Blk W4 gb 40 #[.bool (negQ r.b), .slice B2 n2 d2, .slice B3 n3 d3]) := HB2.out.below D4.out HB2.out.lt
            obtain ⟨z0, z1, z2⟩ := HB4.out.c3
            obtain ⟨y0, y1, y2⟩ := HB4.out.f3
            have hlb := HB4.out.lt
            go_wp2_with fail
            refine NoPanic.normal ?_
            have hpo := put3_only (o := 0) (a := .bool (negQ (-r.b))) (b := .slice C1 e1 f1) (c := .slice C2 e2 f2) HB4.out (by intro u hu; simp at hu; rcases hu with rfl | rfl | rfl <;> rfl)
            have HS4 := Hd ((HS2.out.to D4.out).only hpo HNB.out (Blk.ne_typ HS2.out.t HB2.out (by decide)) (Blk.ne_typ HS2.out.p HB2.out (by decide)) hgw)
            have HR4 := Hd ((hpo.2.1 gr (Nat.lt_of_lt_of_le HR2.out.lt D4.out.size) (Blk.ne_typ HR2.out HB2.out (by decide))).trans (HR2.out.below D4.out HR2.out.lt))
            have HB5 := Hd (HB4.out.put3 (.bool (negQ (-r.b))) (.slice C1 e1 f1) (.slice C2 e2 f2))
            have HF5 := Hd (HF4.out.keeps hpo.1)
            have HQ5 := Hd (OL.moved EFQ.leans HQ4.out (fun g hg => hpo.2.1 g (OL.lt HQ4.out g hg).2 (fun e => by have h1 := (OL.lt HQ3.out g hg).1; have h2 := HB2.out.lt; rw [e] at h1; exact absurd (Nat.lt_of_lt_of_le h2 h1) (Nat.lt_irrefl _))) hpo.1)
            clear hpo z0 z1 z2 y0 y1 y2 hlb
            go_wp2_with fail
            go_meet
            case rel => exact ⟨Ba, da, C1, e1, f1, C2, e2, f2, rfl, by rw [HA.out]; exact OL.sl HQ5.out, by rw [HBR.out]; exact HB5.out, by rw [HBR.out]; exact HF5.out, HS4.out, HR4.out⟩
         case rest =>
          obtain ⟨WX, rfl⟩ : ∃ x, x = wc := ⟨_, rfl⟩
          obtain ⟨Ba, da, C1, e1, f1, C2, e2, f2, rfl, hAr, hBx, hFx, hSx, hRx⟩ := hcut
          have HAR := Hd hAr
          have HBX := Hd hBx
          have HFX := Hd hFx
          have HSX5 := Hd hSx
          have HRX := Hd hRx
          clear hAr hBx hFx hSx hRx HS2 HR2 HB2 HQA2 HQB2 HTB
          obtain ⟨x0, x4, x5, x6, x7, x8, x9, x10, x11, x12⟩ := HSX5.out.t.c13
          have hltt := HSX5.out.t.lt
          have fzt := HSX5.out.t.frozen
          have hmk := run_make3 23 40 _ Try.underlying23 info40m wd (by omega)
          go_wp2_with fail
          have HP0 := Hd (RowP.made WX wd)
          have HB0 := Hd (below_new WX (.cells (madeCells #[.bool false, .slice none 0 0, .slice none 0 0] (wd * 3)) 40))
          clear hmk
          clear x0 x4 x5 x6 x7 x8 x9 x10 x11 x12 hltt fzt
          generalize WX.alloc (.cells (madeCells #[.bool false, .slice none 0 0, .slice none 0 0] (wd * 3)) 40) = WR at *
          obtain ⟨go, hgo⟩ : ∃ g, g = WX.heap.size := ⟨_, rfl⟩
          rw [← hgo] at HP0 ⊢
          have HGO : Hid (WX.heap.size ≤ go) := by unfold Hid; omega
          clear hgo
          go_loopw [220] (fun vi wr => ∃ j : Nat, j ≤ wd ∧ vi = .int .i64 (j : Int) ∧ RowP wr go wd (List.replicate j 0) ∧ Below WX.heap.size WX wr) (fun vi _ => wd - (intOf vi).toNat)
          case atStart => exact ⟨0, Nat.zero_le _, rfl, HP0.out, HB0.out⟩
          case round =>
           obtain ⟨j, hj, rfl, hrp, hbl⟩ := hrel
           have HRP := Hd hrp
           have HBr := Hd hbl
           clear hrp hbl HP0 HB0
           by_cases hlj : j < wd
           ·as_aux_lemma =>
             have q1 : (j : Int) < (wd : Int) := by omega
             have q3 : (j : Int).toNat = j := by omega
             have q4 : (0 : Int) ≤ (j : Int) := by omega
             go_wp2_with fail
             refine (number_calls _ 0 (by decide) (by decide)).mono ?_
             rintro e w2 ⟨v, rfl, hv, hb⟩
             obtain ⟨D7, n9, c9, D8, n10, c10, rfl, HF6⟩ := hv.opened
             have D6 := Hd hb
             have HR6 := Hd (HRP.out.below D6.out)
             have HB6 := Hd (below_next HBr.out D6.out)
             clear hv hb
             obtain ⟨o0, o1, o2, z0, z1, z2⟩ := HR6.out.cells hlj
             have g0 := HR6.out.free (j * 3)
             have g1 := HR6.out.free (j * 3 + 1)
             have g2 := HR6.out.free (j * 3 + 2)
             have hgol := HR6.out.lt
             go_wp2_with fail
             have hst := HR6.out.put (q := ((0 : Int) : Rat)) (qs' := List.replicate j 0 ++ [((0 : Int) : Rat)]) hlj HF6.out (by simp [notWord]) (put_last' (List.length_replicate ..))
             have hb7 := below_put3' HB6.out HGO.out (j * 3) (.bool (negQ ((0 : Int) : Rat))) (.slice D7 n9 c9) (.slice D8 n10 c10)
             go_roundw
             case rel => exact ⟨j + 1, by omega, by go_num, by rw [List.replicate_succ']; exact hst.1, hb7⟩
             case measure => simp [intOf]; omega
           ·obtain rfl : wd = j := by omega
            have HSX6 := Hd (HSX5.out.to HBr.out)
            obtain ⟨y0, y1, y2, y3⟩ := HSX6.out.p.c4
            have hltp := HSX6.out.p.lt
            go_wp2_with fail
            clear y0 y1 y2 y3 hltp
            have HAL : Hid ((aOf r).length = n) := by unfold Hid aOf; split <;> simp [HRN.out]
            have HAS : Hid (∀ q ∈ aOf r, Small q) := by
             unfold Hid aOf
             split
             ·intro q hq
              obtain ⟨q', hq', rfl⟩ := List.mem_map.1 hq
              exact small_neg (HSR.out.1 q' hq')
             ·exact HSR.out.1
            go_loopw [230] (fun vi wr2 => ∃ v : Nat, v ≤ n ∧ vi = .int .i64 (v : Int) ∧ RowP wr2 go wd (fillN ps ms (aOf r) wd v) ∧ Below WX.heap.size WX wr2) (fun vi _ => n - (intOf vi).toNat)
            case atStart => exact ⟨0, Nat.zero_le _, rfl, HRP.out, HBr.out⟩
            case round =>
             obtain ⟨v, hv, rfl, hrp, hbl⟩ := hrel
             clear HRP HSX6 HBr
             have HRP := Hd hrp
             have HBr := Hd hbl
             clear hrp hbl
             by_cases hlv : v < n
             ·as_aux_lemma =>
               obtain ⟨fl, hfl⟩ : ∃ l, l = fillN ps ms (aOf r) wd v := ⟨_, rfl⟩
               have HFL2 := Hd hfl
               rw [← hfl] at HRP
               obtain ⟨pv, hpv⟩ : ∃ x, ps[v]? = some x := ⟨ps[v]'(by rw [HPL.out]; exact hlv), geq _⟩
               obtain ⟨mv, hmv⟩ : ∃ x, ms[v]? = some x := ⟨ms[v]'(by rw [HML.out]; exact hlv), geq _⟩
               obtain ⟨q, hq⟩ : ∃ x, (aOf r)[v]? = some x := ⟨(aOf r)[v]'(by rw [HAL.out]; exact hlv), geq _⟩
               have hpr := HPB.out pv (mog hpv)
               have hmr := HMB.out mv (mog hmv)
               have HSQ : Hid (Small q) := HAS.out q (mog hq)
               have HPD : Hid (ps.getD v 0 = pv) := by unfold Hid; rw [gdd, hpv]; rfl
               have HMD : Hid (ms.getD v 0 = mv) := by unfold Hid; rw [gdd, hmv]; rfl
               have HQD : Hid ((aOf r).getD v 0 = q) := getD_at hq
               obtain ⟨np, rfl⟩ : ∃ k : Nat, pv = k := ⟨pv.toNat, by omega⟩
               have HSv := Hd (HSX5.out.to HBr.out)
               have HMV := Hd hmv
               have HQV := Hd hq
               obtain ⟨gP, eP, hgP, kP, _⟩ := HSv.out.bag.iat (i := 0) rfl hpv
               subst eP
               have hnp : np < wd := by omega
               obtain ⟨gq, oq, vs, eB, hgq, hvs, hcv, hE⟩ := (SL.below EFQ.stays HAR.out HBr.out).at_ hq
               subst eB
               obtain ⟨A5, n5, c5, A6, n6, c6, ev, HQ5⟩ := FQ.opened hE
               injection ev with ev
               subst ev
               have a0 : wr.cell? ⟨gq, oq + v * 3, none⟩ = some (.bool (negQ q)) := hcv 0 _ rfl
               have a1 : wr.cell? ⟨gq, oq + v * 3 + 1, none⟩ = some (.slice A5 n5 c5) := hcv 1 _ rfl
               have a2 : wr.cell? ⟨gq, oq + v * 3 + 2, none⟩ = some (.slice A6 n6 c6) := hcv 2 _ rfl
               clear hcv hvs hE hq hmv hpv hfl
               obtain ⟨x0, x4, x5, x6, x7, x8, x9, x10, x11, x12⟩ := HSv.out.t.c13
               have hltt := HSv.out.t.lt
               have fzt := HSv.out.t.frozen
               obtain ⟨o0, o1, o2, z0, z1, z2⟩ := HRP.out.cells hnp
               have g0 := HRP.out.free (np * 3)
               have g1 := HRP.out.free (np * 3 + 1)
               have g2 := HRP.out.free (np * 3 + 2)
               have hgol := HRP.out.lt
               have q1 : (v : Int) < (n : Int) := by omega
               have q3 : (v : Int).toNat = v := by omega
               have q4 : (0 : Int) ≤ (v : Int) := by omega
               have q5 : (np : Int) < (wd : Int) := by omega
               have q6 : (np : Int).toNat = np := by omega
               have q7 : (0 : Int) ≤ (np : Int) := by omega
               go_wp2_with fail
               refine wp_chainF (l := [_, _, _, _, _, _, _, _, _, _, _, _, _, _]) (S := Below wr.heap.size wr) 13 [([0, 1, 2, 3, 4, 5, 6, 7, 8, 9, 10, 11], 12)] [] (by kernel_rfl) (by kernel_rfl) (by kernel_rfl) rfl Bd ?_
               refine ⟨?_, _, ?_, rfl, ?_⟩
               rotate_left
               ·(iterate 12 ((refine pu ?_); (try simp only [SQ])))
                exact rfl
               have D0 : Hid (Below wr.heap.size wr wr.drew) := Bd
               clear x0 x4 x5 x6 x7 x8 x9 x10 x11 x12 hltt fzt
               clear kP hgP a0 a1 a2 hgq
               go_wp2_with fail
               refine And.intro D0.out ⟨_, rfl, ?_⟩
               simp only [SQ, List.drop_succ_cons, List.drop_zero]
               go_wp2_with fail
               refine NoPanic.normal ?_
               have hst := HRP.out.put (q := q) (qs' := fl.set np q) hnp HQ5.out (by simp [notWord]) col_put
               have hb7 := Below.drew (below_put3' HBr.out HGO.out (np * 3) (.bool (negQ q)) (.slice A5 n5 c5) (.slice A6 n6 c6))
               have HR1 := Hd (hst.1.below Bd)
               have HB1 := Hd hb7
               clear hst hb7 D0 HSv HQ5 z0 z1 z2 g0 g1 g2 hgol HRP HBr q5 q6 q7
               obtain ⟨W9, hW9⟩ : ∃ W, W = (put3 wr go (np * 3) (.bool (negQ q)) (.slice A5 n5 c5) (.slice A6 n6 c6)).drew := ⟨_, rfl⟩
               rw [← hW9] at HR1 HB1
               rw [show (((wr.setCell ⟨go, np * 3, none⟩ (.bool (negQ q))).setCell ⟨go, np * 3 + 1, none⟩ (.slice A5 n5 c5)).setCell ⟨go, np * 3 + 2, none⟩ (.slice A6 n6 c6)).drew = W9 from hW9.symm]
               clear hW9
               have HS9 := Hd (HSX5.out.to HB1.out)
               obtain ⟨gM, eM, hgM, kM, _⟩ := HS9.out.bag.iat (i := 1) rfl HMV.out
               subst eM
               obtain ⟨x0, x4, x5, x6, x7, x8, x9, x10, x11, x12⟩ := HS9.out.t.c13
               have hltt := HS9.out.t.lt
               have fzt := HS9.out.t.frozen
               by_cases hm0 : 0 ≤ mv
               case neg =>
                have HNX : Hid (fillN ps ms (aOf r) wd (v + 1) = fl.set np q) := by
                 unfold Hid
                 rw [fillN, HMD.out, if_neg hm0, HPD.out, HQD.out, Int.toNat_natCast, ← HFL2.out]
                have u : decide (0 ≤ mv) = false := decide_eq_false hm0
                have u' : mv < 0 := by omega
                clear hm0
                go_wp2_with fail
                go_roundw
                case rel => exact ⟨v + 1, by omega, by go_num, by rw [HNX.out]; exact HR1.out, HB1.out⟩
                case measure => simp [intOf]; omega
               obtain ⟨nm, rfl⟩ : ∃ k : Nat, mv = k := ⟨mv.toNat, by omega⟩
               have hnm : nm < wd := by omega
               have HNX : Hid (fillN ps ms (aOf r) wd (v + 1) = (fl.set np q).set nm (-q)) := by
                unfold Hid
                rw [fillN, HMD.out, if_pos hm0, HPD.out, HQD.out, Int.toNat_natCast, Int.toNat_natCast, ← HFL2.out]
               obtain ⟨gq', oq', vs, eB, hgq, hvs, hcv, hE⟩ := (SL.below EFQ.stays HAR.out HB1.out).at_ HQV.out
               obtain ⟨rfl, rfl⟩ : gq = gq' ∧ oq = oq' := by injection eB with eB; injection eB with e1 e2; exact ⟨e1, e2⟩
               obtain ⟨A5, n5, c5, A6, n6, c6, ev, HQ5⟩ := FQ.opened hE
               injection ev with ev
               subst ev
               have a0 : W9.cell? ⟨gq, oq + v * 3, none⟩ = some (.bool (negQ q)) := hcv 0 _ rfl
               have a1 : W9.cell? ⟨gq, oq + v * 3 + 1, none⟩ = some (.slice A5 n5 c5) := hcv 1 _ rfl
               have a2 : W9.cell? ⟨gq, oq + v * 3 + 2, none⟩ = some (.slice A6 n6 c6) := hcv 2 _ rfl
               have q5 : (nm : Int) < (wd : Int) := by omega
               have q6 : (nm : Int).toNat = nm := by omega
               have q7 : (0 : Int) ≤ (nm : Int) := by omega
               clear hcv hvs hE eB hm0
               go_wp2_with fail
               refine wp_chainF (l := [_, _, _, _, _, _, _, _, _, _, _, _, _, _, _]) (S := Below W9.heap.size W9) 14 [([0, 1, 2, 3, 4, 5, 6, 7, 8, 9, 10, 11], 12), ([], 13)] [] (by kernel_rfl) (by kernel_rfl) (by kernel_rfl) rfl Bd ?_
               refine ⟨?_, _, ?_, rfl, ?_⟩
               rotate_left
               ·(iterate 12 ((refine pu ?_); (try simp only [SQ])))
                exact rfl
               have D0 : Hid (Below W9.heap.size W9 W9.drew) := Bd
               clear x0 x4 x5 x6 x7 x8 x9 x10 x11 x12 hltt fzt
               clear kM hgM a0 a1 a2 hgq
               go_wp2_with fail
               refine (fneg_calls _ _ (rawQ q) (FR.of_fq (HQ5.out.of_below D0.out) HSQ.out)).mono ?_
               rintro e w6 ⟨v6, rfl, hv6, hb⟩
               rw [fixQ_raw _ HSQ.out] at hv6
               obtain ⟨D7, n9, c9, D8, n10, c10, rfl, HF6⟩ := hv6.opened
               have D6 := Hd (below_next D0.out hb)
               have HR6 := Hd (HR1.out.below D6.out)
               have HB6 := Hd (below_next HB1.out D6.out)
               clear hv6 hb
               go_wp2_with fail
               refine And.intro D6.out ⟨_, _, rfl, rfl, ?_⟩
               go_wp2_with fail
               refine And.intro D6.out ⟨_, rfl, ?_⟩
               simp only [SQ, List.drop_succ_cons, List.drop_zero]
               obtain ⟨o0', o1', o2', z0, z1, z2⟩ := HR6.out.cells hnm
               have g0 := HR6.out.free (nm * 3)
               have g1 := HR6.out.free (nm * 3 + 1)
               have g2 := HR6.out.free (nm * 3 + 2)
               have hgol := HR6.out.lt
               go_wp2_with fail
               refine NoPanic.normal ?_
               have hst := HR6.out.put (q := -q) (qs' := (fl.set np q).set nm (-q)) hnm HF6.out (by simp [notWord]) col_put
               have hb7 := below_put3' HB6.out HGO.out (nm * 3) (.bool (negQ (-q))) (.slice D7 n9 c9) (.slice D8 n10 c10)
               go_wp2_with fail
               go_roundw
               case rel => exact ⟨v + 1, by omega, by go_num, by rw [HNX.out]; exact hst.1, hb7⟩
               case measure => simp [intOf]; omega
             ·obtain rfl : n = v := by omega
              obtain ⟨x, hx⟩ : ∃ x, sl[i]? = some x := ⟨sl[i]'(by rw [HSL.out]; exact hlt), geq _⟩
              have HXD : Hid (sl.getD i 0 = x) := by unfold Hid; rw [gdd, hx]; rfl
              have hxr := HSB.out x (mog hx)
              have HSv := Hd (HSX5.out.to HBr.out)
              obtain ⟨gs', eS, hgS, kS, _⟩ := HSv.out.bag.iat (i := 2) (j := i) (x := x) rfl hx
              obtain rfl : gs = gs' := (by injection eS with eS; injection eS)
              clear eS hx hv hlv
              go_upto_if 273 with (fail)
              clear kS hgS
              go_cut [19] from 274 to 293 (fun s19 w2 => RowP w2 go wd (rowS ps ms sl wd n i r) ∧ Below WX.heap.size WX w2)
              case first =>
               by_cases hx0 : 0 ≤ x
               case neg =>
                have u : decide (0 ≤ x) = false := decide_eq_false hx0
                have u' : x < 0 := by omega
                have HRS1 : Hid (rowS ps ms sl wd n i r = fillN ps ms (aOf r) wd n) := by unfold Hid rowS; rw [HXD.out, if_neg hx0]
                clear hx0
                go_wp2_with fail
                go_meet
                case rel => exact ⟨by rw [HRS1.out]; exact HRP.out, HBr.out⟩
               obtain ⟨nx, rfl⟩ : ∃ k : Nat, x = k := ⟨x.toNat, by omega⟩
               have hnx : nx < wd := by omega
               have u : decide ((0 : Int) ≤ (nx : Int)) = true := decide_eq_true hx0
               obtain ⟨z0, z1, z2, z3, z4⟩ := (show Blk _ gr 65 #[.slice B1 n d1, .int .i64 r.s, .bool (negQ r.b), .slice B2 n2 d2, .slice B3 n3 d3] from HRX.out.below HBr.out HRX.out.lt).c5
               have hlr := (HRX.out.below HBr.out HRX.out.lt).lt
               have hs1 : -1 ≤ r.s := (HSS.out r (mog HR.out)).1
               have hs2 : r.s ≤ 1 := (HSS.out r (mog HR.out)).2
               obtain ⟨x0, x4, x5, x6, x7, x8, x9, x10, x11, x12⟩ := HSv.out.t.c13
               have hltt := HSv.out.t.lt
               have fzt := HSv.out.t.frozen
               obtain ⟨gT', eT, hgT, kT, fT⟩ := HSv.out.bag.bat (i := 3) (j := i) (x := decide (r.b < 0)) rfl (by unfold turnN; rw [List.getElem?_map, List.getElem?_take, if_pos hlt, HR.out]; rfl)
               obtain rfl : gT = gT' := (by injection eT with eT; injection eT)
               obtain ⟨num, hnum⟩ : ∃ z, z = (if r.b < 0 then r.s else -r.s : Int) := ⟨_, rfl⟩
               have HRS1 : Hid (rowS ps ms sl wd n i r = (fillN ps ms (aOf r) wd n).set nx (num : Rat)) := by unfold Hid rowS; rw [HXD.out, if_pos hx0, Int.toNat_natCast, ← hnum]
               have HNR : Hid (-1 ≤ num ∧ num ≤ 1) := by unfold Hid; rw [hnum]; split <;> omega
               have HNUM := Hd hnum
               obtain ⟨gs', eS, hgS, kS, _⟩ := HSv.out.bag.iat (i := 2) (j := i) (x := (nx : Int)) rfl (by rw [geq (by rw [HSL.out]; exact hlt)]; congr 1; have := HXD.out; rw [gdd, geq (by rw [HSL.out]; exact hlt)] at this; exact this)
               obtain rfl : gs = gs' := (by injection eS with eS; injection eS)
               have q5 : (nx : Int) < (wd : Int) := by omega
               have q6 : (nx : Int).toNat = nx := by omega
               have q7 : (0 : Int) ≤ (nx : Int) := by omega
               clear eT hnum eS hx0
               by_cases hb : r.b < 0
               ·as_aux_lemma =>
                 have hnm : r.s = num := by rw [HNUM.out, if_pos hb]
                 have HNM := Hd hnm
                 clear hnm
                 rw [decide_eq_true hb] at kT
                 exact sq16 _
               ·as_aux_lemma =>
                 have hnm : -r.s = num := by rw [HNUM.out, if_neg hb]
                 have HNM := Hd hnm
                 clear hnm
                 rw [decide_eq_false hb] at kT
                 exact sq16 _
              case rest =>
               clear HRP HBr HSv
               have HRP := Hd hcut.1
               have HBr := Hd hcut.2
               clear hcut
               have HSv := Hd (HSX5.out.to HBr.out)
               obtain ⟨y, hy⟩ : ∃ x, il[i]? = some x := ⟨il[i]'(by rw [HIL.out]; exact hlt), geq _⟩
               have hyr := HIB.out y (mog hy)
               obtain ⟨ny, rfl⟩ : ∃ k : Nat, y = k := ⟨y.toNat, by omega⟩
               have HYD : Hid (il.getD i 0 = (ny : Int)) := by unfold Hid; rw [gdd, hy]; rfl
               have HYV := Hd hy
               have hny : ny < wd := by omega
               obtain ⟨gI, eI, hgI, kI, _⟩ := HSv.out.bag.iat (i := 4) (j := i) (x := (ny : Int)) rfl hy
               subst eI
               obtain ⟨x0, x4, x5, x6, x7, x8, x9, x10, x11, x12⟩ := HSv.out.t.c13
               have hltt := HSv.out.t.lt
               have fzt := HSv.out.t.frozen
               have q5 : (ny : Int) < (wd : Int) := by omega
               have q6 : (ny : Int).toNat = ny := by omega
               have q7 : (0 : Int) ≤ (ny : Int) := by omega
               clear hy
               go_wp2_with fail
               refine wp_chainF (l := [_, _, _, _, _, _, _, _, _, _, _]) (S := Below wc.heap.size wc) 10 [([0, 1, 2, 3, 4, 5, 6, 7], 8), ([], 9)] [] (by kernel_rfl) (by kernel_rfl) (by kernel_rfl) rfl Bd ?_
               refine ⟨?_, _, ?_, rfl, ?_⟩
               rotate_left
               ·(iterate 8 ((refine pu ?_); (try simp only [SQ])))
                exact rfl
               have D0 : Hid (Below wc.heap.size wc wc.drew) := Bd
               clear x0 x4 x5 x6 x7 x8 x9 x10 x11 x12 hltt fzt
               clear kI hgI
               go_wp2_with fail
               refine (number_calls _ 1 (by decide) (by decide)).mono ?_
               rintro e w2 ⟨v, rfl, hv, hb⟩
               rw [show ((1 : Int) : Rat) = 1 from rfl] at hv
               obtain ⟨D7, n9, c9, D8, n10, c10, rfl, HF6⟩ := hv.opened
               have D6 := Hd (below_next D0.out hb)
               have HR6 := Hd (HRP.out.below D6.out)
               have HB6 := Hd (below_next HBr.out D6.out)
               clear hv hb
               go_wp2_with fail
               refine And.intro D6.out ⟨_, _, rfl, rfl, ?_⟩
               go_wp2_with fail
               refine And.intro D6.out ⟨_, rfl, ?_⟩
               simp only [SQ, List.drop_succ_cons, List.drop_zero]
               obtain ⟨o0, o1, o2, z0, z1, z2⟩ := HR6.out.cells hny
               have g0 := HR6.out.free (ny * 3)
               have g1 := HR6.out.free (ny * 3 + 1)
               have g2 := HR6.out.free (ny * 3 + 2)
               have hgol := HR6.out.lt
               go_wp2_with fail
               refine NoPanic.normal ?_
               have hst := HR6.out.put (q := (1 : Rat)) (qs' := (rowS ps ms sl wd n i r).set ny (1 : Rat)) hny HF6.out (by simp [notWord]) col_put
               have hb7 := below_put3' HB6.out HGO.out (ny * 3) (.bool (negQ (1 : Rat))) (.slice D7 n9 c9) (.slice D8 n10 c10)
               have HRD : Hid (rowD ps ms sl il wd n i r = (rowS ps ms sl wd n i r).set ny (1 : Rat)) := by unfold Hid rowD; rw [HYD.out, Int.toNat_natCast]
               have HR9 := Hd hst.1
               have HB9 := Hd hb7
               rw [← HRD.out] at HR9
               clear hst hb7 HR6 HB6 D6 D0 HF6 z0 z1 z2 g0 g1 g2 hgol HRP HBr HSv q5 q6 q7
               obtain ⟨W9, hW9⟩ : ∃ W, W = put3 w2 go (ny * 3) (.bool (negQ (1 : Rat))) (.slice D7 n9 c9) (.slice D8 n10 c10) := ⟨_, rfl⟩
               rw [← hW9] at HR9 HB9
               rw [show ((w2.setCell ⟨go, ny * 3, none⟩ (.bool (negQ (1 : Rat)))).setCell ⟨go, ny * 3 + 1, none⟩ (.slice D7 n9 c9)).setCell ⟨go, ny * 3 + 2, none⟩ (.slice D8 n10 c10) = W9 from hW9.symm]
               clear hW9
               have HE1 : Hid ((p.rows.map bOfR).take (i + 1) = (p.rows.map bOfR).take i ++ [bOfR r]) := by unfold Hid; rw [List.take_add_one, List.getElem?_map, HR.out]; rfl
               have HE2 : Hid (il.take (i + 1) = il.take i ++ [(ny : Int)]) := by unfold Hid; rw [List.take_add_one, HYV.out]; rfl
               have HE3 : Hid (entN wd (gl ++ [(go, wd)]) ((rowsN ps ms sl il wd n p.rows).take (i + 1)) = entN wd gl ((rowsN ps ms sl il wd n p.rows).take i) ++ [(.slice (some ⟨go, 0, none⟩) wd wd, .F (rowD ps ms sl il wd n i r))]) := by
                unfold Hid
                rw [List.take_add_one, show (rowsN ps ms sl il wd n p.rows)[i]? = some (rowD ps ms sl il wd n i r) by unfold rowsN; rw [List.getElem?_mapIdx, HR.out]; rfl]
                exact zip_snoc _ _ _ _ _ (by rw [HGL.out, ltk]; unfold rowsN; rw [List.length_mapIdx, HRL.out]; omega)
               have hbw : ∀ u ∈ #[.bool (negQ (bOfR r)), .slice C1 e1 f1, .slice C2 e2 f2], notWord u = true := by intro u hu; simp at hu; rcases hu with rfl | rfl | rfl <;> rfl
               have HSB1 := Hd (HSX5.out.cons (v := .slice (some ⟨gb, 0, none⟩) 1 1) (c := .F [bOfR r]) (box_ol HBX.out hbw HFX.out hgw) (fun j v' c' g hj hg => by obtain rfl : gb = g := (by simpa [Value.ownBlock] using hg); exact HNB.out j v' c' hj))
               have HSB2 := Hd (HSB1.out.add (v := .slice (some ⟨go, 0, none⟩) wd wd) (c := .F (rowD ps ms sl il wd n i r)) HB9.out (RowP.ol HR9.out (rowD_len ..) (Nat.le_trans HSX5.out.below.size HGO.out) (by omega)) (fun g hg => by obtain rfl : go = g := (by simpa [Value.ownBlock] using hg); exact HGO.out))
               have HBX9 : Hid (Blk W9 gb 40 #[.bool (negQ (bOfR r)), .slice C1 e1 f1, .slice C2 e2 f2]) := HBX.out.below HB9.out HBX.out.lt
               have HFX9 := Hd (HFX.out.of_below HB9.out)
               clear HSB1 hbw
               obtain ⟨gI', eI, hgI, kI, _⟩ := HSB2.out.bag.iat (i := 5) (j := i) (x := (ny : Int)) rfl HYV.out
               obtain rfl : gI = gI' := by injection eI with eI; injection eI
               obtain ⟨x0, x4, x5, x6, x7, x8, x9, x10, x11, x12⟩ := HSB2.out.t.c13
               have hltt := HSB2.out.t.lt
               have fzt := HSB2.out.t.frozen
               obtain ⟨z0, z1, z2⟩ := HBX9.out.c3
               have hlb := HBX9.out.lt
               clear eI
               go_wp2_with fail
               refine wp_fork0 (l := [_, _, _, _, _, _, _, _, _, _, _, _, _, _, _, _, _, _, _, _, _, _, _, _, _, _, _, _, _, _, _, _, _, _, _, _, _, _, _]) [1, 2] (Same3 gt gb gI W9) 30 (.three [0, 3, 4, 5, 6, 7, 10, 11, 12, 13, 14, 17, 18, 19, 20, 21, 22, 23, 24, 25, 26, 27] 8 (.three [] 9 (.two [] 15 (.two [] 16 (.one [] 28 (.one [] 29 (.fin []))) 28 (.one [] 16 (.one [] 29 (.fin [])))) 28 (.one [] 15 (.one [] 16 (.one [] 29 (.fin []))))) 15 (.two [] 9 (.two [] 16 (.one [] 28 (.one [] 29 (.fin []))) 28 (.one [] 16 (.one [] 29 (.fin [])))) 28 (.one [] 9 (.one [] 16 (.one [] 29 (.fin []))))) 28 (.two [] 9 (.one [] 15 (.one [] 16 (.one [] 29 (.fin [])))) 15 (.one [] 9 (.one [] 16 (.one [] 29 (.fin [])))))) 15 (.two [] 8 (.two [] 9 (.two [] 16 (.one [] 28 (.one [] 29 (.fin []))) 28 (.one [] 16 (.one [] 29 (.fin [])))) 28 (.one [] 9 (.one [] 16 (.one [] 29 (.fin []))))) 28 (.one [] 8 (.one [] 9 (.one [] 16 (.one [] 29 (.fin [])))))) 28 (.two [] 8 (.two [] 9 (.one [] 15 (.one [] 16 (.one [] 29 (.fin [])))) 15 (.one [] 9 (.one [] 16 (.one [] 29 (.fin []))))) 15 (.one [] 8 (.one [] 9 (.one [] 16 (.one [] 29 (.fin []))))))) (by kernel_rfl) (by as_aux_lemma => kernel_rfl) (by as_aux_lemma => kernel_rfl) (forkOk_of (by as_aux_lemma => kernel_rfl)) (by as_aux_lemma => kernel_rfl) ⟨SameT.of_below Bd hltt, SameT.of_below Bd hlb, SameT.of_below Bd hgI⟩ ?_
               refine ⟨?_, ?_, ?_⟩
               rotate_left
               ·(iterate 2 ((refine ⟨_, ?_, rfl, Or.inl ⟨by rfl, ?_⟩, ?_⟩; rotate_left; focus (intro W hW; clear hW; go_simp; try with_reducible rfl)); (try simp only [SQ])))
                exact rfl
               refine fork_share3 put60 (fun x V => ∃ l8 E9 n9 c9 l15 E16 n16 c16 l28 E29 n29 c29, x = X60.mk l8 (.slice E9 n9 c9) l15 (.slice E16 n16 c16) l28 (.slice E29 n29 c29) ∧ BS w gp gt #[.int .i64 (n : Int), .slice A1 n c1, .slice A2 n c2, .slice (some ⟨gA, 0, none⟩) m c3] #[.int .i64 (n : Int), .slice A1 n c1, .slice A2 n c2, .slice (some ⟨gA, 0, none⟩) m c3, vR, vRt, vB, .slice P0 n pc, .slice M0 n mc, .int .i64 ((rb : Nat) : Int), .int .i64 ((wd : Nat) : Int), .slice (some ⟨gI, 0, none⟩) m ic, .slice (some ⟨gT, 0, none⟩) m tc] ((.slice (some ⟨gb, 0, none⟩) 1 1, .F [bOfR r]) :: (.slice P0 n pc, .I ps) :: (.slice M0 n mc, .I ms) :: (.slice (some ⟨gs, 0, none⟩) m m, .I sl) :: (.slice (some ⟨gT, 0, none⟩) m tc, .B (turnN p.rows m)) :: (.slice (some ⟨gI, 0, none⟩) m ic, .I il) :: (.slice E9 n9 c9, .R wd (gl ++ [(go, wd)])) :: (.slice E16 n16 c16, .F ((p.rows.map bOfR).take i ++ [bOfR r])) :: (.slice E29 n29 c29, .I (il.take i ++ [(ny : Int)])) :: (entN wd gl ((rowsN ps ms sl il wd n p.rows).take i) ++ [(.slice (some ⟨go, 0, none⟩) wd wd, .F (rowD ps ms sl il wd n i r))])) V) ?_
               refine ⟨?_, ?_, ?_, ?_⟩
               rotate_left
               ·(iterate 22 ((refine ⟨_, ?_, rfl, Or.inl ⟨by rfl, ?_⟩, ?_⟩; rotate_left; focus (intro W hW; have hcW := hW.h1; have hcW2 := hW.h2; have hcW3 := hW.h3; clear hW; unfold SameT at hcW hcW2 hcW3; go_simp; try with_reducible rfl)); (try simp only [SQ])))
                exact rfl
               ·as_aux_lemma =>
                 rintro x V ⟨l8, E9, n9, c9, l15, E16, n16, c16, l28, E29, n29, c29, rfl, hbs⟩
                 have HSL := Hd hbs
                 clear x0 x4 x5 x6 x7 x8 x9 x10 x11 x12 hltt fzt hbs kI hgI z0 z1 z2 hlb
                 simp only [put60, Act.put, List.getElem_toArray, List.getElem_cons_succ, List.getElem_cons_zero, List.setIfInBounds_toArray, List.set_cons_zero, List.set_cons_succ]
                 obtain ⟨x0, x4, x5, x6, x7, x8, x9, x10, x11, x12⟩ := HSL.out.t.c13
                 have hltt := HSL.out.t.lt
                 have fzt := HSL.out.t.frozen
                 go_wp2_with fail
                 refine NoPanic.normal ?_
                 have HSZ := Hd ((((HSL.out.tput 4 (.slice E9 n9 c9) rfl (by decide)).tput 5 (.slice E16 n16 c16) rfl (by decide)).tput 6 (.slice E29 n29 c29) rfl (by decide)).tail)
                 go_wp2_with fail
                 go_roundw
                 case rel => exact ⟨i + 1, by omega, by go_num, _, _, _, gl ++ [(go, wd)], by rw [lap, HGL.out]; rfl, by rw [HE1.out, HE2.out, HE3.out]; exact HSZ.out⟩
                 case measure => simp [intOf]; omega
               intro O K60 hO hK
               have HK60 := Hd hK
               have h8 : O[8]? = some _ := (hO 8).trans rfl
               have h9 : O[9]? = some _ := (hO 9).trans rfl
               have h15 : O[15]? = some _ := (hO 15).trans rfl
               have h16 : O[16]? = some _ := (hO 16).trans rfl
               have h28 : O[28]? = some _ := (hO 28).trans rfl
               have h29 : O[29]? = some _ := (hO 29).trans rfl
               have O8 := Hd h8
               have O9 := Hd h9
               have O15 := Hd h15
               have O16 := Hd h16
               have O28 := Hd h28
               have O29 := Hd h29
               clear hO hK h8 h9 h15 h16 h28 h29
               refine ⟨_, _, _, O8.out, O15.out, O28.out, ?_, ?_, ?_⟩
               ·as_aux_lemma =>
                 have HS0 := Hd (HSB2.out.to Bd)
                 have HX0 : Hid (Same3 gt gb gI W9 W9.drew) := ⟨SameT.of_below Bd hltt, SameT.of_below Bd hlb, SameT.of_below Bd hgI⟩
                 have HQ0 := Hd (HFX9.out.of_below (show Below W9.heap.size W9 W9.drew from Bd))
                 clear x0 x4 x5 x6 x7 x8 x9 x10 x11 x12 hltt fzt kI hgI z0 z1 z2 hlb
                 generalize W9.drew = V0 at *
                 go_wp2_with fail
                 have hn := below_new V0 (.cells #[.slice (some ⟨go, 0, none⟩) wd wd] 23)
                 have HS1 := Hd (HS0.out.to hn)
                 have HX1 := Hd (HX0.out.next (SameT.of_below hn HS0.out.t.lt) (SameT.of_below hn (HS0.out.bag.own_lt (i := 0) rfl)) (SameT.of_below hn (HS0.out.bag.own_lt (i := 5) rfl)))
                 have HQ1 := Hd (HQ0.out.of_below hn)
                 have K8_1 := Hd (Blk.new V0 23 #[.slice (some ⟨go, 0, none⟩) wd wd])
                 obtain ⟨gl8, hgl⟩ : ∃ g, g = V0.heap.size := ⟨_, rfl⟩
                 rw [← hgl] at K8_1 ⊢
                 clear hgl hn
                 generalize V0.alloc (.cells #[.slice (some ⟨go, 0, none⟩) wd wd] 23) = V1 at *
                 refine And.intro HX1.out ?_
                 refine forkK_three O9.out O15.out O28.out ?_ ?_ ?_
                 ·as_aux_lemma =>
                   refine wpl_bagG rfl (.tmp 310) (.tmp 312) rfl HS1.out.bag 6 _ gl rfl rfl (go, wd) rfl K8_1.out (by rw [HGL.out]; omega) ?_
                   intro v9 V2 hbg hst
                   obtain ⟨E9, n9, c9, rfl⟩ : ∃ E n c, v9 = .slice E n c := (by obtain ⟨A, n, c, e, _⟩ := (hbg.ok 6 _ _ rfl).slice; exact ⟨A, n, c, e⟩)
                   have HS2 := Hd (HS1.out.app (i := 6) rfl hbg hst)
                   have HX2 := Hd (HX1.out.next (SameT.of_blk HS1.out.t HS2.out.t) (SameT.of_step hst (HS1.out.bag.own_lt (i := 0) rfl) (HS1.out.bag.ne_own (i := 6) (j := 0) (by decide) rfl rfl)) (SameT.of_step hst (HS1.out.bag.own_lt (i := 5) rfl) (HS1.out.bag.ne_own (i := 6) (j := 5) (by decide) rfl rfl)))
                   have HQ2 := Hd (HQ1.out.keeps hst.1)
                   clear hbg hst
                   refine And.intro HX2.out ?_
                   refine forkK_two O15.out O28.out ?_ ?_
                   ·as_aux_lemma =>
                     go_wp2_with fail
                     have hn := below_new V2 (.cells #[.bool (negQ (bOfR r)), .slice C1 e1 f1, .slice C2 e2 f2] 40)
                     have HS3 := Hd (HS2.out.to hn)
                     have HX3 := Hd (HX2.out.next (SameT.of_below hn HS2.out.t.lt) (SameT.of_below hn (HS2.out.bag.own_lt (i := 0) rfl)) (SameT.of_below hn (HS2.out.bag.own_lt (i := 5) rfl)))
                     have HQ3 := Hd (HQ2.out.of_below hn)
                     have K15_3 := Hd (Blk.new V2 40 #[.bool (negQ (bOfR r)), .slice C1 e1 f1, .slice C2 e2 f2])
                     obtain ⟨gl15, hgl⟩ : ∃ g, g = V2.heap.size := ⟨_, rfl⟩
                     rw [← hgl] at K15_3 ⊢
                     clear hgl hn
                     generalize V2.alloc (.cells #[.bool (negQ (bOfR r)), .slice C1 e1 f1, .slice C2 e2 f2] 40) = V3 at *
                     exact sq6 _
                   ·as_aux_lemma =>
                     go_wp2_with fail
                     have hn := below_new V2 (.cells #[.int .i64 (ny : Int)] 3)
                     have HS3 := Hd (HS2.out.to hn)
                     have HX3 := Hd (HX2.out.next (SameT.of_below hn HS2.out.t.lt) (SameT.of_below hn (HS2.out.bag.own_lt (i := 0) rfl)) (SameT.of_below hn (HS2.out.bag.own_lt (i := 5) rfl)))
                     have HQ3 := Hd (HQ2.out.of_below hn)
                     have K28_3 := Hd (Blk.new V2 3 #[.int .i64 (ny : Int)])
                     obtain ⟨gl28, hgl⟩ : ∃ g, g = V2.heap.size := ⟨_, rfl⟩
                     rw [← hgl] at K28_3 ⊢
                     clear hgl hn
                     generalize V2.alloc (.cells #[.int .i64 (ny : Int)] 3) = V3 at *
                     exact sq29 _
                 ·as_aux_lemma =>
                   go_wp2_with fail
                   have hn := below_new V1 (.cells #[.bool (negQ (bOfR r)), .slice C1 e1 f1, .slice C2 e2 f2] 40)
                   have HS2 := Hd (HS1.out.to hn)
                   have HX2 := Hd (HX1.out.next (SameT.of_below hn HS1.out.t.lt) (SameT.of_below hn (HS1.out.bag.own_lt (i := 0) rfl)) (SameT.of_below hn (HS1.out.bag.own_lt (i := 5) rfl)))
                   have HQ2 := Hd (HQ1.out.of_below hn)
                   have K8_2 := Hd (K8_1.out.below hn K8_1.out.lt)
                   have K15_2 := Hd (Blk.new V1 40 #[.bool (negQ (bOfR r)), .slice C1 e1 f1, .slice C2 e2 f2])
                   obtain ⟨gl15, hgl⟩ : ∃ g, g = V1.heap.size := ⟨_, rfl⟩
                   rw [← hgl] at K15_2 ⊢
                   clear hgl hn
                   generalize V1.alloc (.cells #[.bool (negQ (bOfR r)), .slice C1 e1 f1, .slice C2 e2 f2] 40) = V2 at *
                   exact sq17 _
                 ·as_aux_lemma =>
                   go_wp2_with fail
                   have hn := below_new V1 (.cells #[.int .i64 (ny : Int)] 3)
                   have HS2 := Hd (HS1.out.to hn)
                   have HX2 := Hd (HX1.out.next (SameT.of_below hn HS1.out.t.lt) (SameT.of_below hn (HS1.out.bag.own_lt (i := 0) rfl)) (SameT.of_below hn (HS1.out.bag.own_lt (i := 5) rfl)))
                   have HQ2 := Hd (HQ1.out.of_below hn)
                   have K8_2 := Hd (K8_1.out.below hn K8_1.out.lt)
                   have K28_2 := Hd (Blk.new V1 3 #[.int .i64 (ny : Int)])
                   obtain ⟨gl28, hgl⟩ : ∃ g, g = V1.heap.size := ⟨_, rfl⟩
                   rw [← hgl] at K28_2 ⊢
                   clear hgl hn
                   generalize V1.alloc (.cells #[.int .i64 (ny : Int)] 3) = V2 at *
                   exact sq10 _
               ·as_aux_lemma =>
                 have HS0 := Hd (HSB2.out.to Bd)
                 have HX0 : Hid (Same3 gt gb gI W9 W9.drew) := ⟨SameT.of_below Bd hltt, SameT.of_below Bd hlb, SameT.of_below Bd hgI⟩
                 have HQ0 := Hd (HFX9.out.of_below (show Below W9.heap.size W9 W9.drew from Bd))
                 clear x0 x4 x5 x6 x7 x8 x9 x10 x11 x12 hltt fzt kI hgI z0 z1 z2 hlb
                 generalize W9.drew = V0 at *
                 go_wp2_with fail
                 have hn := below_new V0 (.cells #[.bool (negQ (bOfR r)), .slice C1 e1 f1, .slice C2 e2 f2] 40)
                 have HS1 := Hd (HS0.out.to hn)
                 have HX1 := Hd (HX0.out.next (SameT.of_below hn HS0.out.t.lt) (SameT.of_below hn (HS0.out.bag.own_lt (i := 0) rfl)) (SameT.of_below hn (HS0.out.bag.own_lt (i := 5) rfl)))
                 have HQ1 := Hd (HQ0.out.of_below hn)
                 have K15_1 := Hd (Blk.new V0 40 #[.bool (negQ (bOfR r)), .slice C1 e1 f1, .slice C2 e2 f2])
                 obtain ⟨gl15, hgl⟩ : ∃ g, g = V0.heap.size := ⟨_, rfl⟩
                 rw [← hgl] at K15_1 ⊢
                 clear hgl hn
                 generalize V0.alloc (.cells #[.bool (negQ (bOfR r)), .slice C1 e1 f1, .slice C2 e2 f2] 40) = V1 at *
                 refine And.intro HX1.out ?_
                 refine forkK_two O8.out O28.out ?_ ?_
                 ·as_aux_lemma =>
                   go_wp2_with fail
                   have hn := below_new V1 (.cells #[.slice (some ⟨go, 0, none⟩) wd wd] 23)
                   have HS2 := Hd (HS1.out.to hn)
                   have HX2 := Hd (HX1.out.next (SameT.of_below hn HS1.out.t.lt) (SameT.of_below hn (HS1.out.bag.own_lt (i := 0) rfl)) (SameT.of_below hn (HS1.out.bag.own_lt (i := 5) rfl)))
                   have HQ2 := Hd (HQ1.out.of_below hn)
                   have K15_2 := Hd (K15_1.out.below hn K15_1.out.lt)
                   have K8_2 := Hd (Blk.new V1 23 #[.slice (some ⟨go, 0, none⟩) wd wd])
                   obtain ⟨gl8, hgl⟩ : ∃ g, g = V1.heap.size := ⟨_, rfl⟩
                   rw [← hgl] at K8_2 ⊢
                   clear hgl hn
                   generalize V1.alloc (.cells #[.slice (some ⟨go, 0, none⟩) wd wd] 23) = V2 at *
                   exact sq17 _
                 ·as_aux_lemma =>
                   go_wp2_with fail
                   have hn := below_new V1 (.cells #[.int .i64 (ny : Int)] 3)
                   have HS2 := Hd (HS1.out.to hn)
                   have HX2 := Hd (HX1.out.next (SameT.of_below hn HS1.out.t.lt) (SameT.of_below hn (HS1.out.bag.own_lt (i := 0) rfl)) (SameT.of_below hn (HS1.out.bag.own_lt (i := 5) rfl)))
                   have HQ2 := Hd (HQ1.out.of_below hn)
                   have K15_2 := Hd (K15_1.out.below hn K15_1.out.lt)
                   have K28_2 := Hd (Blk.new V1 3 #[.int .i64 (ny : Int)])
                   obtain ⟨gl28, hgl⟩ : ∃ g, g = V1.heap.size := ⟨_, rfl⟩
                   rw [← hgl] at K28_2 ⊢
                   clear hgl hn
                   generalize V1.alloc (.cells #[.int .i64 (ny : Int)] 3) = V2 at *
                   exact sq26 _
               ·as_aux_lemma =>
                 have HS0 := Hd (HSB2.out.to Bd)
                 have HX0 : Hid (Same3 gt gb gI W9 W9.drew) := ⟨SameT.of_below Bd hltt, SameT.of_below Bd hlb, SameT.of_below Bd hgI⟩
                 have HQ0 := Hd (HFX9.out.of_below (show Below W9.heap.size W9 W9.drew from Bd))
                 clear x0 x4 x5 x6 x7 x8 x9 x10 x11 x12 hltt fzt kI hgI z0 z1 z2 hlb
                 generalize W9.drew = V0 at *
                 go_wp2_with fail
                 have hn := below_new V0 (.cells #[.int .i64 (ny : Int)] 3)
                 have HS1 := Hd (HS0.out.to hn)
                 have HX1 := Hd (HX0.out.next (SameT.of_below hn HS0.out.t.lt) (SameT.of_below hn (HS0.out.bag.own_lt (i := 0) rfl)) (SameT.of_below hn (HS0.out.bag.own_lt (i := 5) rfl)))
                 have HQ1 := Hd (HQ0.out.of_below hn)
                 have K28_1 := Hd (Blk.new V0 3 #[.int .i64 (ny : Int)])
                 obtain ⟨gl28, hgl⟩ : ∃ g, g = V0.heap.size := ⟨_, rfl⟩
                 rw [← hgl] at K28_1 ⊢
                 clear hgl hn
                 generalize V0.alloc (.cells #[.int .i64 (ny : Int)] 3) = V1 at *
                 refine And.intro HX1.out ?_
                 refine forkK_two O8.out O15.out ?_ ?_
                 ·as_aux_lemma =>
                   go_wp2_with fail
                   have hn := below_new V1 (.cells #[.slice (some ⟨go, 0, none⟩) wd wd] 23)
                   have HS2 := Hd (HS1.out.to hn)
                   have HX2 := Hd (HX1.out.next (SameT.of_below hn HS1.out.t.lt) (SameT.of_below hn (HS1.out.bag.own_lt (i := 0) rfl)) (SameT.of_below hn (HS1.out.bag.own_lt (i := 5) rfl)))
                   have HQ2 := Hd (HQ1.out.of_below hn)
                   have K28_2 := Hd (K28_1.out.below hn K28_1.out.lt)
                   have K8_2 := Hd (Blk.new V1 23 #[.slice (some ⟨go, 0, none⟩) wd wd])
                   obtain ⟨gl8, hgl⟩ : ∃ g, g = V1.heap.size := ⟨_, rfl⟩
                   rw [← hgl] at K8_2 ⊢
                   clear hgl hn
                   generalize V1.alloc (.cells #[.slice (some ⟨go, 0, none⟩) wd wd] 23) = V2 at *
                   exact sq10 _
                 ·as_aux_lemma =>
                   go_wp2_with fail
                   have hn := below_new V1 (.cells #[.bool (negQ (bOfR r)), .slice C1 e1 f1, .slice C2 e2 f2] 40)
                   have HS2 := Hd (HS1.out.to hn)
                   have HX2 := Hd (HX1.out.next (SameT.of_below hn HS1.out.t.lt) (SameT.of_below hn (HS1.out.bag.own_lt (i := 0) rfl)) (SameT.of_below hn (HS1.out.bag.own_lt (i := 5) rfl)))
                   have HQ2 := Hd (HQ1.out.of_below hn)
                   have K28_2 := Hd (K28_1.out.below hn K28_1.out.lt)
                   have K15_2 := Hd (Blk.new V1 40 #[.bool (negQ (bOfR r)), .slice C1 e1 f1, .slice C2 e2 f2])
                   obtain ⟨gl15, hgl⟩ : ∃ g, g = V1.heap.size := ⟨_, rfl⟩
                   rw [← hgl] at K15_2 ⊢
                   clear hgl hn
                   generalize V1.alloc (.cells #[.bool (negQ (bOfR r)), .slice C1 e1 f1, .slice C2 e2 f2] 40) = V2 at *
                   exact sq26 _
        ·obtain rfl : m = i := by omega
         have hbt : il.take m = il := List.take_of_length_le (by rw [HIL.out]; exact Nat.le_refl _)
         have hrt : (p.rows.map bOfR).take m = p.rows.map bOfR := List.take_of_length_le (by rw [lmp, HRL.out]; exact Nat.le_refl _)
         have hqt : (rowsN ps ms sl il wd n p.rows).take m = rowsN ps ms sl il wd n p.rows := List.take_of_length_le (by unfold rowsN; rw [List.length_mapIdx, HRL.out]; exact Nat.le_refl _)
         rw [hbt, hrt, hqt] at HS
         clear hbt hrt hqt hlt hi
         go_wp2_with fail
         go_ret
         exact build_post HVN.out HSN.out HIN.out HIL.out HRL.out HGL.out HRS.out HSS.out HS.out
def ClimbPost (base : Nat) (H : Nat → Option (List Rat)) (I : Nat → Option (List Int)) (S : Shape) (gs : List (Nat × Nat)) (gg : Nat) (res : Int × Tab × List Rat) (w : World) (e : Ending) (w' : World) : Prop :=
 e = .returned (.int .i64 res.1) ∧ ∃ H' I', View base H' I' w' ∧ TabV H' I' S gs res.2.1 ∧ H' gg = some res.2.2 ∧ (∀ k, ¬ Owned S gs k → k ≠ gg → H' k = H k) ∧ ChgS base w w' ∧ ∀ k, NotBase S k → I' k = I k
theorem pivGain_length {col : Nat} {rp gain : List Rat} (h : rp.length = gain.length) : (pivGain col rp gain).length = gain.length := by
 unfold pivGain
 split
 ·rfl
 ·exact takeQ_length h
theorem pivNew_length {T : Tab} {row col : Nat} : (pivNew T row col).length = (T.rows.getD row []).length := by unfold pivNew pivRow; rw [lmp]
theorem pivot_rows {T : Tab} {row col : Nat} : (pivotQ T row col).rows.length = T.rows.length := by unfold pivotQ; rw [List.length_mapIdx]
theorem sq19 (P : Prop) (h : P := by
 generalize w6.drew = w7 at *
 go_wp2_with fail
 have hdr : Below w7.heap.size w7 w7.drew := Bd
 have HBD := Hd (below_next HBE.out hdr)
 have HXD := Hd (HXE.out.below hdr HXE.out.lt)
 have HKD := Hd (HKE.out.below hdr HKE.out.lt)
 have HQD2 := Hd (HQE.out.of_below hdr)
 obtain ⟨z0, z1, z2⟩ := HKE.out.c3
 have hlz := HKE.out.lt
 refine wp_tree (l := [_, _, _, _]) (S := Below w7.heap.size w7) 3 (.one [0, 1] 2 (.fin [])) (by kernel_rfl) (by kernel_rfl) (by kernel_rfl) rfl Bd ?_
 refine ⟨?_, _, ?_, rfl, ?_⟩
 rotate_left
 ·(iterate 2 ((refine pu ?_); (try simp only [SQ])))
  exact rfl
 clear z0 z1 z2 hlz
 obtain ⟨v0, v1, v2⟩ := HXE.out.c3
 obtain ⟨q0, q1, q2⟩ := HXE.out.f3
 have hlx := HXE.out.lt
 go_wp2_with fail
 refine And.intro hdr ⟨_, rfl, ?_⟩
 go_wp2_with fail
 have hpo := put3_only (o := 0) (a := .bool (negQ (quoQ q f))) (b := .slice E1 h1 i1) (c := .slice E2 h2 i2) HXD.out (by intro u hu; simp only [List.mem_toArray, List.mem_cons, List.not_mem_nil, or_false] at hu; rcases hu with rfl | rfl | rfl <;> rfl)
 have HXs := Hd (HXD.out.put3 (.bool (negQ (quoQ q f))) (.slice E1 h1 i1) (.slice E2 h2 i2))
 have HQs := Hd (HQD2.out.keeps hpo.1)
 have hds := below_put3' HBD.out HGX.out 0 (.bool (negQ (quoQ q f))) (.slice E1 h1 i1) (.slice E2 h2 i2)
 have HDs := Hd hds
 clear hpo hds v0 v1 v2 q0 q1 q2 hlx
 refine NoPanic.normal ?_
 go_wp2_with fail
 go_roundw
 case rel => exact ⟨HDs.out, i + 1, _, E1, h1, i1, E2, h2, i2, by omega, by go_num, HXs.out, .inr ⟨i, quoQ q f, by omega, rfl, HST.out, HQs.out⟩⟩
 case measure => simp [intOf]; omega) : P := h
theorem sq47 (P : Prop) (h : P := by
 refine NoPanic.normal ?_
 go_wp2_with fail
 go_roundw
 case rel =>
  refine ⟨HBE.out, i + 1, s, B1, k1, d1, B2, k2, d2, by omega, by go_num, HXE.out, ?_⟩
  rw [HST.out]
  exact .inr ⟨row, l, by omega, rfl, hsome.out, HFL6.out.of_below HBD.out⟩
 case measure => simp [intOf]; omega) : P := h
theorem sq54 (P : Prop) (h : P := by
 have HDs := Hd hds
 clear hpo hds z0 z1 z2 y0 y1 y2 hly
 refine And.intro HDs.out ⟨_, rfl, ?_⟩
 go_wp2_with fail
 refine NoPanic.normal ?_
 go_wp2_with fail
 go_meet
 case rel => exact ⟨gy, E1, h1, i1, E2, h2, i2, rfl, rfl, HDs.out, hgy, HYs.out, HQs.out⟩) : P := h
theorem climb_calls (base : Nat) (H : Nat → Option (List Rat)) (I : Nat → Option (List Int)) (w : World) (gt : Nat) (S : Shape) (gs : List (Nat × Nat)) (tn : List Bool) (T : Tab) (gg cg : Nat) (gain : List Rat) (k n : Nat) (res : Int × Tab × List Rat) (hv : View base H I w) (hT : TabW w gt S gs tn) (hV : TabV H I S gs T) (hg : H gg = some gain) (hgl : gain.length = S.width) (hgn : gg ∉ gs.map Prod.fst) (hgr : ∀ n c, S.right ≠ .slice (some ⟨gg, 0, none⟩) n c)
  (hia : (∀ g n c, S.base = .slice (some ⟨g, 0, none⟩) n c → (∀ n c, S.plus ≠ .slice (some ⟨g, 0, none⟩) n c) ∧ (∀ n c, S.minus ≠ .slice (some ⟨g, 0, none⟩) n c) ∧ ∀ n c, S.id ≠ .slice (some ⟨g, 0, none⟩) n c)) (hk : k ≤ S.width) (hw : S.width ≤ 1000000) (hml : T.rows.length ≤ 1000000) (hres : climbQ k n T gain = some res) :
  Calls Try.prog 105 #[.pointer (some ⟨gt, 0, none⟩), .slice (some ⟨gg, 0, none⟩) S.width cg, .int .i64 (k : Int)] w fun e w' => ClimbPost base H I S gs gg res w e w' := by
 obtain ⟨m, hm⟩ : ∃ m, m = T.rows.length := ⟨_, rfl⟩
 have HREL : Hid (∃ (T' : Tab) (g' : List Rat) (H' : Nat → Option (List Rat)) (I' : Nat → Option (List Int)), climbQ k n T' g' = some res ∧ View base H' I' w ∧ TabV H' I' S gs T' ∧ H' gg = some g' ∧ g'.length = S.width ∧ T'.rows.length = m ∧ (∀ k, ¬ Owned S gs k → k ≠ gg → H' k = H k) ∧ ChgS base w w ∧ ∀ k, NotBase S k → I' k = I k) :=
  ⟨T, gain, H, I, hres, hv, hV, hg, hgl, hm.symm, fun _ _ _ => rfl, ChgS.of_below (Below.refl _ _), fun _ _ => rfl⟩
 have hmle : m ≤ 1000000 := by omega
 have HT := Hd hT
 have HGN := Hd hgn
 have HGR := Hd hgr
 have HIA := Hd hia
 have HGS : Hid (gs.length = m) := by unfold Hid; rw [hm]; exact hV.len
 obtain ⟨p0, p1, p2, p3, vRows, vRight, vBase, vPlus, vMinus, real, width, vId, vTurned⟩ := S
 obtain ⟨AR, cR, eR⟩ := hT.2.1.slice
 obtain rfl : vRows = _ := eR
 obtain ⟨Ar, cr, er⟩ := hV.right.slice
 obtain rfl : vRight = _ := er
 obtain ⟨Ab, cb, eb⟩ := hV.base.slice
 obtain rfl : vBase = _ := eb
 have HBS : Hid (Blk w gt 121 #[p0, p1, p2, p3, .slice AR m cR, .slice Ar m cr, .slice Ab m cb, vPlus, vMinus, .int .i64 (real : Int), .int .i64 (width : Int), vId, vTurned]) := by
  have h1 := hV.rightLen
  have h2 := hV.baseLen
  have h3 := hV.len
  have := hT.1
  unfold Shape.cells at this
  simp only at this
  rw [h3, h2, h1, ← hm] at this
  exact this
 rw [show T.right.length = m by rw [hm]; exact hV.rightLen, show T.base.length = m by rw [hm]; exact hV.baseLen, show gs.length = m from HGS.out] at *
 have hkw : k ≤ width := hk
 have hww : width ≤ 1000000 := hw
 clear hv hT hV hg hgl hgn hgr hia hm hml hres hk hw
 go_enter Try.func105, Try.ntmps105
 go_wp2_with fail
 obtain ⟨w0, rfl⟩ : ∃ w0, w0 = w := ⟨_, rfl⟩
 go_loopg [] n (fun n' wr => ∃ (T' : Tab) (g' : List Rat) (H' : Nat → Option (List Rat)) (I' : Nat → Option (List Int)), climbQ k n' T' g' = some res ∧ View base H' I' wr ∧ TabV H' I' ⟨p0, p1, p2, p3, .slice AR m cR, .slice Ar m cr, .slice Ab m cb, vPlus, vMinus, real, width, vId, vTurned⟩ gs T' ∧ H' gg = some g' ∧ g'.length = width ∧ T'.rows.length = m ∧ (∀ k, ¬ Owned ⟨p0, p1, p2, p3, .slice AR m cR, .slice Ar m cr, .slice Ab m cb, vPlus, vMinus, real, width, vId, vTurned⟩ gs k → k ≠ gg → H' k = H k) ∧ ChgS base w0 wr ∧ ∀ k, NotBase ⟨p0, p1, p2, p3, .slice AR m cR, .slice Ar m cr, .slice Ab m cb, vPlus, vMinus, real, width, vId, vTurned⟩ k → I' k = I k)
 case atStart => exact HREL.out
 case round =>
  obtain ⟨T', g', H', I', hcq, hvr, hTr, hgg', hgl', hrl, hfr, hch, hfi⟩ := hrel
  have HFI := Hd hfi
  clear hfi
  have HCQ := Hd hcq
  have HVR := Hd hvr
  have HTR := Hd hTr
  have HGG := Hd hgg'
  have HGL := Hd hgl'
  have HRL := Hd hrl
  have HFR := Hd hfr
  have HCH := Hd hch
  have HSG : Hid (∀ q ∈ g', Small q) := (hvr.frac _ _ hgg').2.1
  clear hcq hvr hTr hgg' hgl' hrl hfr hch HREL
  go_upto_block 2 with fail
  go_cut [7] from 15 to 30 (fun s7 wc => Below wr.heap.size wr wc ∧ ((s7 = .int .i64 (-1) ∧ enterQ g' k = none) ∨ ∃ col : Nat, col < k ∧ s7 = .int .i64 (col : Int) ∧ enterQ g' k = some col))
  case first =>
   go_wp2_with fail
   go_loopw [7, 8] (fun v7 v8 wc => Below wr.heap.size wr wc ∧ ∃ c : Nat, c ≤ k ∧ v8 = .int .i64 (c : Int) ∧ ((v7 = .int .i64 (-1) ∧ ∀ d, d < c → ¬ 0 < g'.getD d 0) ∨ ∃ col : Nat, col < k ∧ c = col + 1 ∧ v7 = .int .i64 (col : Int) ∧ enterQ g' k = some col)) (fun _ v8 _ => k - (intOf v8).toNat)
   case atStart => exact ⟨Below.refl _ _, 0, Nat.zero_le _, rfl, .inl ⟨rfl, fun d hd => absurd hd (Nat.not_lt_zero _)⟩⟩
   case round =>
    obtain ⟨hbl, c, hck, rfl, hcase⟩ := hrel
    have HBr := Hd hbl
    clear hbl
    rcases hcase with ⟨rfl, hnone⟩ | ⟨col, hcol, rfl, rfl, hsome⟩
    ·have HNO := Hd hnone
     clear hnone
     by_cases hlt : c < k
     ·obtain ⟨q, hq⟩ : ∃ x, g'[c]? = some x := ⟨g'[c]'(by rw [HGL.out]; omega), geq _⟩
      have HQD : Hid (g'.getD c 0 = q) := getD_at hq
      have HSQ : Hid (Small q) := HSG.out q (mog hq)
      have HVC := Hd (HVR.out.below HBr.out)
      obtain ⟨A1, n1, c1, A2, n2, c2, q0, q1, q2, HFQ⟩ := HVC.out.at_ HGG.out hq
      have hgcl := HVC.out.lt HGG.out
      have m1 : (c : Int) < (k : Int) := by omega
      have m2 : (c : Int) < (width : Int) := by omega
      have m3 : (c : Int).toNat = c := by omega
      have m4 : (0 : Int) ≤ (c : Int) := by omega
      clear hq
      go_wp2_with fail
      refine (sgn_calls _ _ (rawQ q) (FR.of_fq HFQ.out HSQ.out)).mono ?_
      rintro ee w4 ⟨rfl, hb⟩
      rw [fixQ_raw _ HSQ.out]
      have HB4 := Hd (below_next HBr.out hb)
      clear hb q0 q1 q2 hgcl
      by_cases fz : 0 < q
      ·have u2 : (0 : Int) < signQ q := signQ_pos.2 fz
       have HEN : Hid (enterQ g' k = some c) := enterQ_some hlt (by rw [HQD.out]; exact fz) HNO.out
       clear fz
       go_wp2_with fail
       go_roundw
       case rel => exact ⟨HB4.out, c + 1, by omega, by go_num, .inr ⟨c, hlt, rfl, rfl, HEN.out⟩⟩
       case measure => simp [intOf]; omega
      ·have u2 : ¬ (0 : Int) < signQ q := fun h => fz (signQ_pos.1 h)
       have HNX : Hid (∀ d, d < c + 1 → ¬ 0 < g'.getD d 0) := by
        intro d hd
        by_cases e : d = c
        ·subst e; rw [HQD.out]; exact fz
        ·exact HNO.out d (by omega)
       clear fz
       go_wp2_with fail
       go_roundw
       case rel => exact ⟨HB4.out, c + 1, by omega, by go_num, .inl ⟨rfl, HNX.out⟩⟩
       case measure => simp [intOf]; omega
     ·obtain rfl : c = k := by omega
      go_wp2_with fail
      go_meet
      case rel => exact ⟨HBr.out, .inl ⟨rfl, enterQ_none HNO.out⟩⟩
    ·have HSM := Hd hsome
     clear hsome
     have m4 : (0 : Int) ≤ (col : Int) := by omega
     by_cases hlt : ((col + 1 : Nat) : Int) < (k : Int)
     ·go_wp2_with fail
      go_meet
      case rel => exact ⟨HBr.out, .inr ⟨col, hcol, rfl, HSM.out⟩⟩
     ·go_wp2_with fail
      go_meet
      case rel => exact ⟨HBr.out, .inr ⟨col, hcol, rfl, HSM.out⟩⟩
  case rest =>
   obtain ⟨gn, rfl⟩ : ∃ x, gk = x + 1 := by
    cases gk with
    | zero => exact absurd HCQ.out (by unfold climbQ; simp)
    | succ x => exact ⟨x, rfl⟩
   obtain ⟨hbl, hcase⟩ := hcut
   have HVC := Hd (HVR.out.below hbl)
   have HCC := Hd (HCH.out.trans (ChgS.of_below hbl))
   clear hbl
   rcases hcase with ⟨rfl, hnone⟩ | ⟨col, hcol, rfl, hsome⟩
   ·have HRE : Hid (res = (-1, T', g')) := by
     have h := HCQ.out
     unfold climbQ at h
     rw [hnone] at h
     injection h with h
     exact h.symm
    clear hnone
    go_wp2_with fail
    go_ret
    rw [HRE.out]
    exact ⟨rfl, H', I', HVC.out, HTR.out, HGG.out, HFR.out, HCC.out, HFI.out⟩
   ·have HEN := Hd hsome
    clear hsome
    have m4 : (0 : Int) ≤ (col : Int) := by omega
    have hnl : ¬ (col : Int) < 0 := by omega
    obtain ⟨x0, x4, x5, x6, x7, x8, x9, x10, x11, x12⟩ := ((HT.out.chg HCC.out).1).c13
    have hltt := ((HT.out.chg HCC.out).1).lt
    go_upto_block 4 with fail
    obtain ⟨wd, rfl⟩ : ∃ x, x = wc := ⟨_, rfl⟩
    have hbn := below_new wd (.cells #[.bool false, .slice none 0 0, .slice none 0 0] 40)
    have HX := Hd (Blk.new wd 40 #[.bool false, .slice none 0 0, .slice none 0 0])
    have HV1 := Hd (HVC.out.below hbn)
    have HC1 := Hd (HCC.out.trans (ChgS.of_below hbn))
    obtain ⟨gx, hgx⟩ : ∃ g, g = wd.heap.size := ⟨_, rfl⟩
    have hgv := HV1.out.lt HGG.out
    have HGX : Hid (wd.heap.size ≤ gx) := by unfold Hid; omega
    rw [← hgx] at HX ⊢
    have HBA := Hd hbn
    generalize wd.alloc (.cells #[.bool false, .slice none 0 0, .slice none 0 0] 40) = W1 at *
    clear hgx hbn x0 x4 x5 x6 x7 x8 x9 x10 x11 x12 hltt hgv
    go_cut [9] from 39 to 104 (fun v9 wx => Below wd.heap.size wd wx ∧ ((v9 = .int .i64 (-1) ∧ leaveN T' col m = none) ∨ ∃ (row : Nat) (l : Rat), row < m ∧ v9 = .int .i64 (row : Int) ∧ leaveN T' col m = some (row, l)))
    case first =>
     go_wp2_with fail
     go_loopw [38, 9] (fun v38 v9 wx => Below wd.heap.size wd wx ∧ ∃ (i : Nat) (s : Bool) (A1 : Option Addr) (n1 c1 : Nat) (A2 : Option Addr) (n2 c2 : Nat), i ≤ m ∧ v38 = .int .i64 (i : Int) ∧ Blk wx gx 40 #[.bool s, .slice A1 n1 c1, .slice A2 n2 c2] ∧ ((v9 = .int .i64 (-1) ∧ leaveN T' col i = none) ∨ ∃ (row : Nat) (l : Rat), row < i ∧ v9 = .int .i64 (row : Int) ∧ leaveN T' col i = some (row, l) ∧ FQ wx (.agg #[.bool s, .slice A1 n1 c1, .slice A2 n2 c2]) l)) (fun v38 _ _ => m - (intOf v38).toNat)
     case atStart => exact ⟨HBA.out, 0, false, none, 0, 0, none, 0, 0, Nat.zero_le _, rfl, HX.out, .inl ⟨rfl, rfl⟩⟩
     case round =>
      obtain ⟨wr, rfl⟩ : ∃ x, x = wr := ⟨_, rfl⟩
      obtain ⟨hbl, i, s, B1, k1, d1, B2, k2, d2, him, rfl, hx, hcase⟩ := hrel
      have HBr := Hd hbl
      have HXr := Hd hx
      clear hbl hx HX HV1 HC1 HBA
      by_cases hlt : i < m
      ·obtain ⟨r, hr⟩ : ∃ x, T'.rows[i]? = some x := ⟨T'.rows[i]'(by rw [HRL.out]; exact hlt), geq _⟩
       obtain ⟨⟨gi, ci⟩, hgi⟩ : ∃ x, gs[i]? = some x := ⟨gs[i]'(by rw [HTR.out.len, HRL.out]; exact hlt), geq _⟩
       have HROW := Hd (HTR.out.row i _ r hgi hr)
       have HRD : Hid (T'.rows.getD i [] = r) := getD_at hr
       obtain ⟨f, hf⟩ : ∃ x, r[col]? = some x := ⟨r[col]'(by rw [HROW.out.2]; exact Nat.lt_of_lt_of_le hcol hkw), geq _⟩
       have HFD : Hid (r.getD col 0 = f) := getD_at hf
       have HVr := Hd (HVC.out.below HBr.out)
       have HSF : Hid (Small f) := HVr.out.small HROW.out.1 hf
       obtain ⟨A1, n1, c1, A2, n2, c2, e0, e1, e2, HFE⟩ := HVr.out.at_ HROW.out.1 hf
       have hgil := HVr.out.lt HROW.out.1
       have HTr := Hd (HT.out.chg (HCC.out.trans (ChgS.of_below HBr.out)))
       have hbs : Blk wr gt 121 #[p0, p1, p2, p3, .slice AR m cR, .slice Ar m cr, .slice Ab m cb, vPlus, vMinus, .int .i64 (real : Int), .int .i64 (width : Int), vId, vTurned] := HTr.out.1
       obtain ⟨x0, x4, x5, x6, x7, x8, x9, x10, x11, x12⟩ := hbs.c13
       have hltt := hbs.lt
       obtain ⟨gR, eR, hgR, t0⟩ := HTr.out.2.1.at_ hgi
       subst eR
       replace t0 : wr.cell? ⟨gR, i, none⟩ = some (.slice (some ⟨gi, 0, none⟩) width ci) := t0
       clear hbs
       have HGI := Hd hgi
       have m1 : (i : Int) < (m : Int) := by omega
       have m2 : (col : Int) < (width : Int) := by omega
       have m3 : (i : Int).toNat = i := by omega
       have m5 : (0 : Int) ≤ (i : Int) := by omega
       have m6 : (col : Int).toNat = col := by omega
       have hf2 := Hd hf
       clear hr hgi hf
       go_wp2_with fail
       refine (sgn_calls _ _ (rawQ f) (FR.of_fq HFE.out HSF.out)).mono ?_
       rintro ee w4 ⟨rfl, hb⟩
       rw [fixQ_raw _ HSF.out]
       have HB4 := Hd (below_next HBr.out hb)
       have HX4 := Hd (HXr.out.below hb HXr.out.lt)
       have HFE4 := Hd (HFE.out.of_below hb)
       have HCA : Hid ((u9 = .int .i64 (-1) ∧ leaveN T' col i = none) ∨ ∃ (row : Nat) (l : Rat), row < i ∧ u9 = .int .i64 (row : Int) ∧ leaveN T' col i = some (row, l) ∧ FQ w4 (.agg #[.bool s, .slice B1 k1 d1, .slice B2 k2 d2]) l) := by
        rcases hcase with h | ⟨row, l, h1, h2, h3, h4⟩
        ·exact .inl h
        ·exact .inr ⟨row, l, h1, h2, h3, h4.of_below hb⟩
       clear hb hcase
       by_cases fz : f ≤ 0
       ·have u2 : signQ f ≤ 0 := signQ_nonpos.2 fz
        have HST : Hid (leaveN T' col (i + 1) = leaveN T' col i) := by
         unfold Hid
         rw [leaveN]
         unfold leaveStep
         rw [HRD.out, HFD.out, if_pos fz]
        clear fz
        go_wp2_with fail
        go_roundw
        case rel =>
         refine ⟨HB4.out, i + 1, s, B1, k1, d1, B2, k2, d2, by omega, by go_num, HX4.out, ?_⟩
         rw [HST.out]
         rcases HCA.out with h | ⟨row, l, h1, h2⟩
         ·exact .inl h
         ·exact .inr ⟨row, l, by omega, h2⟩
        case measure => simp [intOf]; omega
       ·have u2 : ¬ signQ f ≤ 0 := fun h => fz (signQ_nonpos.1 h)
        have HNZ := Hd fz
        clear fz
        go_wp2_with fail
        obtain ⟨q, hq⟩ : ∃ q, T'.right[i]? = some q := ⟨T'.right[i]'(by rw [HTR.out.rightLen, HRL.out]; exact hlt), geq _⟩
        have HQD : Hid (T'.right.getD i 0 = q) := getD_at hq
        go_cut [12, 13] from 53 to 73 (fun s12 s13 wx => ∃ (gy : Nat) (E1 : Option Addr) (h1 i1 : Nat) (E2 : Option Addr) (h2 i2 : Nat), s12 = .pointer (some ⟨gy, 0, none⟩) ∧ s13 = .int .i64 0 ∧ Below w4.heap.size w4 wx ∧ w4.heap.size ≤ gy ∧ Blk wx gy 40 #[.bool (negQ (quoQ q f)), .slice E1 h1 i1, .slice E2 h2 i2] ∧ FQ wx (.agg #[.bool (negQ (quoQ q f)), .slice E1 h1 i1, .slice E2 h2 i2]) (quoQ q f))
        case rest =>
         obtain ⟨gy, E1, h1, i1, E2, h2, i2, rfl, rfl, hbl5, hgy, hky, hqy⟩ := hcut
         obtain ⟨wq, rfl⟩ : ∃ x, x = wc := ⟨_, rfl⟩
         have HB5 := Hd (below_next HB4.out hbl5)
         have HX5 := Hd (HX4.out.below hbl5 HX4.out.lt)
         have HKY := Hd hky
         have HQY := Hd hqy
         have HT5 := Hd (HT.out.chg (HCC.out.trans (ChgS.of_below HB5.out)))
         have HV5 := Hd (HVC.out.below HB5.out)
         have HSQ5 : Hid (Small (quoQ q f)) := small_cap _
         have HBL5 := Hd hbl5
         clear hbl5 hky hqy hgy
         rcases HCA.out with ⟨rfl, hnone⟩ | ⟨row, l, hrow, rfl, hsome0, hfl⟩
         ·have HST : Hid (leaveN T' col (i + 1) = some (i, quoQ q f)) := by
           unfold Hid
           rw [leaveN]
           unfold leaveStep
           rw [HRD.out, HFD.out, HQD.out, if_neg HNZ.out, hnone]
          clear hnone
          go_wp2_with fail
          have hdr : Below wq.heap.size wq wq.drew := Bd
          have HBD := Hd (below_next HB5.out hdr)
          have HXD := Hd (HX5.out.below hdr HX5.out.lt)
          have HKD := Hd (HKY.out.below hdr HKY.out.lt)
          have HQD2 := Hd (HQY.out.of_below hdr)
          obtain ⟨z0, z1, z2⟩ := HKY.out.c3
          have hlz := HKY.out.lt
          refine wp_tree (l := [_, _, _, _]) (S := Below wq.heap.size wq) 3 (.one [0, 1] 2 (.fin [])) (by kernel_rfl) (by kernel_rfl) (by kernel_rfl) rfl Bd ?_
          refine ⟨?_, _, ?_, rfl, ?_⟩
          rotate_left
          ·(iterate 2 ((refine pu ?_); (try simp only [SQ])))
           exact rfl
          clear z0 z1 z2 hlz
          obtain ⟨v0, v1, v2⟩ := HX5.out.c3
          obtain ⟨q0, q1, q2⟩ := HX5.out.f3
          have hlx := HX5.out.lt
          go_wp2_with fail
          refine And.intro hdr ⟨_, rfl, ?_⟩
          go_wp2_with fail
          have hpo := put3_only (o := 0) (a := .bool (negQ (quoQ q f))) (b := .slice E1 h1 i1) (c := .slice E2 h2 i2) HXD.out (by intro u hu; simp only [List.mem_toArray, List.mem_cons, List.not_mem_nil, or_false] at hu; rcases hu with rfl | rfl | rfl <;> rfl)
          have HXs := Hd (HXD.out.put3 (.bool (negQ (quoQ q f))) (.slice E1 h1 i1) (.slice E2 h2 i2))
          have HQs := Hd (HQD2.out.keeps hpo.1)
          have hds := below_put3' HBD.out HGX.out 0 (.bool (negQ (quoQ q f))) (.slice E1 h1 i1) (.slice E2 h2 i2)
          have HDs := Hd hds
          clear hpo hds v0 v1 v2 q0 q1 q2 hlx
          refine NoPanic.normal ?_
          go_wp2_with fail
          go_roundw
          case rel => exact ⟨HDs.out, i + 1, _, E1, h1, i1, E2, h2, i2, by omega, by go_num, HXs.out, .inr ⟨i, quoQ q f, by omega, rfl, HST.out, HQs.out⟩⟩
          case measure => simp [intOf]; omega
         have hsome := Hd hsome0
         have HSL := Hd (leaveN_at hsome0).2.2
         have HFL5 := Hd (hfl.of_below HBL5.out)
         have hr0 : (0 : Int) ≤ (row : Int) := by omega
         clear hsome0 hfl
         obtain ⟨z0, z1, z2⟩ := HKY.out.c3
         have hlz := HKY.out.lt
         obtain ⟨v0, v1, v2⟩ := HX5.out.c3
         have hlx := HX5.out.lt
         go_wp2_with fail
         refine (fcmp_calls _ _ _ (rawQ (quoQ q f)) (rawQ l) (FR.of_fq HQY.out HSQ5.out) (FR.of_fq HFL5.out HSL.out)).mono ?_
         rintro ee w6 ⟨rfl, hb⟩
         rw [fixQ_raw _ HSQ5.out, fixQ_raw _ HSL.out]
         have HB6 := Hd (below_next HB5.out hb)
         have HX6 := Hd (HX5.out.below hb HX5.out.lt)
         have HKY6 := Hd (HKY.out.below hb HKY.out.lt)
         have HQY6 := Hd (HQY.out.of_below hb)
         have HFL6 := Hd (HFL5.out.of_below hb)
         have HT6 := Hd (HT.out.chg (HCC.out.trans (ChgS.of_below HB6.out)))
         have HV6 := Hd (HVC.out.below HB6.out)
         have HBD : Hid (Below w6.heap.size w6 w6.drew) := Bd
         have HBE := Hd (below_next HB6.out HBD.out)
         have HXE := Hd (HX6.out.below HBD.out HX6.out.lt)
         have HKE := Hd (HKY6.out.below HBD.out HKY6.out.lt)
         have HQE := Hd (HQY6.out.of_below HBD.out)
         clear hb z0 z1 z2 hlz v0 v1 v2 hlx
         by_cases o1 : 0 < ordQ (quoQ q f) l
         ·have o2 : decide (0 < ordQ (quoQ q f) l) = true := decide_eq_true o1
          have HST : Hid (leaveN T' col (i + 1) = leaveN T' col i) := by
           unfold Hid
           rw [leaveN]
           unfold leaveStep
           rw [HRD.out, HFD.out, HQD.out, if_neg HNZ.out, hsome.out]
           exact if_pos (.inl o1)
          clear o1
          go_wp2_with fail
          refine wp_tree (l := [_, _, _, _, _, _, _, _, _, _, _, _, _, _, _, _, _, _, _, _, _, _, _]) (S := Below w6.heap.size w6) 23 (.fin [0, 1, 2, 3, 4, 5, 6, 7, 8, 9, 10, 11, 12, 13, 14, 15, 16, 17, 18, 19, 20, 21, 22]) (by kernel_rfl) (by kernel_rfl) (by kernel_rfl) rfl Bd ?_
          refine ⟨?_, ?_, ?_⟩
          rotate_left
          ·(iterate 3 ((refine pu ?_); (try simp only [SQ]))); (iterate 19 ((refine pn ?_); (try simp only [SQ]))); ((refine pu ?_); (try simp only [SQ]))
           exact rfl
          exact sq47 _
         have o2 : decide (0 < ordQ (quoQ q f) l) = false := decide_eq_false o1
         by_cases o3 : ordQ (quoQ q f) l = 0
         case neg =>
          have o4 : (ordQ (quoQ q f) l == 0) = false := bneI' o3
          have HST : Hid (leaveN T' col (i + 1) = some (i, quoQ q f)) := by
           unfold Hid
           rw [leaveN]
           unfold leaveStep
           rw [HRD.out, HFD.out, HQD.out, if_neg HNZ.out, hsome.out]
           exact if_neg (fun h => h.elim o1 fun h => o3 h.1)
          clear o1 o3
          go_wp2_with fail
          refine wp_tree (l := [_, _, _, _, _, _, _, _, _, _, _, _, _, _, _, _, _, _, _, _, _, _, _]) (S := Below w6.heap.size w6) 23 (.fin [0, 1, 2, 3, 4, 5, 6, 7, 8, 9, 10, 11, 12, 13, 14, 15, 16, 17, 18, 19, 20, 21, 22]) (by kernel_rfl) (by kernel_rfl) (by kernel_rfl) rfl Bd ?_
          refine ⟨?_, ?_, ?_⟩
          rotate_left
          ·(iterate 6 ((refine pu ?_); (try simp only [SQ]))); (iterate 15 ((refine pn ?_); (try simp only [SQ]))); (iterate 2 ((refine pu ?_); (try simp only [SQ])))
           exact rfl
          refine NoPanic.normal ?_
          exact sq19 _
         have o4 : (ordQ (quoQ q f) l == 0) = true := beqI' o3
         obtain ⟨x0, x4, x5, x6, x7, x8, x9, x10, x11, x12⟩ := (HT6.out.1).c13
         have hltt := (HT6.out.1).lt
         obtain ⟨gb, eb2, hgb⟩ := HTR.out.base.at_ (by show 0 < T'.base.length; rw [HTR.out.baseLen, HRL.out]; omega)
         obtain ⟨bi, hbi⟩ : ∃ x, T'.base[i]? = some x := ⟨T'.base[i]'(by rw [HTR.out.baseLen, HRL.out]; exact hlt), geq _⟩
         obtain ⟨br, hbr⟩ : ∃ x, T'.base[row]? = some x := ⟨T'.base[row]'(by rw [HTR.out.baseLen, HRL.out]; omega), geq _⟩
         have hbiD : T'.base.getD i 0 = bi := getD_at hbi
         have hbrD : T'.base.getD row 0 = br := getD_at hbr
         obtain ⟨b0, hgbl, _⟩ := HV6.out.iat hgb hbi
         obtain ⟨b1, _, _⟩ := HV6.out.iat hgb hbr
         subst eb2
         have mb1 : (row : Int) < (m : Int) := by omega
         have mb2 : (row : Int).toNat = row := by omega
         have mb3 : (0 : Int) ≤ (row : Int) := by omega
         by_cases o5 : br < bi
         ·have o6 : decide (br < bi) = true := decide_eq_true o5
          have HST : Hid (leaveN T' col (i + 1) = leaveN T' col i) := by
           unfold Hid
           rw [leaveN]
           unfold leaveStep
           rw [HRD.out, HFD.out, HQD.out, if_neg HNZ.out, hsome.out]
           exact if_pos (.inr ⟨o3, by rw [hbiD, hbrD]; exact o5⟩)
          clear o1 o3 o5 hbi hbr hbiD hbrD hgb
          go_wp2_with fail
          refine wp_tree (l := [_, _, _, _, _, _, _, _, _, _, _, _, _, _, _, _, _, _, _, _, _, _, _]) (S := Below w6.heap.size w6) 23 (.fin [0, 1, 2, 3, 4, 5, 6, 7, 8, 9, 10, 11, 12, 13, 14, 15, 16, 17, 18, 19, 20, 21, 22]) (by kernel_rfl) (by kernel_rfl) (by kernel_rfl) rfl Bd ?_
          refine ⟨?_, ?_, ?_⟩
          rotate_left
          ·(iterate 23 ((refine pu ?_); (try simp only [SQ])))
           exact rfl
          exact sq47 _
         have o6 : decide (br < bi) = false := decide_eq_false o5
         have HST : Hid (leaveN T' col (i + 1) = some (i, quoQ q f)) := by
          unfold Hid
          rw [leaveN]
          unfold leaveStep
          rw [HRD.out, HFD.out, HQD.out, if_neg HNZ.out, hsome.out]
          exact if_neg (fun h => h.elim o1 fun h => o5 (by rw [hbiD, hbrD] at h; exact h.2))
         clear o1 o3 o5 hbi hbr hbiD hbrD hgb
         go_wp2_with fail
         refine wp_tree (l := [_, _, _, _, _, _, _, _, _, _, _, _, _, _, _, _, _, _, _, _, _, _, _]) (S := Below w6.heap.size w6) 23 (.fin [0, 1, 2, 3, 4, 5, 6, 7, 8, 9, 10, 11, 12, 13, 14, 15, 16, 17, 18, 19, 20, 21, 22]) (by kernel_rfl) (by kernel_rfl) (by kernel_rfl) rfl Bd ?_
         refine ⟨?_, ?_, ?_⟩
         rotate_left
         ·(iterate 23 ((refine pu ?_); (try simp only [SQ])))
          exact rfl
         refine NoPanic.normal ?_
         clear x0 x4 x5 x6 x7 x8 x9 x10 x11 x12 hltt b0 b1 hgbl
         exact sq19 _
        have HV4 := Hd (HVC.out.below HB4.out)
        clear hgil e0 e1 e2 x0 x4 x5 x6 x7 x8 x9 x10 x11 x12 hltt t0 hgR
        have HT4 := Hd (HT.out.chg (HCC.out.trans (ChgS.of_below HB4.out)))
        obtain ⟨gq, rfl, hgq⟩ := HTR.out.right.at_ (by show 0 < T'.right.length; rw [HTR.out.rightLen, HRL.out]; omega)
        have HSQ : Hid (Small q) := HV4.out.small hgq hq
        obtain ⟨A3, n3, c3, A4, n4, c4, q0, q1, q2, HFQ⟩ := HV4.out.at_ hgq hq
        obtain ⟨f, rfl⟩ : ∃ x, x = f := ⟨_, rfl⟩
        obtain ⟨A1, n1, c1, A2, n2, c2, e0, e1, e2, HFE5⟩ := HV4.out.at_ HROW.out.1 hf2.out
        have hgql := HV4.out.lt hgq
        have hgil := HV4.out.lt HROW.out.1
        have hbs : Blk w4 gt 121 #[p0, p1, p2, p3, .slice (some ⟨gR, 0, none⟩) m cR, .slice (some ⟨gq, 0, none⟩) m cr, .slice Ab m cb, vPlus, vMinus, .int .i64 (real : Int), .int .i64 (width : Int), vId, vTurned] := HT4.out.1
        obtain ⟨x0, x4, x5, x6, x7, x8, x9, x10, x11, x12⟩ := hbs.c13
        have hltt := hbs.lt
        obtain ⟨gR2, eR, hgR, t0⟩ := HT4.out.2.1.at_ HGI.out
        injection eR with eR
        injection eR with eR
        subst eR
        replace t0 : w4.cell? ⟨gR, i, none⟩ = some (.slice (some ⟨gi, 0, none⟩) width ci) := t0
        clear hbs hgq hq
        have HFN : Hid (f ≠ 0) := fun e => HNZ.out (by rw [e]; exact Rat.le_refl)
        have D0 : Hid (Below w4.heap.size w4 w4.drew) := Bd
        refine wp_tree (l := [_, _, _, _, _, _, _, _, _, _, _, _, _, _, _, _, _, _, _, _, _, _, _, _]) (S := Below w4.heap.size w4) 23 (.two [0, 1, 2, 3, 4, 5, 6, 7, 8, 9, 10, 11, 12, 13, 14, 15, 16] 17 (.one [18, 19, 20] 21 (.one [] 22 (.fin []))) 21 (.one [] 17 (.one [18, 19, 20] 22 (.fin [])))) (by kernel_rfl) (by kernel_rfl) (by kernel_rfl) rfl Bd ?_
        refine ⟨?_, _, _, ?_, rfl, rfl, ?_, ?_⟩
        rotate_left
        ·repeat (refine pu ?_; (try simp only [SQ]))
         exact rfl
        ·go_wp2_with fail
         refine (fdiv_calls _ _ _ (rawQ q) (rawQ f) (FR.of_fq (HFQ.out.of_below D0.out) HSQ.out) (FR.of_fq (HFE5.out.of_below D0.out) HSF.out) (by rw [fixQ_raw _ HSF.out]; exact HFN.out)).mono ?_
         rintro ee w6 ⟨v, rfl, hv, hb⟩
         rw [fixQ_raw _ HSQ.out, fixQ_raw _ HSF.out] at hv
         obtain ⟨E1, h1, i1, E2, h2, i2, rfl, HQ⟩ := hv.opened
         have D6 := Hd (below_next D0.out hb)
         clear hv hb
         go_wp2_with fail
         refine And.intro D6.out ⟨?_, _, ?_, rfl, ?_⟩
         rotate_left
         ·repeat (refine pu ?_; (try simp only [SQ]))
          exact rfl
         go_wp2_with fail
         have hbn := below_new w6 (.cells #[.bool false, .slice none 0 0, .slice none 0 0] 40)
         have HY := Hd (Blk.new w6 40 #[.bool false, .slice none 0 0, .slice none 0 0])
         have hgy : w4.heap.size ≤ w6.heap.size := D6.out.size
         have HQ7 := Hd (HQ.out.of_below hbn)
         have D7 := Hd (below_next D6.out hbn)
         obtain ⟨gy, hgy2⟩ : ∃ g, g = w6.heap.size := ⟨_, rfl⟩
         rw [← hgy2] at HY hgy ⊢
         generalize w6.alloc (.cells #[.bool false, .slice none 0 0, .slice none 0 0] 40) = W7 at *
         clear hgy2 hbn
         refine And.intro D7.out ⟨_, _, rfl, rfl, ?_⟩
         obtain ⟨z0, z1, z2⟩ := HY.out.c3
         obtain ⟨y0, y1, y2⟩ := HY.out.f3
         have hly := HY.out.lt
         go_wp2_with fail
         have hpo := put3_only (o := 0) (a := .bool (negQ (quoQ q f))) (b := .slice E1 h1 i1) (c := .slice E2 h2 i2) HY.out zf_words
         have HYs := Hd (HY.out.put3 (.bool (negQ (quoQ q f))) (.slice E1 h1 i1) (.slice E2 h2 i2))
         have HQs := Hd (HQ7.out.keeps hpo.1)
         have hds := below_put3' D7.out hgy 0 (.bool (negQ (quoQ q f))) (.slice E1 h1 i1) (.slice E2 h2 i2)
         exact sq54 _
        ·generalize w4.drew = V0 at *
         go_wp2_with fail
         have hbn := below_new V0 (.cells #[.bool false, .slice none 0 0, .slice none 0 0] 40)
         have HY := Hd (Blk.new V0 40 #[.bool false, .slice none 0 0, .slice none 0 0])
         have hgy : w4.heap.size ≤ V0.heap.size := D0.out.size
         have D7 := Hd (below_next D0.out hbn)
         obtain ⟨gy, hgy2⟩ : ∃ g, g = V0.heap.size := ⟨_, rfl⟩
         rw [← hgy2] at HY hgy ⊢
         generalize V0.alloc (.cells #[.bool false, .slice none 0 0, .slice none 0 0] 40) = W7 at *
         clear hgy2 hbn
         refine And.intro D7.out ⟨_, _, rfl, rfl, ?_⟩
         go_wp2_with fail
         refine (fdiv_calls _ _ _ (rawQ q) (rawQ f) (FR.of_fq (HFQ.out.of_below D7.out) HSQ.out) (FR.of_fq (HFE5.out.of_below D7.out) HSF.out) (by rw [fixQ_raw _ HSF.out]; exact HFN.out)).mono ?_
         rintro ee w6 ⟨v, rfl, hv, hb⟩
         rw [fixQ_raw _ HSQ.out, fixQ_raw _ HSF.out] at hv
         obtain ⟨E1, h1, i1, E2, h2, i2, rfl, HQ⟩ := hv.opened
         have D8 := Hd (below_next D7.out hb)
         have HY8 := Hd (HY.out.below hb HY.out.lt)
         clear hv hb
         go_wp2_with fail
         refine And.intro D8.out ⟨?_, _, ?_, rfl, ?_⟩
         rotate_left
         ·repeat (refine pu ?_; (try simp only [SQ]))
          exact rfl
         obtain ⟨z0, z1, z2⟩ := HY8.out.c3
         obtain ⟨y0, y1, y2⟩ := HY8.out.f3
         have hly := HY8.out.lt
         go_wp2_with fail
         have hpo := put3_only (o := 0) (a := .bool (negQ (quoQ q f))) (b := .slice E1 h1 i1) (c := .slice E2 h2 i2) HY8.out zf_words
         have HYs := Hd (HY8.out.put3 (.bool (negQ (quoQ q f))) (.slice E1 h1 i1) (.slice E2 h2 i2))
         have HQs := Hd (HQ.out.keeps hpo.1)
         have hds := below_put3' D8.out hgy 0 (.bool (negQ (quoQ q f))) (.slice E1 h1 i1) (.slice E2 h2 i2)
         exact sq54 _
      ·obtain rfl : i = m := by omega
       go_wp2_with fail
       go_meet
       case rel =>
        refine ⟨HBr.out, ?_⟩
        rcases hcase with h | ⟨row, l, h1, h2, h3, _⟩
        ·exact .inl h
        ·exact .inr ⟨row, l, h1, h2, h3⟩
    case rest =>
     obtain ⟨hbl, hcase⟩ := hcut
     have HV4 := Hd (HVC.out.below hbl)
     have HC4 := Hd (HCC.out.trans (ChgS.of_below hbl))
     clear hbl HV1 HC1 HX HVC HCC HBA HVR HCH
     rcases hcase with ⟨rfl, hnone⟩ | ⟨row, l, hrow, rfl, hsome⟩
     ·have HRE : Hid (res = ((col : Int), T', g')) := by
       have h := HCQ.out
       unfold climbQ at h
       rw [HEN.out] at h
       simp only at h
       rw [HRL.out, hnone] at h
       injection h with h
       exact h.symm
      clear hnone
      go_wp2_with fail
      go_ret
      rw [HRE.out]
      exact ⟨rfl, H', I', HV4.out, HTR.out, HGG.out, HFR.out, HC4.out, HFI.out⟩
     ·have HLV := leaveN_at hsome
      have HRE : Hid (climbQ k gn (pivotQ T' row col) (pivGain col (pivNew T' row col) g') = some res) := by
       have h := HCQ.out
       unfold climbQ at h
       rw [HEN.out] at h
       simp only at h
       rw [HRL.out, hsome] at h
       exact h
      clear hsome
      have hne : ((T'.rows.getD row []).getD col 0) ≠ 0 := fun e => Rat.lt_irrefl (e ▸ HLV.2.1)
      have HNE := Hd hne
      have m5 : (0 : Int) ≤ (row : Int) := by omega
      have hnr : ¬ (row : Int) < 0 := by omega
      clear hne HLV
      go_wp2_with fail
      refine (pivot_calls base H' I' _ gt _ gs tn T' row col _ (some (gg, g')) (.inr ⟨gg, cg, g', rfl, HGG.out, HGL.out, HGN.out, HGR.out, rfl⟩) HIA.out HV4.out (HT.out.chg HC4.out) HTR.out (by rw [HRL.out]; exact hrow) (Nat.lt_of_lt_of_le hcol hkw) HNE.out hww (by rw [HRL.out]; exact hmle)).mono ?_
      rintro e w6 ⟨rfl, H6, I6, hv6, ht6, hg6, hf6, hc6, hi6⟩
      go_wp2_with fail
      go_roundg gn
      case rel =>
       refine ⟨_, _, H6, I6, HRE.out, hv6, ht6, hg6 gg g' rfl, ?_, ?_, ?_, HC4.out.trans hc6, fun x hx => (hi6 x hx).trans (HFI.out x hx)⟩
       ·rw [pivGain_length]
        ·exact HGL.out
        ·rw [pivNew_length, HGL.out]
         obtain ⟨r, hr⟩ : ∃ x, T'.rows[row]? = some x := ⟨T'.rows[row]'(by rw [HRL.out]; exact hrow), geq _⟩
         obtain ⟨p, hp⟩ : ∃ x, gs[row]? = some x := ⟨gs[row]'(by rw [HTR.out.len, HRL.out]; exact hrow), geq _⟩
         rw [getD_at hr]
         exact (HTR.out.row row p r hp hr).2
       ·rw [pivot_rows]; exact HRL.out
       ·intro x h1 h2
        rw [hf6 x h1 (fun y e => h2 (by injection e with e; injection e with e1 e2; exact e1.symm))]
        exact HFR.out x h1 h2
      case measure => exact Nat.lt_succ_self _
theorem QO.changes {base : Nat} {w w1 : World} {v : Value} {qs : List Rat} (h : QO base w v qs) (hg : w.grownBy w1 v.ownBlock) (hk : Keeps w w1) : Chg base 40 w w1 := by
 obtain ⟨xs, h1, _⟩ := h
 exact h1.changes hg hk
theorem wpl_appendQ2 {ops : Array Oper} {rest : List Oper} {o : Oper} {a : Act} {Q : Exit → Act → World → Prop} {W : World} (hgd : o.guard = none) (s x : Operand) (ho : o.op = .call { callee := .builtin .append, args := #[s, x], argTypes := #[23, 23] }) {base : Nat}
  (v : Value) (fs : List Rat) (hs : a.eval s = v) (hown : QO base W v fs) {g : Nat} {b : Bool} {A1 A2 : Option Addr} {n1 c1 n2 c2 : Nat} (f : Rat) (hx : a.eval x = .slice (some ⟨g, 0, none⟩) 1 1) (hk : Blk W g 40 #[.bool b, .slice A1 n1 c1, .slice A2 n2 c2]) (hf : FQ W (.agg #[.bool b, .slice A1 n1 c1, .slice A2 n2 c2]) f)
  (hl : fs.length ≤ 1000000000) (hbase : base ≤ W.heap.size)
  (h : ∀ v' w', QO base w' v' (fs ++ [f]) → Chg base 40 W w' → (W.os = w'.os ∧ W.tape = w'.tape ∧ W.output = w'.output) → wpList Try.prog ops Q rest (a.put o.dst v') w') : wpList Try.prog ops Q (o :: rest) a W :=
 wpl_appendQ hgd s x ho v fs hs hown f hx hk hf hl hbase fun v' w' h3 h4 h5 _ => h v' w' h3 (QO.changes hown h4 h5) ⟨h4.os.symm, h4.tape.symm, h4.output.symm⟩
theorem QO.at3 {base : Nat} {w : World} {A : Option Addr} {n c : Nat} {qs : List Rat} (h : QO base w (.slice A n c) qs) {j : Nat} {q : Rat} (hj : qs[j]? = some q) :
  ∃ g o A1 n1 c1 A2 n2 c2, A = some ⟨g, o, none⟩ ∧ g < w.heap.size ∧ w.cell? ⟨g, o + j * 3, none⟩ = some (.bool (negQ q)) ∧ w.cell? ⟨g, o + j * 3 + 1, none⟩ = some (.slice A1 n1 c1) ∧ w.cell? ⟨g, o + j * 3 + 2, none⟩ = some (.slice A2 n2 c2) ∧ Hid (FQ w (.agg #[.bool (negQ q), .slice A1 n1 c1, .slice A2 n2 c2]) q) := by
 obtain ⟨g, o, vs, e, hg, hs, hc, hf⟩ := (OL.sl h).at_ hj
 have hf' : FQ w (.agg vs) q := hf
 obtain ⟨A1, n1, c1, A2, n2, c2, e2, H⟩ := hf'.opened
 injection e2 with e2
 subst e2
 exact ⟨g, o, A1, n1, c1, A2, n2, c2, e, hg, hc 0 _ rfl, hc 1 _ rfl, hc 2 _ rfl, H⟩
end Go.Proofs.Ytfhambfgjigneaa

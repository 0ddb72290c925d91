/- Contracts of Go functions that the statement reaches, proved by walking their text, and plain laws over them (texts put together). -/
import Derived.Test.YtfhambfgjigneaaK17
import Derived.Test.YtfhambfgjigneaaK15
import Derived.Test.YtfhambfgjigneaaK16
import Derived.Test.YtfhambfgjigneaaK9
set_option linter.unusedVariables false
set_option linter.unusedSimpArgs false
namespace Go.Proofs.Ytfhambfgjigneaa
open Go.RowKit
set_option maxHeartbeats 32000000 in
set_option maxRecDepth 100000 in
theorem rdual_calls (w : World) (v : Value) (p : ProgF) (h : PR w v p) : Calls Try.prog 15 #[v] w fun e w' => NPost w (dualP p) (dualCode p) e w' := by
  have HP := Lib.hid h
  obtain ⟨A1, c1, A2, c2, A3, c3, rfl, HI, H1, H2, H3⟩ := h.opened
  clear h
  obtain ⟨vars, hv⟩ : ∃ n, n = p.vars := ⟨_, rfl⟩
  rw [← hv] at HP ⊢
  have HV := Lib.hid hv
  clear hv
  go_enter Try.func15, Try.ntmps15
  go_wp2_with fail
  have H0 := Lib.hid (HS.two (w := w) #[.int .i64 vars, .slice A1 p.free.length c1, .slice A2 p.goal.length c2, .slice A3 p.rows.length c3] #[.int .i64 0, .slice none 0 0, .slice none 0 0, .slice none 0 0] 26 26)
  generalize (w.alloc (.cells #[.int .i64 vars, .slice A1 p.free.length c1, .slice A2 p.goal.length c2, .slice A3 p.rows.length c3] 26)).alloc (.cells #[.int .i64 0, .slice none 0 0, .slice none 0 0, .slice none 0 0] 26) = W0 at *
  refine (rnormal_calls W0 _ p (HP.out.of_below H0.out.2)).mono ?_
  rintro e w1 ⟨v1, rfl, hpo, hb⟩
  have KK := Lib.hid (H0.out.step hb)
  clear hb
  by_cases q1 : rightP p = 0
  case neg =>
    obtain ⟨B1, d1, B2, d2, B3, d3, rfl, HI2, HF, HG, HR⟩ := hpo.opened
    clear hpo
    have u1 : (rightP p != 0) = true := bneI q1
    have HC : Hid (dualCode p = rightP p) := by unfold Hid dualCode; rw [if_pos q1]
    have HN : Hid (dualP p = zeroP) := by unfold Hid dualP; rw [HC.out, if_neg q1]
    clear q1
    obtain ⟨j0, j1, j2, j3⟩ := (KK.out.blk 0 rfl).c4
    obtain ⟨f0, f1, f2, f3⟩ := (KK.out.blk 0 rfl).f4
    have hlt0 := (KK.out.blk 0 rfl).lt
    go_wp2_with fail
    rw [HN.out, HC.out]
    exact ret26i Try.results15 rfl rfl (((KK.out.blk 0 rfl).put4 _ _ _ _).below (below_new _ _) ((KK.out.blk 0 rfl).put4 _ _ _ _).lt) ⟨_, rfl, PO.zero _ _, below_next (below_put4 KK.out.2 (by simp) _ _ _ _) (below_new _ _)⟩
  have u1 : (rightP p != 0) = false := beqI q1
  have HRZ := Lib.hid q1
  obtain ⟨k, hk⟩ : ∃ k, k = p.vars.toNat := ⟨_, rfl⟩
  obtain ⟨m, hm⟩ : ∃ m, m = p.rows.length := ⟨_, rfl⟩
  obtain ⟨nq, hnq⟩ : ∃ n, n = normalR p := ⟨_, rfl⟩
  have HDN : Hid (DualN nq k m) := by unfold Hid; rw [hnq, hk, hm]; exact dual_n q1
  have HSM : Hid (SmallP nq) := by unfold Hid; rw [hnq]; exact small_normal p
  rw [← hnq] at hpo
  have HNQ := Lib.hid hnq
  have HM := Lib.hid hm
  obtain ⟨B1, d1, B2, d2, B3, d3, rfl, HI2, HF, HG, HR⟩ := hpo.opened
  rw [HDN.out.vars, HDN.out.free, HDN.out.goal, HDN.out.rows]
  rw [HDN.out.free] at HF
  rw [HDN.out.goal] at HG
  rw [HDN.out.rows] at HR
  clear q1 hpo hnq hk hm
  have hk160 := HDN.out.k1
  have hm400 := HDN.out.m1
  by_cases q2 : m = 0
  case pos =>
    have u2 : ((m : Int) == 0) = true := beqI' (by omega)
    have HC : Hid (dualCode p = 20) := by unfold Hid dualCode; rw [if_neg (by simp [HRZ.out]), if_pos (by rw [← HM.out]; exact q2)]
    have HN : Hid (dualP p = zeroP) := by unfold Hid dualP; rw [HC.out]; rfl
    clear q2
    obtain ⟨j0, j1, j2, j3⟩ := (KK.out.blk 0 rfl).c4
    obtain ⟨f0, f1, f2, f3⟩ := (KK.out.blk 0 rfl).f4
    have hlt0 := (KK.out.blk 0 rfl).lt
    go_wp2_with fail
    rw [HN.out, HC.out]
    exact ret26i Try.results15 rfl rfl (((KK.out.blk 0 rfl).put4 _ _ _ _).below (below_new _ _) ((KK.out.blk 0 rfl).put4 _ _ _ _).lt) ⟨_, rfl, PO.zero _ _, below_next (below_put4 KK.out.2 (by simp) _ _ _ _) (below_new _ _)⟩
  have u2 : ((m : Int) == 0) = false := bneI' (by omega)
  by_cases q3 : 160 < m
  case pos =>
    have u3 : (160 : Int) < (m : Int) := by omega
    have HC : Hid (dualCode p = 1) := by unfold Hid dualCode; rw [if_neg (by simp [HRZ.out]), if_neg (by rw [← HM.out]; exact q2), if_pos (by rw [← HM.out]; exact q3)]
    have HN : Hid (dualP p = zeroP) := by unfold Hid dualP; rw [HC.out]; rfl
    clear q2 q3
    obtain ⟨j0, j1, j2, j3⟩ := (KK.out.blk 0 rfl).c4
    obtain ⟨f0, f1, f2, f3⟩ := (KK.out.blk 0 rfl).f4
    have hlt0 := (KK.out.blk 0 rfl).lt
    go_wp2_with fail
    rw [HN.out, HC.out]
    exact ret26i Try.results15 rfl rfl (((KK.out.blk 0 rfl).put4 _ _ _ _).below (below_new _ _) ((KK.out.blk 0 rfl).put4 _ _ _ _).lt) ⟨_, rfl, PO.zero _ _, below_next (below_put4 KK.out.2 (by simp) _ _ _ _) (below_new _ _)⟩
  have u3 : ¬ ((160 : Int) < (m : Int)) := by omega
  have HC : Hid (dualCode p = 0) := by unfold Hid dualCode; rw [if_neg (by simp [HRZ.out]), if_neg (by rw [← HM.out]; exact q2), if_neg (by rw [← HM.out]; exact q3)]
  have HN : Hid (dualP p = dualQ nq) := by unfold Hid dualP; rw [if_pos HC.out, HNQ.out]
  have hm160 : m ≤ 160 := by omega
  clear q2 q3
  go_wp2_with fail
  have HNB := Lib.hid (Blk.new w1 26 #[.int .i64 (k : Int), .slice B1 k d1, .slice B2 k d2, .slice B3 m d3])
  have hbn := below_new w1 (.cells #[.int .i64 (k : Int), .slice B1 k d1, .slice B2 k d2, .slice B3 m d3] 26)
  have HNF := Lib.hid (HF.out.below hbn)
  have HNG := Lib.hid (OL.below EFQ.stays HG.out hbn)
  have HNR := Lib.hid (OL.below ERO.stays HR.out hbn)
  have HZ := Lib.hid (KK.out.step hbn)
  have HSN : Hid ((w1.alloc (.cells #[.int .i64 (k : Int), .slice B1 k d1, .slice B2 k d2, .slice B3 m d3] 26)).heap.size = w1.heap.size + 1) := by unfold Hid; simp
  obtain ⟨gn, hgn⟩ : ∃ g, g = w1.heap.size := ⟨_, rfl⟩
  rw [← hgn] at HNB HSN ⊢
  have HGN : Hid (w.heap.size + 2 ≤ gn) := by have : w.heap.size + 1 < w1.heap.size := (KK.out.blk 0 rfl).lt; unfold Hid; omega
  generalize w1.alloc (.cells #[.int .i64 (k : Int), .slice B1 k d1, .slice B2 k d2, .slice B3 m d3] 26) = Wn at *
  clear hgn hbn HF HG HR KK
  have HD0 := Lib.hid (Blk.new Wn 26 #[.int .i64 (m : Int), .slice none 0 0, .slice none 0 0, .slice none 0 0])
  rw [HSN.out] at HD0
  have HK0 := Lib.hid ((HS.nil Wn).step (below_new Wn (.cells #[.int .i64 (m : Int), .slice none 0 0, .slice none 0 0, .slice none 0 0] 26)))
  generalize Wn.alloc (.cells #[.int .i64 (m : Int), .slice none 0 0, .slice none 0 0, .slice none 0 0] 26) = Wd at *
  obtain ⟨fb, hfb⟩ : ∃ l, l = nq.rows.map fun r => r.s == 0 := ⟨_, rfl⟩
  obtain ⟨gb, hgb⟩ : ∃ l, l = nq.rows.map fun r => -r.b := ⟨_, rfl⟩
  have HFB := Lib.hid hfb
  have HGB := Lib.hid hgb
  have HFL : Hid (fb.length = m) := by unfold Hid; rw [hfb, List.length_map]; exact HDN.out.rows
  have HGL : Hid (gb.length = m) := by unfold Hid; rw [hgb, List.length_map]; exact HDN.out.rows
  clear hfb hgb
  go_loopw [39] (fun vi wr => ∃ i : Nat, i ≤ m ∧ vi = .int .i64 (i : Int) ∧ (∃ C1 e1 C2 e2, Blk wr (gn + 1) 26 #[.int .i64 (m : Int), .slice C1 i e1, .slice C2 i e2, .slice none 0 0] ∧ OB (gn + 1) wr (.slice C1 i e1) (fb.take i) ∧ QO (gn + 1) wr (.slice C2 i e2) (gb.take i)) ∧ HS Wn [] wr) (fun vi _ => m - (intOf vi).toNat)
  case atStart => exact ⟨0, Nat.zero_le _, rfl, ⟨none, 0, none, 0, HD0.out, OL.nil _ _ _ _ _, OL.nil _ _ _ _ _⟩, HK0.out⟩
  case round =>
    obtain ⟨i, hi, rfl, ⟨C1, e1, C2, e2, hbd, hfo, hgo⟩, hk⟩ := hrel
    have HD := Lib.hid hbd
    have HFO := Lib.hid hfo
    have HGO := Lib.hid hgo
    have HK := Lib.hid hk
    clear hbd hfo hgo hk HD0 HK0
    obtain ⟨i0, i1, i2, i3⟩ := HD.out.c4
    have hltd := HD.out.lt
    by_cases hlt : i < m
    · obtain ⟨r, hr⟩ : ∃ r, nq.rows[i]? = some r := ⟨nq.rows[i]'(by rw [HDN.out.rows]; exact hlt), List.getElem?_eq_getElem _⟩
      obtain ⟨g5, C3, e3, C4, n4, e4, C5, n5, e5, rfl, hg5, hg5l, k0, k1, k2, k3, k4, _, HIS, HRA, HRB⟩ := RO.at5 (OL.below ERO.stays HNR.out HK.out.2) hr
      have HSB : Hid (sizeQ r.b ≤ 4096) := (HSM.out.2 r (List.mem_of_getElem? hr)).2
      have HFN : Hid (fb.take (i + 1) = fb.take i ++ [r.s == 0]) := by unfold Hid; rw [List.take_add_one, HFB.out, List.getElem?_map, hr]; rfl
      have HGNX : Hid (gb.take (i + 1) = gb.take i ++ [-r.b]) := by unfold Hid; rw [List.take_add_one, HGB.out, List.getElem?_map, hr]; rfl
      have hfl : (fb.take i).length ≤ 1000000000 := by rw [List.length_take]; omega
      have hgl : (gb.take i).length ≤ 1000000000 := by rw [List.length_take]; omega
      have HFT : Hid ((fb.take (i + 1)).length = i + 1) := by unfold Hid; rw [List.length_take, HFL.out]; omega
      have HGT : Hid ((gb.take (i + 1)).length = i + 1) := by unfold Hid; rw [List.length_take, HGL.out]; omega
      have m1 : (i : Int) < (m : Int) := by omega
      have m3 : (i : Int).toNat = i := by omega
      have m4 : (0 : Int) ≤ (i : Int) := by omega
      clear hr
      have hbA := below_new wr (.cells #[.slice C3 r.a.length e3, .int .i64 r.s, .bool (negQ r.b), .slice C4 n4 e4, .slice C5 n5 e5] 65)
      have HDx1 := Lib.hid (HD.out.below hbA HD.out.lt)
      have HFOx2 := Lib.hid (OL.below EB.stays HFO.out hbA)
      have HGOx3 := Lib.hid (OL.below EFQ.stays HGO.out hbA)
      have HKx4 := Lib.hid (HK.out.step hbA)
      have HRBx5 := Lib.hid (HRB.out.of_below hbA)
      have HR8 := Lib.hid (Blk.new wr 65 #[.slice C3 r.a.length e3, .int .i64 r.s, .bool (negQ r.b), .slice C4 n4 e4, .slice C5 n5 e5])
      have hbB := below_new (wr.alloc (.cells #[.slice C3 r.a.length e3, .int .i64 r.s, .bool (negQ r.b), .slice C4 n4 e4, .slice C5 n5 e5] 65)) (.cells #[.bool (r.s == 0)] 4)
      have HDx6 := Lib.hid (HDx1.out.below hbB HDx1.out.lt)
      clear HDx1
      have HFOx7 := Lib.hid (OL.below EB.stays HFOx2.out hbB)
      clear HFOx2
      have HGOx8 := Lib.hid (OL.below EFQ.stays HGOx3.out hbB)
      clear HGOx3
      have HKx9 := Lib.hid (HKx4.out.step hbB)
      clear HKx4
      have HRBx10 := Lib.hid (HRBx5.out.of_below hbB)
      clear HRBx5
      have HR8x11 := Lib.hid (HR8.out.below hbB HR8.out.lt)
      clear HR8
      clear hbA hbB
      -- step
      go_wp2_with (at_builtin; refine wpl_appendB rfl (.tmp 44) (.tmp 48) rfl (base := gn + 1) (.slice C1 i e1) (fb.take i) rfl HFOx7.out (r.s == 0) rfl (Blk.newAt (by simp)) hfl (by simp; omega) ?_; intro v6 W6 hfo6 hcg6 hw6; rw [← HFN.out] at hfo6; obtain ⟨C6, e6, hv6, _⟩ := OL.slice hfo6; rw [HFT.out] at hv6; subst hv6; have HFO6 := Lib.hid hfo6; have HDx101 := Lib.hid (HDx6.out.chg hcg6 (by decide)); clear HDx6; have HGOx102 := Lib.hid (QO.chg HGOx8.out hcg6 (by decide)); clear HGOx8; have HKx103 := Lib.hid (HS.chg HKx9.out hcg6 (by simp) HSN.out.symm hw6); clear HKx9; have HRBx104 := Lib.hid (HRBx10.out.keeps hcg6.1); clear HRBx10; have HR8x105 := Lib.hid (HR8x11.out.chg hcg6 (by decide)); clear HR8x11; obtain ⟨i0, i1, i2, i3⟩ := HDx101.out.c4; obtain ⟨f0, f1, f2, f3⟩ := HDx101.out.f4; have hltd := HDx101.out.lt; clear hfo6 hcg6 hw6)
      have hcpx201 := chg_put1 (base := gn + 1) (j := 1) HDx101.out (Nat.le_refl _) prog_words (.slice C6 (i + 1) e6)
      have HDx202 := Lib.hid (HDx101.out.put 1 (.slice C6 (i + 1) e6))
      clear HDx101
      have HGOx203 := Lib.hid (QO.chg HGOx102.out hcpx201 (by decide))
      clear HGOx102
      have HKx204 := Lib.hid (HKx103.out.other1 (g := (gn + 1)) (by rw [HSN.out]; exact Nat.le_refl _) (by simp) 1 (.slice C6 (i + 1) e6))
      clear HKx103
      have HRBx205 := Lib.hid (HRBx104.out.keeps hcpx201.1)
      clear HRBx104
      have HR8x206 := Lib.hid (HR8x105.out.chg hcpx201 (by decide))
      clear HR8x105
      have HFOx207 := Lib.hid (OB.chg HFO6.out hcpx201 (by decide))
      clear HFO6
      clear hcpx201
      obtain ⟨i0, i1, i2, i3⟩ := HDx202.out.c4
      obtain ⟨y0, y1, y2, y3, y4⟩ := HR8x206.out.c5
      have hltd := HDx202.out.lt
      have hlt8 := HR8x206.out.lt
      generalize W6.setCell ⟨gn + 1, 1, none⟩ (.slice C6 (i + 1) e6) = W7 at *
      obtain ⟨g8, hg8⟩ : ∃ g, g = wr.heap.size := ⟨_, rfl⟩
      rw [← hg8] at HR8x206 y0 y1 y2 y3 y4 hlt8 ⊢
      clear hg8
      refine wp_chainF (l := [_, _, _, _, _, _, _, _, _]) (S := Below W7.heap.size W7) 6 [([0, 1, 2, 3], 4), ([], 5)] [] (by kernel_rfl) (by kernel_rfl) (by kernel_rfl) rfl (Below.drew (Below.refl _ _)) ?_
      refine ⟨?_, _, ?_, rfl, ?_⟩
      rotate_left
      · repeat (refine ⟨_, ?_, rfl, Or.inl ⟨by rfl, ?_⟩, ?_⟩; rotate_left; focus (intro W hW; have hcW := (bcell hW).1; clear hW; go_simp; try with_reducible rfl); (try simp only [Act.put, List.getElem_toArray, List.getElem_cons_succ, List.getElem_cons_zero, List.setIfInBounds_toArray, List.set_cons_zero, List.set_cons_succ]))
        exact rfl
      have hb0 : Below W7.heap.size W7 W7.drew := Below.drew (Below.refl _ _)
      have D0 := Lib.hid hb0
      have HDx208 := Lib.hid (HDx202.out.below hb0 HDx202.out.lt)
      clear HDx202
      have HGOx209 := Lib.hid (OL.below EFQ.stays HGOx203.out hb0)
      clear HGOx203
      have HKx210 := Lib.hid (HKx204.out.step hb0)
      clear HKx204
      have HRBx211 := Lib.hid (HRBx205.out.of_below hb0)
      clear HRBx205
      have HR8x212 := Lib.hid (HR8x206.out.below hb0 HR8x206.out.lt)
      clear HR8x206
      have HFOx213 := Lib.hid (OL.below EB.stays HFOx207.out hb0)
      clear HFOx207
      clear hb0
      go_wp2_with fail
      refine (rneg_calls _ _ (rawQ r.b) (FR.of_fq HRBx211.out HSB.out)).mono ?_
      rintro e W3 ⟨v, rfl, hv, hb⟩
      rw [fixQ_raw _ HSB.out] at hv
      obtain ⟨P7, q7, r7, P8, q8, r8, rfl, HV3⟩ := hv.opened
      have D3 := Lib.hid (below_next D0.out hb)
      have HDx214 := Lib.hid (HDx208.out.below hb HDx208.out.lt)
      clear HDx208
      have HGOx215 := Lib.hid (OL.below EFQ.stays HGOx209.out hb)
      clear HGOx209
      have HKx216 := Lib.hid (HKx210.out.step hb)
      clear HKx210
      have HRBx217 := Lib.hid (HRBx211.out.of_below hb)
      clear HRBx211
      have HR8x218 := Lib.hid (HR8x212.out.below hb HR8x212.out.lt)
      clear HR8x212
      have HFOx219 := Lib.hid (OL.below EB.stays HFOx213.out hb)
      clear HFOx213
      clear hv hb
      go_wp2_with fail
      refine And.intro D3.out ⟨_, _, rfl, rfl, ?_⟩
      go_wp2_with fail
      have hbn := below_new W3 (.cells #[.bool (negQ (-r.b)), .slice P7 q7 r7, .slice P8 q8 r8] 40)
      have D4 := Lib.hid (below_next D3.out hbn)
      have HDx220 := Lib.hid (HDx214.out.below hbn HDx214.out.lt)
      clear HDx214
      have HGOx221 := Lib.hid (OL.below EFQ.stays HGOx215.out hbn)
      clear HGOx215
      have HKx222 := Lib.hid (HKx216.out.step hbn)
      clear HKx216
      have HRBx223 := Lib.hid (HRBx217.out.of_below hbn)
      clear HRBx217
      have HR8x224 := Lib.hid (HR8x218.out.below hbn HR8x218.out.lt)
      clear HR8x218
      have HFOx225 := Lib.hid (OL.below EB.stays HFOx219.out hbn)
      clear HFOx219
      have HV3x226 := Lib.hid (HV3.out.of_below hbn)
      clear HV3
      have HL4 := Lib.hid (Blk.new W3 40 #[.bool (negQ (-r.b)), .slice P7 q7 r7, .slice P8 q8 r8])
      obtain ⟨gl, hgl⟩ : ∃ g, g = W3.heap.size := ⟨_, rfl⟩
      rw [← hgl] at HL4 ⊢
      generalize W3.alloc (.cells #[.bool (negQ (-r.b)), .slice P7 q7 r7, .slice P8 q8 r8] 40) = W4 at *
      clear hgl hbn
      refine And.intro D4.out ⟨_, rfl, ?_⟩
      have hbase4 : gn + 1 ≤ W4.heap.size := by have := HKx222.out.2.size; rw [HSN.out] at this; exact this
      simp only [Act.put, List.getElem_toArray, List.getElem_cons_succ, List.getElem_cons_zero, List.setIfInBounds_toArray, List.set_cons_zero, List.set_cons_succ, List.drop_succ_cons, List.drop_zero]
      go_wp2_with (at_builtin; refine wpl_appendQ2 rfl (.tmp 52) (.tmp 56) rfl (base := gn + 1) (.slice C2 i e2) (gb.take i) rfl HGOx221.out (-r.b) rfl HL4.out HV3x226.out hgl hbase4 ?_; intro v8 W8 hgo8 hcg8 hw8; rw [← HGNX.out] at hgo8; obtain ⟨C8, e8, hv8, _⟩ := OL.slice hgo8; rw [HGT.out] at hv8; subst hv8; have HGO8 := Lib.hid hgo8; have HDx301 := Lib.hid (HDx220.out.chg hcg8 (by decide)); clear HDx220; have HKx302 := Lib.hid (HS.chg HKx222.out hcg8 (by simp) HSN.out.symm hw8); clear HKx222; have HR8x303 := Lib.hid (HR8x224.out.chg hcg8 (by decide)); clear HR8x224; have HFOx304 := Lib.hid (OB.chg HFOx225.out hcg8 (by decide)); clear HFOx225; obtain ⟨i0, i1, i2, i3⟩ := HDx301.out.c4; obtain ⟨f0, f1, f2, f3⟩ := HDx301.out.f4; have hltd := HDx301.out.lt; clear hgo8 hcg8 hw8)
      refine NoPanic.normal ?_
      have hcpx401 := chg_put1 (base := gn + 1) (j := 2) HDx301.out (Nat.le_refl _) prog_words (.slice C8 (i + 1) e8)
      have HDx402 := Lib.hid (HDx301.out.put 2 (.slice C8 (i + 1) e8))
      clear HDx301
      have HKx403 := Lib.hid (HKx302.out.other1 (g := (gn + 1)) (by rw [HSN.out]; exact Nat.le_refl _) (by simp) 2 (.slice C8 (i + 1) e8))
      clear HKx302
      have HFOx404 := Lib.hid (OB.chg HFOx304.out hcpx401 (by decide))
      clear HFOx304
      have HGOx405 := Lib.hid (QO.chg HGO8.out hcpx401 (by decide))
      clear HGO8
      clear hcpx401
      go_wp2_with fail
      go_roundw
      case rel => exact ⟨i + 1, by omega, by go_num, ⟨C6, e6, C8, e8, HDx402.out, HFOx404.out, HGOx405.out⟩, HKx403.out⟩
      case measure => simp [intOf]; omega
    · obtain rfl : m = i := by omega
      have hft : fb.take m = fb := List.take_of_length_le (by rw [HFL.out]; exact Nat.le_refl _)
      have hgt : gb.take m = gb := List.take_of_length_le (by rw [HGL.out]; exact Nat.le_refl _)
      rw [hft] at HFO
      rw [hgt] at HGO
      clear hft hgt i0 i1 i2 i3 hltd hlt hi
      obtain ⟨dr, hdr⟩ : ∃ l, l = (List.range k).map (dualRow nq) := ⟨_, rfl⟩
      have HDR := Lib.hid hdr
      have HDL : Hid (dr.length = k) := by unfold Hid; rw [hdr]; simp
      clear hdr
      obtain ⟨x0, x1, x2, x3⟩ := (HNB.out.below HK.out.2 HNB.out.lt).c4
      have hltn := (HNB.out.below HK.out.2 HNB.out.lt).lt
      go_wp2_with fail
      clear x0 x1 x2 x3 hltn
      go_loopw [9] (fun vi wr => ∃ v : Nat, v ≤ k ∧ vi = .int .i64 (v : Int) ∧ (∃ C3 e3, Blk wr (gn + 1) 26 #[.int .i64 (m : Int), .slice C1 m e1, .slice C2 m e2, .slice C3 v e3] ∧ RO (gn + 1) wr (.slice C3 v e3) (dr.take v)) ∧ OB (gn + 1) wr (.slice C1 m e1) fb ∧ QO (gn + 1) wr (.slice C2 m e2) gb ∧ HS Wn [] wr) (fun vi _ => k - (intOf vi).toNat)
      case atStart => exact ⟨0, Nat.zero_le _, rfl, ⟨none, 0, HD.out, OL.nil _ _ _ _ _⟩, HFO.out, HGO.out, HK.out⟩
      case round =>
        obtain ⟨v, hi, rfl, ⟨C3, e3, hbd, hro⟩, hfo, hgo, hk⟩ := hrel
        clear HD HFO HGO HK
        have HD := Lib.hid hbd
        have HRO := Lib.hid hro
        have HFO := Lib.hid hfo
        have HGO := Lib.hid hgo
        have HK := Lib.hid hk
        clear hbd hro hfo hgo hk
        obtain ⟨x0, x1, x2, x3⟩ := (HNB.out.below HK.out.2 HNB.out.lt).c4
        have hltn := (HNB.out.below HK.out.2 HNB.out.lt).lt
        by_cases hlt : v < k
        · obtain ⟨gv, hgv⟩ : ∃ x, nq.goal[v]? = some x := ⟨nq.goal[v]'(by rw [HDN.out.goal]; exact hlt), List.getElem?_eq_getElem _⟩
          obtain ⟨fv, hfv⟩ : ∃ x, nq.free[v]? = some x := ⟨nq.free[v]'(by rw [HDN.out.free]; exact hlt), List.getElem?_eq_getElem _⟩
          obtain ⟨gG, oG, C4, n4, e4, C5, n5, e5, rfl, hgG, k0, k1, k2, HGV⟩ := QO.at3 (OL.below EFQ.stays HNG.out HK.out.2) hgv
          obtain ⟨gF, oF, rfl, hgF, k3⟩ := BL.at1 (HNF.out.below HK.out.2).1 hfv
          have HSV : Hid (sizeQ gv ≤ 4096) := HSM.out.1 gv (List.mem_of_getElem? hgv)
          have HGVV := Lib.hid hgv
          have HFVV := Lib.hid hfv
          have m1 : (v : Int) < (k : Int) := by omega
          have m3 : (v : Int).toNat = v := by omega
          have m4 : (0 : Int) ≤ (v : Int) := by omega
          clear hgv hfv
          go_wp2_with fail
          refine (rneg_calls _ _ (rawQ gv) (FR.of_fq HGV.out HSV.out)).mono ?_
          rintro e W1 ⟨v9, rfl, hv, hb⟩
          rw [fixQ_raw _ HSV.out] at hv
          obtain ⟨A7, n7, c7, A8, n8, c8, rfl, HV1⟩ := hv.opened
          have HKo := Lib.hid ((HS.nil wr).step hb)
          have hk3 : W1.cell? ⟨gF, oF + v, none⟩ = some (.bool fv) := by rw [(bcell hb).1 gF _ hgF]; exact k3
          have hb2 := HK.out.2
          clear hv hb k0 k1 k2 k3 x0 x1 x2 x3 hltn
          obtain ⟨x0, x1, x2, x3⟩ := ((HNB.out.below HK.out.2 HNB.out.lt).below HKo.out.2 (HNB.out.below HK.out.2 HNB.out.lt).lt).c4
          have hltn := ((HNB.out.below HK.out.2 HNB.out.lt).below HKo.out.2 (HNB.out.below HK.out.2 HNB.out.lt).lt).lt
          have hgF2 : gF < W1.heap.size := Nat.lt_of_lt_of_le hgF HKo.out.2.size
          obtain ⟨wo, rfl⟩ : ∃ wo, wo = wr := ⟨_, rfl⟩
          have HW1 : Hid (wo.heap.size ≤ W1.heap.size) := HKo.out.2.size
          clear hb2
          cases fv
          case' false =>
            go_wp2_with fail
            have hbn := below_new W1 (.cells #[.slice none 0 0, .int .i64 (-1), .bool (negQ (-gv)), .slice A7 n7 c7, .slice A8 n8 c8] 65)
            have HRX : Hid (∃ s : Int, s = (if false = true then (0 : Int) else -1) ∧ Blk (W1.alloc (.cells #[.slice none 0 0, .int .i64 (-1), .bool (negQ (-gv)), .slice A7 n7 c7, .slice A8 n8 c8] 65)) W1.heap.size 65 #[.slice none 0 0, .int .i64 s, .bool (negQ (-gv)), .slice A7 n7 c7, .slice A8 n8 c8]) := ⟨(-1), rfl, Blk.new _ _ _⟩
            have HKp := Lib.hid (HKo.out.step hbn)
            have HV2 := Lib.hid (HV1.out.of_below hbn)
            generalize W1.alloc (.cells #[.slice none 0 0, .int .i64 (-1), .bool (negQ (-gv)), .slice A7 n7 c7, .slice A8 n8 c8] 65) = W2 at *
            clear hbn HKo HV1
          case' true =>
            go_wp2_with fail
            have hbn := below_new W1 (.cells #[.slice none 0 0, .int .i64 0, .bool (negQ (-gv)), .slice A7 n7 c7, .slice A8 n8 c8] 65)
            have HRX : Hid (∃ s : Int, s = (if true = true then (0 : Int) else -1) ∧ Blk (W1.alloc (.cells #[.slice none 0 0, .int .i64 0, .bool (negQ (-gv)), .slice A7 n7 c7, .slice A8 n8 c8] 65)) W1.heap.size 65 #[.slice none 0 0, .int .i64 s, .bool (negQ (-gv)), .slice A7 n7 c7, .slice A8 n8 c8]) := ⟨0, rfl, Blk.new _ _ _⟩
            have HKp := Lib.hid (HKo.out.step hbn)
            have HV2 := Lib.hid (HV1.out.of_below hbn)
            generalize W1.alloc (.cells #[.slice none 0 0, .int .i64 0, .bool (negQ (-gv)), .slice A7 n7 c7, .slice A8 n8 c8] 65) = W2 at *
            clear hbn HKo HV1
          all_goals
            obtain ⟨s, hs, hblk⟩ := HRX.out
            have HSS := Lib.hid hs
            have HB10 := Lib.hid hblk
            clear hs hblk HRX x0 x1 x2 x3 hltn hk3 hgF2
            obtain ⟨g10, hg10⟩ : ∃ g, g = W1.heap.size := ⟨_, rfl⟩
            have HG10 : Hid (wo.heap.size ≤ g10) := by unfold Hid; rw [hg10]; exact HW1.out
            rw [← hg10] at HB10 ⊢
            clear hg10 HW1
            obtain ⟨ab, hab⟩ : ∃ l, l = nq.rows.map fun r => -(r.a.getD v 0) := ⟨_, rfl⟩
            have HAB := Lib.hid hab
            have HAL : Hid (ab.length = m) := by unfold Hid; rw [hab, List.length_map]; exact HDN.out.rows
            clear hab
            go_loopw [82] (fun vi wr => ∃ i : Nat, i ≤ m ∧ vi = .int .i64 (i : Int) ∧ (∃ C6 e6, Blk wr g10 65 #[.slice C6 i e6, .int .i64 s, .bool (negQ (-gv)), .slice A7 n7 c7, .slice A8 n8 c8] ∧ QO wo.heap.size wr (.slice C6 i e6) (ab.take i)) ∧ FQ wr (.agg #[.bool (negQ (-gv)), .slice A7 n7 c7, .slice A8 n8 c8]) (-gv) ∧ HS wo [] wr) (fun vi _ => m - (intOf vi).toNat)
            case atStart => exact ⟨0, Nat.zero_le _, rfl, ⟨none, 0, HB10.out, OL.nil _ _ _ _ _⟩, HV2.out, HKp.out⟩
            case round =>
              obtain ⟨i, hi, rfl, ⟨C6, e6, hbr, hqo⟩, hfq, hk⟩ := hrel
              clear HB10 HV2 HKp
              have HBR := Lib.hid hbr
              have HQO := Lib.hid hqo
              have HFQ := Lib.hid hfq
              have HKi := Lib.hid hk
              have HKW := Lib.hid (HK.out.step hk.2)
              clear hbr hqo hfq hk
              obtain ⟨y0, y1, y2, y3, y4⟩ := HBR.out.c5
              have hltr := HBR.out.lt
              by_cases hlt : i < m
              · obtain ⟨r, hr⟩ : ∃ r, nq.rows[i]? = some r := ⟨nq.rows[i]'(by rw [HDN.out.rows]; exact hlt), List.getElem?_eq_getElem _⟩
                obtain ⟨g5, C9, e9, C10, n10, e10, C11, n11, e11, rfl, hg5, hg5l, k0, k1, k2, k3, k4, _, HIS, HRA, HRB⟩ := RO.at5 (OL.below ERO.stays HNR.out HKW.out.2) hr
                have hral : r.a.length = k := HDN.out.a r (List.mem_of_getElem? hr)
                obtain ⟨av, hav⟩ : ∃ x, r.a[v]? = some x := ⟨r.a[v]'(by rw [hral]; assumption), List.getElem?_eq_getElem _⟩
                rw [hral] at k0 HRA
                have HSA : Hid (sizeQ av ≤ 4096) := (HSM.out.2 r (List.mem_of_getElem? hr)).1 av (List.mem_of_getElem? hav)
                have HNX : Hid (ab.take (i + 1) = ab.take i ++ [-av]) := by unfold Hid; rw [List.take_add_one, HAB.out, List.getElem?_map, hr]; show _ ++ [-(r.a.getD v 0)] = _; rw [List.getD_eq_getElem?_getD, hav]; rfl
                have hal : (ab.take i).length ≤ 1000000000 := by rw [List.length_take]; omega
                have HAT : Hid ((ab.take (i + 1)).length = i + 1) := by unfold Hid; rw [List.length_take, HAL.out]; omega
                obtain ⟨gA, oA, C12, n12, e12, C13, n13, e13, rfl, hgA, l0, l1, l2, HAV⟩ := QO.at3 HRA.out hav
                obtain ⟨sr, hsr⟩ : ∃ x, x = r.s := ⟨_, rfl⟩
                obtain ⟨nr, hnr⟩ : ∃ x, x = negQ r.b := ⟨_, rfl⟩
                rw [← hsr] at k1
                rw [← hnr] at k2
                have m1' : (i : Int) < (m : Int) := by omega
                have m3' : (i : Int).toNat = i := by omega
                have m4' : (0 : Int) ≤ (i : Int) := by omega
                clear hr hav hral hsr hnr HRA HRB HIS
                go_wp2_with fail
                have hbA := below_new wr (.cells #[.slice (some ⟨gA, oA, none⟩) k e9, .int .i64 sr, .bool nr, .slice C10 n10 e10, .slice C11 n11 e11] 65)
                have HBRx501 := Lib.hid (HBR.out.below hbA HBR.out.lt)
                clear HBR
                have HQOx502 := Lib.hid (OL.below EFQ.stays HQO.out hbA)
                clear HQO
                have HFQx503 := Lib.hid (HFQ.out.of_below hbA)
                clear HFQ
                have HKix504 := Lib.hid (HKi.out.step hbA)
                clear HKi
                have HAVx505 := Lib.hid (HAV.out.of_below hbA)
                clear HAV
                have HR12 := Lib.hid (Blk.new wr 65 #[.slice (some ⟨gA, oA, none⟩) k e9, .int .i64 sr, .bool nr, .slice C10 n10 e10, .slice C11 n11 e11])
                obtain ⟨g12, hg12⟩ : ∃ g, g = wr.heap.size := ⟨_, rfl⟩
                have z0 : (wr.alloc (.cells #[.slice (some ⟨gA, oA, none⟩) k e9, .int .i64 sr, .bool nr, .slice C10 n10 e10, .slice C11 n11 e11] 65)).cell? ⟨gA, oA + v * 3, none⟩ = _ := ((bcell hbA).1 gA _ hgA).trans l0
                have z1 : (wr.alloc (.cells #[.slice (some ⟨gA, oA, none⟩) k e9, .int .i64 sr, .bool nr, .slice C10 n10 e10, .slice C11 n11 e11] 65)).cell? ⟨gA, oA + v * 3 + 1, none⟩ = _ := ((bcell hbA).1 gA _ hgA).trans l1
                have z2 : (wr.alloc (.cells #[.slice (some ⟨gA, oA, none⟩) k e9, .int .i64 sr, .bool nr, .slice C10 n10 e10, .slice C11 n11 e11] 65)).cell? ⟨gA, oA + v * 3 + 2, none⟩ = _ := ((bcell hbA).1 gA _ hgA).trans l2
                have hgA2 : gA < (wr.alloc (.cells #[.slice (some ⟨gA, oA, none⟩) k e9, .int .i64 sr, .bool nr, .slice C10 n10 e10, .slice C11 n11 e11] 65)).heap.size := Nat.lt_of_lt_of_le hgA hbA.size
                rw [← hg12] at HR12 ⊢
                clear hg12 hbA l0 l1 l2 k0 k1 k2 k3 k4 y0 y1 y2 y3 y4 hltr hg5l hgA
                generalize wr.alloc (.cells #[.slice (some ⟨gA, oA, none⟩) k e9, .int .i64 sr, .bool nr, .slice C10 n10 e10, .slice C11 n11 e11] 65) = W7 at *
                obtain ⟨y0, y1, y2, y3, y4⟩ := HBRx501.out.c5
                have hltr := HBRx501.out.lt
                obtain ⟨j0, j1, j2, j3, j4⟩ := HR12.out.c5
                have hlt12 := HR12.out.lt
                refine wp_chainF (l := [_, _, _, _, _, _, _, _, _, _, _, _]) (S := Below W7.heap.size W7) 9 [([0, 1, 2, 3, 4, 5, 6], 7), ([], 8)] [] (by kernel_rfl) (by kernel_rfl) (by kernel_rfl) rfl (Below.drew (Below.refl _ _)) ?_
                refine ⟨?_, _, ?_, rfl, ?_⟩
                rotate_left
                · repeat (refine ⟨_, ?_, rfl, Or.inl ⟨by rfl, ?_⟩, ?_⟩; rotate_left; focus (intro W hW; have hcW := (bcell hW).1; clear hW; go_simp; try with_reducible rfl); (try simp only [Act.put, List.getElem_toArray, List.getElem_cons_succ, List.getElem_cons_zero, List.setIfInBounds_toArray, List.set_cons_zero, List.set_cons_succ]))
                  exact rfl
                have hb0 : Below W7.heap.size W7 W7.drew := Below.drew (Below.refl _ _)
                have D0 := Lib.hid hb0
                have HBRx506 := Lib.hid (HBRx501.out.below hb0 HBRx501.out.lt)
                clear HBRx501
                have HQOx507 := Lib.hid (OL.below EFQ.stays HQOx502.out hb0)
                clear HQOx502
                have HFQx508 := Lib.hid (HFQx503.out.of_below hb0)
                clear HFQx503
                have HKix509 := Lib.hid (HKix504.out.step hb0)
                clear HKix504
                have HAVx510 := Lib.hid (HAVx505.out.of_below hb0)
                clear HAVx505
                have HR12x511 := Lib.hid (HR12.out.below hb0 HR12.out.lt)
                clear HR12
                clear hb0
                go_wp2_with fail
                refine (rneg_calls _ _ (rawQ av) (FR.of_fq HAVx510.out HSA.out)).mono ?_
                rintro e W3 ⟨v, rfl, hv, hb⟩
                rw [fixQ_raw _ HSA.out] at hv
                obtain ⟨P7, q7, r7, P8, q8, r8, rfl, HV3⟩ := hv.opened
                have D3 := Lib.hid (below_next D0.out hb)
                have HBRx512 := Lib.hid (HBRx506.out.below hb HBRx506.out.lt)
                clear HBRx506
                have HQOx513 := Lib.hid (OL.below EFQ.stays HQOx507.out hb)
                clear HQOx507
                have HFQx514 := Lib.hid (HFQx508.out.of_below hb)
                clear HFQx508
                have HKix515 := Lib.hid (HKix509.out.step hb)
                clear HKix509
                have HAVx516 := Lib.hid (HAVx510.out.of_below hb)
                clear HAVx510
                clear hv hb
                go_wp2_with fail
                refine And.intro D3.out ⟨_, _, rfl, rfl, ?_⟩
                go_wp2_with fail
                have hbn := below_new W3 (.cells #[.bool (negQ (-av)), .slice P7 q7 r7, .slice P8 q8 r8] 40)
                have D4 := Lib.hid (below_next D3.out hbn)
                have HBRx517 := Lib.hid (HBRx512.out.below hbn HBRx512.out.lt)
                clear HBRx512
                have HQOx518 := Lib.hid (OL.below EFQ.stays HQOx513.out hbn)
                clear HQOx513
                have HFQx519 := Lib.hid (HFQx514.out.of_below hbn)
                clear HFQx514
                have HKix520 := Lib.hid (HKix515.out.step hbn)
                clear HKix515
                have HAVx521 := Lib.hid (HAVx516.out.of_below hbn)
                clear HAVx516
                have HV3x522 := Lib.hid (HV3.out.of_below hbn)
                clear HV3
                have HL4 := Lib.hid (Blk.new W3 40 #[.bool (negQ (-av)), .slice P7 q7 r7, .slice P8 q8 r8])
                obtain ⟨gl, hgl⟩ : ∃ g, g = W3.heap.size := ⟨_, rfl⟩
                rw [← hgl] at HL4 ⊢
                generalize W3.alloc (.cells #[.bool (negQ (-av)), .slice P7 q7 r7, .slice P8 q8 r8] 40) = W4 at *
                clear hgl hbn
                refine And.intro D4.out ⟨_, rfl, ?_⟩
                have hbase4 : wo.heap.size ≤ W4.heap.size := HKix520.out.2.size
                simp only [Act.put, List.getElem_toArray, List.getElem_cons_succ, List.getElem_cons_zero, List.setIfInBounds_toArray, List.set_cons_zero, List.set_cons_succ, List.drop_succ_cons, List.drop_zero]
                go_wp2_with (at_builtin; refine wpl_appendQ2 rfl (.tmp 87) (.tmp 94) rfl (base := wo.heap.size) (.slice C6 i e6) (ab.take i) rfl HQOx518.out (-av) rfl HL4.out HV3x522.out hal hbase4 ?_; intro v8 W8 hgo8 hcg8 hw8; rw [← HNX.out] at hgo8; obtain ⟨C8, e8, hv8, _⟩ := OL.slice hgo8; rw [HAT.out] at hv8; subst hv8; have HGO8 := Lib.hid hgo8; have HBRx601 := Lib.hid (HBRx517.out.chg hcg8 (by decide)); clear HBRx517; have HFQx602 := Lib.hid (HFQx519.out.keeps hcg8.1); clear HFQx519; have HKix603 := Lib.hid (HS.chg HKix520.out hcg8 (by simp) rfl hw8); clear HKix520; obtain ⟨y0, y1, y2, y3, y4⟩ := HBRx601.out.c5; obtain ⟨f0, f1, f2, f3, f4⟩ := HBRx601.out.f5; have hltr := HBRx601.out.lt; clear hgo8 hcg8 hw8)
                refine NoPanic.normal ?_
                have hcpx701 := chg_put1 (base := wo.heap.size) (j := 0) HBRx601.out (HG10.out) rowA_words (.slice C8 (i + 1) e8)
                have HBRx702 := Lib.hid (HBRx601.out.put 0 (.slice C8 (i + 1) e8))
                clear HBRx601
                have HFQx703 := Lib.hid (HFQx602.out.keeps hcpx701.1)
                clear HFQx602
                have HKix704 := Lib.hid (HKix603.out.other1 (g := g10) (HG10.out) (by simp) 0 (.slice C8 (i + 1) e8))
                clear HKix603
                have HQOx705 := Lib.hid (QO.chg HGO8.out hcpx701 (by decide))
                clear HGO8
                clear hcpx701
                go_wp2_with fail
                go_roundw
                case rel => exact ⟨i + 1, by omega, by go_num, ⟨C8, e8, HBRx702.out, HQOx705.out⟩, HFQx703.out, HKix704.out⟩
                case measure => simp [intOf]; omega
              · obtain rfl : m = i := by omega
                have hft : ab.take m = ab := List.take_of_length_le (by rw [HAL.out]; exact Nat.le_refl _)
                rw [hft] at HQO
                clear hft
                have HDi := Lib.hid (HD.out.below HKi.out.2 HD.out.lt)
                have HROi := Lib.hid (OL.below ERO.stays HRO.out HKi.out.2)
                have HFOi := Lib.hid (OL.below EB.stays HFO.out HKi.out.2)
                have HGOi := Lib.hid (OL.below EFQ.stays HGO.out HKi.out.2)
                have hbw : gn + 1 ≤ wo.heap.size := by have := HK.out.2.size; rw [HSN.out] at this; exact this
                have hbi : gn + 1 ≤ wr.heap.size := Nat.le_trans hbw HKi.out.2.size
                have HQL := Lib.hid (HQO.out.lower hbw)
                have hbn := below_new wr (.cells #[.slice C6 m e6, .int .i64 s, .bool (negQ (-gv)), .slice A7 n7 c7, .slice A8 n8 c8] 65)
                have HDx801 := Lib.hid (HDi.out.below hbn HDi.out.lt)
                clear HDi
                have HROx802 := Lib.hid (OL.below ERO.stays HROi.out hbn)
                clear HROi
                have HFOx803 := Lib.hid (OL.below EB.stays HFOi.out hbn)
                clear HFOi
                have HGOx804 := Lib.hid (OL.below EFQ.stays HGOi.out hbn)
                clear HGOi
                have HKx805 := Lib.hid (HKW.out.step hbn)
                clear HKW
                have HQLx806 := Lib.hid (OL.below EFQ.stays HQL.out hbn)
                clear HQL
                have HFQx807 := Lib.hid (HFQ.out.of_below hbn)
                clear HFQ
                have HSI : Hid (I64 s) := by unfold Hid I64; have := HSS.out; split at this <;> omega
                have HER : Hid (ERO (gn + 1) (wr.alloc (.cells #[.slice C6 m e6, .int .i64 s, .bool (negQ (-gv)), .slice A7 n7 c7, .slice A8 n8 c8] 65)) #[.slice C6 m e6, .int .i64 s, .bool (negQ (-gv)), .slice A7 n7 c7, .slice A8 n8 c8] ⟨ab, s, -gv⟩) := ⟨_, _, _, _, _, _, _, rfl, HSI.out, HQLx806.out, HFQx807.out⟩
                have HNX : Hid (dr.take (v + 1) = dr.take v ++ [⟨ab, s, -gv⟩]) := by unfold Hid; rw [List.take_add_one, HDR.out, List.getElem?_map, List.getElem?_range (by assumption)]; show _ ++ [dualRow nq v] = _; unfold dualRow; rw [HAB.out, HSS.out, List.getD_eq_getElem?_getD, HFVV.out, List.getD_eq_getElem?_getD, HGVV.out]; rfl
                have hdl : (dr.take v).length ≤ 1000000000 := by rw [List.length_take]; omega
                have HDT : Hid ((dr.take (v + 1)).length = v + 1) := by unfold Hid; rw [List.length_take, HDL.out]; omega
                obtain ⟨i0, i1, i2, i3⟩ := (HD.out.below HKi.out.2 HD.out.lt).c4
                have hltd := (HD.out.below HKi.out.2 HD.out.lt).lt
                have hbs : gn + 1 ≤ (wr.alloc (.cells #[.slice C6 m e6, .int .i64 s, .bool (negQ (-gv)), .slice A7 n7 c7, .slice A8 n8 c8] 65)).heap.size := Nat.le_trans hbi hbn.size
                clear hbn
                go_wp2_with (at_builtin; refine wpl_appendR5 rfl (.tmp 99) (.tmp 101) rfl (base := gn + 1) (.slice C3 v e3) (dr.take v) rfl HROx802.out ⟨ab, s, -gv⟩ rfl (Blk.new wr 65 #[.slice C6 m e6, .int .i64 s, .bool (negQ (-gv)), .slice A7 n7 c7, .slice A8 n8 c8]) HER.out hdl hbs ?_; intro v6 W6 hro6 hcg6 hw6 hob6; rw [← HNX.out] at hro6; obtain ⟨C8, e8, hv8, _⟩ := OL.slice hro6; rw [HDT.out] at hv8; subst hv8; have HRO6 := Lib.hid hro6; have HDx851 := Lib.hid (HDx801.out.chg hcg6 (by decide)); clear HDx801; have HFOx852 := Lib.hid (OB.chg HFOx803.out hcg6 (by decide)); clear HFOx803; have HGOx853 := Lib.hid (QO.chg HGOx804.out hcg6 (by decide)); clear HGOx804; have HKx854 := Lib.hid (HS.chg HKx805.out hcg6 (by simp) HSN.out.symm hw6); clear HKx805; obtain ⟨i0, i1, i2, i3⟩ := HDx851.out.c4; obtain ⟨f0, f1, f2, f3⟩ := HDx851.out.f4; have hltd := HDx851.out.lt; clear hro6 hcg6 hw6 hob6)
                have hcpx901 := chg_put1 (base := gn + 1) (j := 3) HDx851.out (Nat.le_refl _) prog_words (.slice C8 (v + 1) e8)
                have HDx902 := Lib.hid (HDx851.out.put 3 (.slice C8 (v + 1) e8))
                clear HDx851
                have HFOx903 := Lib.hid (OB.chg HFOx852.out hcpx901 (by decide))
                clear HFOx852
                have HGOx904 := Lib.hid (QO.chg HGOx853.out hcpx901 (by decide))
                clear HGOx853
                have HKx905 := Lib.hid (HKx854.out.other1 (g := (gn + 1)) (by rw [HSN.out]; exact Nat.le_refl _) (by simp) 3 (.slice C8 (v + 1) e8))
                clear HKx854
                have HROx906 := Lib.hid (RO.chg HRO6.out hcpx901 (by decide) (by decide))
                clear HRO6
                clear hcpx901
                go_wp2_with fail
                go_roundw
                case rel => exact ⟨v + 1, by omega, by go_num, ⟨C8, e8, HDx902.out, HROx906.out⟩, HFOx903.out, HGOx904.out, HKx905.out⟩
                case measure => simp [intOf]; omega
        · obtain rfl : k = v := by omega
          obtain ⟨i0, i1, i2, i3⟩ := HD.out.c4
          have hltd := HD.out.lt
          obtain ⟨j0, j1, j2, j3⟩ := ((HZ.out.step HK.out.2).blk 0 rfl).c4
          obtain ⟨f0, f1, f2, f3⟩ := ((HZ.out.step HK.out.2).blk 0 rfl).f4
          have hlt0 := ((HZ.out.step HK.out.2).blk 0 rfl).lt
          go_wp2_with fail
          have hbw : w.heap.size ≤ gn + 1 := by have := HGN.out; omega
          have hft : dr.take k = dr := List.take_of_length_le (by rw [HDL.out]; exact Nat.le_refl _)
          rw [hft] at HRO
          have HZ9 := Lib.hid (HZ.out.step HK.out.2)
          have hcg := chg_put4 (base := w.heap.size) (HZ9.out.blk 0 rfl) (by simp) prog_words (.int .i64 (m : Int)) (.slice C1 m e1) (.slice C2 m e2) (.slice C3 k e3)
          have HDQ : Hid (dualQ nq = ⟨(m : Int), fb, gb, dr⟩) := by unfold Hid dualQ; rw [HDN.out.rows, HDN.out.goal, HFB.out, HGB.out, HDR.out]
          rw [HN.out, HC.out, HDQ.out]
          exact ret26i Try.results15 rfl rfl ((HZ9.out.blk 0 rfl).put4 _ _ _ _) ⟨_, rfl, ⟨_, _, _, rfl, by show I64 (m : Int); unfold I64; omega, (OB.chg (OB.lower HFO.out hbw) hcg (by decide)).fr, QO.chg (HGO.out.lower hbw) hcg (by decide), RO.chg (RO.lower HRO.out hbw) hcg (by decide) (by decide)⟩, below_put4 HZ9.out.2 (by simp) _ _ _ _⟩
end Go.Proofs.Ytfhambfgjigneaa
set_option linter.unusedVariables false
set_option linter.unusedSimpArgs false
namespace Go.Proofs.Ytfhambfgjigneaa
open Go.RowKit
theorem FL.one {w : World} {x y z : Value} {f : RawF} (h : FR w (.agg #[x, y, z]) f) (t : Nat) : FL (w.alloc (.cells #[x, y, z] t)) (.slice (some ⟨w.heap.size, 0, none⟩) 1 1) [f] := by
  refine ⟨_, _, rfl, Nat.le_refl _, fun _ => ⟨w.heap.size, 0, rfl, (Blk.new w t #[x, y, z]).lt, fun j f' hj => ?_⟩⟩
  obtain ⟨hlt, e⟩ := List.getElem?_eq_some_iff.1 hj
  obtain rfl : j = 0 := by simpa using hlt
  obtain rfl : f = f' := by simpa using e
  refine ⟨#[x, y, z], rfl, fun i v hv => ?_, h.of_below (below_new w _)⟩
  have := (Blk.new w t #[x, y, z]).cell hv
  simpa using this
structure SameP (p q : ProgF) : Prop where
  vars : p.vars = q.vars
  free : p.free = q.free
  goal : SameL p.goal q.goal
  len : p.rows.length = q.rows.length
  rows : ∀ (i : Nat) (r s : RowF), p.rows[i]? = some r → q.rows[i]? = some s → r.s = s.s ∧ SameL r.a s.a ∧ SameL [r.b] [s.b]
set_option maxHeartbeats 32000000 in
set_option maxRecDepth 100000 in
theorem sameProg_calls (w : World) (v v2 : Value) (p q : ProgF) (h : PR w v p) (h2 : PR w v2 q) (hs : SameP p q) (hlf : p.free.length ≤ 1000000) (hlg : p.goal.length ≤ 1000000) (hlr : p.rows.length ≤ 1000000) (hla : ∀ r ∈ p.rows, r.a.length ≤ 1000000) : Calls Try.prog 18 #[v, v2] w fun e w' => BPost w true e w' := by
  obtain ⟨A1, c1, A2, c2, A3, c3, rfl, HI, H1, H2, H3⟩ := h.opened
  obtain ⟨B1, d1, B2, d2, B3, d3, rfl, GI, G1, G2, G3⟩ := h2.opened
  have HS0 := Lib.hid hs
  have HLA := Lib.hid hla
  clear h h2 hla
  rw [← hs.vars, ← hs.free, ← hs.len]
  rw [← hs.free] at G1
  rw [← hs.len] at G3
  obtain ⟨vars, hv⟩ : ∃ n, n = p.vars := ⟨_, rfl⟩
  rw [← hv]
  clear hv hs
  go_enter Try.func18, Try.ntmps18
  have u0 : (vars != vars) = false := by simp
  have u1 : ((p.free.length : Int) != (p.free.length : Int)) = false := beqI rfl
  have u2 : ((p.rows.length : Int) != (p.rows.length : Int)) = false := beqI rfl
  go_wp2_with fail
  have H0 := Lib.hid (HS.two (w := w) #[.int .i64 vars, .slice A1 p.free.length c1, .slice A2 p.goal.length c2, .slice A3 p.rows.length c3] #[.int .i64 vars, .slice B1 p.free.length d1, .slice B2 q.goal.length d2, .slice B3 p.rows.length d3] 26 26)
  generalize (w.alloc (.cells #[.int .i64 vars, .slice A1 p.free.length c1, .slice A2 p.goal.length c2, .slice A3 p.rows.length c3] 26)).alloc (.cells #[.int .i64 vars, .slice B1 p.free.length d1, .slice B2 q.goal.length d2, .slice B3 p.rows.length d3] 26) = W0 at *
  refine (sameList_calls W0 _ _ p.goal q.goal (H2.out.below EF.stays H0.out.2) (G2.out.below EF.stays H0.out.2) hlg HS0.out.goal).mono ?_
  rintro e w1 ⟨rfl, hb⟩
  have K1 := Lib.hid (H0.out.step hb)
  obtain ⟨x0, x1, x2, x3⟩ := K1.out.c4 1 rfl
  obtain ⟨y0, y1, y2, y3⟩ := K1.out.c4 0 rfl
  clear hb
  go_wp2_with fail
  clear x0 x1 x2 x3 y0 y1 y2 y3
  go_loopw [43] (fun vi wr => ∃ i : Nat, i ≤ p.free.length ∧ vi = .int .i64 (i : Int) ∧ HS w [(w.heap.size + 1, 26, #[.int .i64 vars, .slice B1 p.free.length d1, .slice B2 q.goal.length d2, .slice B3 p.rows.length d3]), (w.heap.size, 26, #[.int .i64 vars, .slice A1 p.free.length c1, .slice A2 p.goal.length c2, .slice A3 p.rows.length c3])] wr) (fun vi _ => p.free.length - (intOf vi).toNat)
  case atStart => exact ⟨0, Nat.zero_le _, rfl, K1.out⟩
  case round =>
    obtain ⟨i, hi, rfl, hk⟩ := hrel
    have HK := Lib.hid hk
    clear hk
    obtain ⟨x0, x1, x2, x3⟩ := HK.out.c4 1 rfl
    obtain ⟨y0, y1, y2, y3⟩ := HK.out.c4 0 rfl
    by_cases hlt : i < p.free.length
    · obtain ⟨b, hbf⟩ : ∃ b, p.free[i]? = some b := ⟨p.free[i], List.getElem?_eq_getElem hlt⟩
      obtain ⟨g1, o1, rfl, hg1, kb⟩ := BL.at1 (H1.out.below EB.stays HK.out.2) hbf
      obtain ⟨g2, o2, rfl, hg2, kb2⟩ := BL.at1 (G1.out.below EB.stays HK.out.2) hbf
      have m1 : (i : Int) < (p.free.length : Int) := by omega
      have m3 : (i : Int).toNat = i := by omega
      have m4 : (0 : Int) ≤ (i : Int) := by omega
      have u3 : (b != b) = false := by simp
      clear hbf
      go_wp2_with fail
      go_roundw
      case rel => exact ⟨i + 1, by omega, by go_num, HK.out⟩
      case measure => simp [intOf]; omega
    · obtain rfl : i = p.free.length := by omega
      obtain ⟨wo, hwo⟩ : ∃ wo, wo = wr := ⟨_, rfl⟩
      rw [← hwo] at HK x0 x1 x2 x3 y0 y1 y2 y3 ⊢
      clear hwo K1 H0
      go_wp2_with fail
      clear x0 x1 x2 x3 y0 y1 y2 y3
      go_loopw [59] (fun vi wr => ∃ i : Nat, i ≤ p.rows.length ∧ vi = .int .i64 (i : Int) ∧ HS w [(w.heap.size + 1, 26, #[.int .i64 vars, .slice B1 p.free.length d1, .slice B2 q.goal.length d2, .slice B3 p.rows.length d3]), (w.heap.size, 26, #[.int .i64 vars, .slice A1 p.free.length c1, .slice A2 p.goal.length c2, .slice A3 p.rows.length c3])] wr) (fun vi _ => p.rows.length - (intOf vi).toNat)
      case atStart => exact ⟨0, Nat.zero_le _, rfl, HK.out⟩
      case round =>
        obtain ⟨i, hi, rfl, hk⟩ := hrel
        have HK2 := Lib.hid hk
        clear hk HK
        by_cases hlt : i < p.rows.length
        · obtain ⟨r, hr⟩ : ∃ r, p.rows[i]? = some r := ⟨p.rows[i], List.getElem?_eq_getElem hlt⟩
          obtain ⟨t, ht⟩ : ∃ r, q.rows[i]? = some r := ⟨q.rows[i]'(by rw [← HS0.out.len]; exact hlt), List.getElem?_eq_getElem _⟩
          have hsr := HS0.out.rows i r t hr ht
          have HSA := Lib.hid hsr.2.1
          have HSB := Lib.hid hsr.2.2
          have hra := HLA.out r (List.mem_of_getElem? hr)
          obtain ⟨g1, o1, C1, e1, C2, n2, e2, C3, n3, e3, rfl, hg, k0, k1, k2, k3, k4, _, HRA, HRB⟩ := RL.at5 (H3.out.below ER.stays HK2.out.2) hr
          obtain ⟨g2, o2, D1, f1, D2, m2, f2, D3, m3', f3, rfl, hg2, j0, j1, j2, j3, j4, _, HTA, HTB⟩ := RL.at5 (G3.out.below ER.stays HK2.out.2) ht
          rw [← hsr.1] at j1
          obtain ⟨s, hs⟩ : ∃ s, s = r.s := ⟨_, rfl⟩
          rw [← hs] at k1 j1
          have m1 : (i : Int) < (p.rows.length : Int) := by omega
          have m3 : (i : Int).toNat = i := by omega
          have m4 : (0 : Int) ≤ (i : Int) := by omega
          have u3 : (s != s) = false := by simp
          clear hr ht hs hsr
          go_wp2_with fail
          have HB1 := Lib.hid (below_new wr (.cells #[.slice C1 r.a.length e1, .int .i64 s, .bool r.b.neg, .slice C2 n2 e2, .slice C3 n3 e3] 65))
          have HKB1 := Lib.hid (Blk.new wr 65 #[.slice C1 r.a.length e1, .int .i64 s, .bool r.b.neg, .slice C2 n2 e2, .slice C3 n3 e3])
          obtain ⟨gr, hgr⟩ : ∃ gr, gr = wr.heap.size := ⟨_, rfl⟩
          rw [← hgr] at HKB1
          have hg2' : g2 < (wr.alloc (.cells #[.slice C1 r.a.length e1, .int .i64 s, .bool r.b.neg, .slice C2 n2 e2, .slice C3 n3 e3] 65)).heap.size := Nat.lt_of_lt_of_le hg2 HB1.out.size
          have j0' := ((bcell HB1.out).1 g2 _ hg2).trans j0
          have j1' := ((bcell HB1.out).1 g2 _ hg2).trans j1
          have j2' := ((bcell HB1.out).1 g2 _ hg2).trans j2
          have j3' := ((bcell HB1.out).1 g2 _ hg2).trans j3
          have j4' := ((bcell HB1.out).1 g2 _ hg2).trans j4
          generalize wr.alloc (.cells #[.slice C1 r.a.length e1, .int .i64 s, .bool r.b.neg, .slice C2 n2 e2, .slice C3 n3 e3] 65) = W1 at *
          rw [← hgr]
          clear hgr k0 k1 k2 k3 k4 j0 j1 j2 j3 j4
          have z0 := HKB1.out.cell (j := 0) rfl
          have z1 := HKB1.out.cell (j := 1) rfl
          have z2 := HKB1.out.cell (j := 2) rfl
          have z3 := HKB1.out.cell (j := 3) rfl
          have z4 := HKB1.out.cell (j := 4) rfl
          have hzl := HKB1.out.lt
          have HK3 := Lib.hid (HK2.out.step HB1.out)
          obtain ⟨y0, y1, y2, y3⟩ := HK3.out.c4 0 rfl
          have hly := (HK3.out.blk 0 rfl).lt
          have HRA1 := Lib.hid (HRA.out.below EF.stays HB1.out)
          have HTA1 := Lib.hid (HTA.out.below EF.stays HB1.out)
          have HRB1 := Lib.hid (HRB.out.of_below HB1.out)
          have HTB1 := Lib.hid (HTB.out.of_below HB1.out)
          refine wp_tree (l := [_, _, _, _, _, _, _, _, _, _, _, _, _, _, _, _, _, _, _, _, _, _, _, _, _, _, _, _, _, _, _, _, _, _, _]) (S := Below W1.heap.size W1) 35 (.one [0, 1, 2, 3, 4, 5, 6, 7, 8, 9, 10, 11, 12, 13, 14, 15, 16, 17] 18 (.two [19, 20, 21, 22, 23, 25, 26, 27, 28, 29, 30] 24 (.one [] 31 (.one [] 32 (.fin [33, 34]))) 31 (.one [] 24 (.one [] 32 (.fin [33, 34]))))) (by kernel_rfl) (by kernel_rfl) (by kernel_rfl) rfl (Below.drew (Below.refl _ _)) ?_
          refine ⟨?_, _, ?_, rfl, ?_⟩
          rotate_left
          · ((refine ⟨_, ?_, rfl, Or.inl ⟨by rfl, ?_⟩, ?_⟩; rotate_left; focus (intro W hW; have hcW := (bcell hW).1; clear hW; go_simp; try with_reducible rfl)); (try simp only [Act.put, List.getElem_toArray, List.getElem_cons_succ, List.getElem_cons_zero, List.setIfInBounds_toArray, List.set_cons_zero, List.set_cons_succ])); ((refine ⟨_, ?_, rfl, Or.inl ⟨by rfl, ?_⟩, ?_⟩; rotate_left; focus (intro W hW; have hcW := (bcell hW).1; clear hW; go_simp; try with_reducible rfl)); (try simp only [Act.put, List.getElem_toArray, List.getElem_cons_succ, List.getElem_cons_zero, List.setIfInBounds_toArray, List.set_cons_zero, List.set_cons_succ])); ((refine ⟨_, ?_, rfl, Or.inl ⟨by rfl, ?_⟩, ?_⟩; rotate_left; focus (intro W hW; have hcW := (bcell hW).1; clear hW; go_simp; try with_reducible rfl)); (try simp only [Act.put, List.getElem_toArray, List.getElem_cons_succ, List.getElem_cons_zero, List.setIfInBounds_toArray, List.set_cons_zero, List.set_cons_succ])); ((refine ⟨_, ?_, rfl, Or.inl ⟨by rfl, ?_⟩, ?_⟩; rotate_left; focus (intro W hW; have hcW := (bcell hW).1; clear hW; go_simp; try with_reducible rfl)); (try simp only [Act.put, List.getElem_toArray, List.getElem_cons_succ, List.getElem_cons_zero, List.setIfInBounds_toArray, List.set_cons_zero, List.set_cons_succ])); ((refine ⟨_, ?_, rfl, Or.inl ⟨by rfl, ?_⟩, ?_⟩; rotate_left; focus (intro W hW; have hcW := (bcell hW).1; clear hW; go_simp; try with_reducible rfl)); (try simp only [Act.put, List.getElem_toArray, List.getElem_cons_succ, List.getElem_cons_zero, List.setIfInBounds_toArray, List.set_cons_zero, List.set_cons_succ])); ((refine ⟨_, ?_, rfl, Or.inl ⟨by rfl, ?_⟩, ?_⟩; rotate_left; focus (intro W hW; have hcW := (bcell hW).1; clear hW; go_simp; try with_reducible rfl)); (try simp only [Act.put, List.getElem_toArray, List.getElem_cons_succ, List.getElem_cons_zero, List.setIfInBounds_toArray, List.set_cons_zero, List.set_cons_succ])); ((refine ⟨_, ?_, rfl, Or.inl ⟨by rfl, ?_⟩, ?_⟩; rotate_left; focus (intro W hW; have hcW := (bcell hW).1; clear hW; go_simp; try with_reducible rfl)); (try simp only [Act.put, List.getElem_toArray, List.getElem_cons_succ, List.getElem_cons_zero, List.setIfInBounds_toArray, List.set_cons_zero, List.set_cons_succ])); ((refine ⟨_, ?_, rfl, Or.inl ⟨by rfl, ?_⟩, ?_⟩; rotate_left; focus (intro W hW; have hcW := (bcell hW).1; clear hW; go_simp; try with_reducible rfl)); (try simp only [Act.put, List.getElem_toArray, List.getElem_cons_succ, List.getElem_cons_zero, List.setIfInBounds_toArray, List.set_cons_zero, List.set_cons_succ])); ((refine ⟨_, ?_, rfl, Or.inl ⟨by rfl, ?_⟩, ?_⟩; rotate_left; focus (intro W hW; have hcW := (bcell hW).1; clear hW; go_simp; try with_reducible rfl)); (try simp only [Act.put, List.getElem_toArray, List.getElem_cons_succ, List.getElem_cons_zero, List.setIfInBounds_toArray, List.set_cons_zero, List.set_cons_succ])); ((refine ⟨_, ?_, rfl, Or.inl ⟨by rfl, ?_⟩, ?_⟩; rotate_left; focus (intro W hW; have hcW := (bcell hW).1; clear hW; go_simp; try with_reducible rfl)); (try simp only [Act.put, List.getElem_toArray, List.getElem_cons_succ, List.getElem_cons_zero, List.setIfInBounds_toArray, List.set_cons_zero, List.set_cons_succ])); ((refine ⟨_, ?_, rfl, Or.inl ⟨by rfl, ?_⟩, ?_⟩; rotate_left; focus (intro W hW; have hcW := (bcell hW).1; clear hW; go_simp; try with_reducible rfl)); (try simp only [Act.put, List.getElem_toArray, List.getElem_cons_succ, List.getElem_cons_zero, List.setIfInBounds_toArray, List.set_cons_zero, List.set_cons_succ])); ((refine ⟨_, ?_, rfl, Or.inl ⟨by rfl, ?_⟩, ?_⟩; rotate_left; focus (intro W hW; have hcW := (bcell hW).1; clear hW; go_simp; try with_reducible rfl)); (try simp only [Act.put, List.getElem_toArray, List.getElem_cons_succ, List.getElem_cons_zero, List.setIfInBounds_toArray, List.set_cons_zero, List.set_cons_succ])); ((refine ⟨_, ?_, rfl, Or.inl ⟨by rfl, ?_⟩, ?_⟩; rotate_left; focus (intro W hW; have hcW := (bcell hW).1; clear hW; go_simp; try with_reducible rfl)); (try simp only [Act.put, List.getElem_toArray, List.getElem_cons_succ, List.getElem_cons_zero, List.setIfInBounds_toArray, List.set_cons_zero, List.set_cons_succ])); ((refine ⟨_, ?_, rfl, Or.inl ⟨by rfl, ?_⟩, ?_⟩; rotate_left; focus (intro W hW; have hcW := (bcell hW).1; clear hW; go_simp; try with_reducible rfl)); (try simp only [Act.put, List.getElem_toArray, List.getElem_cons_succ, List.getElem_cons_zero, List.setIfInBounds_toArray, List.set_cons_zero, List.set_cons_succ])); ((refine ⟨_, ?_, rfl, Or.inl ⟨by rfl, ?_⟩, ?_⟩; rotate_left; focus (intro W hW; have hcW := (bcell hW).1; clear hW; go_simp; try with_reducible rfl)); (try simp only [Act.put, List.getElem_toArray, List.getElem_cons_succ, List.getElem_cons_zero, List.setIfInBounds_toArray, List.set_cons_zero, List.set_cons_succ])); ((refine ⟨_, ?_, rfl, Or.inl ⟨by rfl, ?_⟩, ?_⟩; rotate_left; focus (intro W hW; have hcW := (bcell hW).1; clear hW; go_simp; try with_reducible rfl)); (try simp only [Act.put, List.getElem_toArray, List.getElem_cons_succ, List.getElem_cons_zero, List.setIfInBounds_toArray, List.set_cons_zero, List.set_cons_succ])); ((refine ⟨_, ?_, rfl, Or.inl ⟨by rfl, ?_⟩, ?_⟩; rotate_left; focus (intro W hW; have hcW := (bcell hW).1; clear hW; go_simp; try with_reducible rfl)); (try simp only [Act.put, List.getElem_toArray, List.getElem_cons_succ, List.getElem_cons_zero, List.setIfInBounds_toArray, List.set_cons_zero, List.set_cons_succ])); ((refine ⟨_, ?_, rfl, Or.inl ⟨by rfl, ?_⟩, ?_⟩; rotate_left; focus (intro W hW; have hcW := (bcell hW).1; clear hW; go_simp; try with_reducible rfl)); (try simp only [Act.put, List.getElem_toArray, List.getElem_cons_succ, List.getElem_cons_zero, List.setIfInBounds_toArray, List.set_cons_zero, List.set_cons_succ]))
            exact rfl
          have E0 : Hid (Below W1.heap.size W1 W1.drew) := Below.drew (Below.refl _ _)
          go_wp2_with fail
          refine (sameList_calls _ _ _ r.a t.a (HRA1.out.below EF.stays E0.out) (HTA1.out.below EF.stays E0.out) hra HSA.out).mono ?_
          rintro e w2 ⟨rfl, hb⟩
          have E2 := Lib.hid (below_next E0.out hb)
          clear hb
          go_wp2_with fail
          refine And.intro E2.out ⟨?_, _, _, ?_, rfl, rfl, ?_, ?_⟩
          rotate_left
          · ((refine ⟨_, ?_, rfl, Or.inl ⟨by rfl, ?_⟩, ?_⟩; rotate_left; focus (intro W hW; have hcW := (bcell hW).1; clear hW; go_simp; try with_reducible rfl)); (try simp only [Act.put, List.getElem_toArray, List.getElem_cons_succ, List.getElem_cons_zero, List.setIfInBounds_toArray, List.set_cons_zero, List.set_cons_succ])); ((refine ⟨_, ?_, rfl, Or.inl ⟨by rfl, ?_⟩, ?_⟩; rotate_left; focus (intro W hW; have hcW := (bcell hW).1; clear hW; go_simp; try with_reducible rfl)); (try simp only [Act.put, List.getElem_toArray, List.getElem_cons_succ, List.getElem_cons_zero, List.setIfInBounds_toArray, List.set_cons_zero, List.set_cons_succ])); ((refine ⟨_, ?_, rfl, Or.inl ⟨by rfl, ?_⟩, ?_⟩; rotate_left; focus (intro W hW; have hcW := (bcell hW).1; clear hW; go_simp; try with_reducible rfl)); (try simp only [Act.put, List.getElem_toArray, List.getElem_cons_succ, List.getElem_cons_zero, List.setIfInBounds_toArray, List.set_cons_zero, List.set_cons_succ])); ((refine ⟨_, ?_, rfl, Or.inl ⟨by rfl, ?_⟩, ?_⟩; rotate_left; focus (intro W hW; have hcW := (bcell hW).1; clear hW; go_simp; try with_reducible rfl)); (try simp only [Act.put, List.getElem_toArray, List.getElem_cons_succ, List.getElem_cons_zero, List.setIfInBounds_toArray, List.set_cons_zero, List.set_cons_succ])); ((refine ⟨_, ?_, rfl, Or.inl ⟨by rfl, ?_⟩, ?_⟩; rotate_left; focus (intro W hW; have hcW := (bcell hW).1; clear hW; go_simp; try with_reducible rfl)); (try simp only [Act.put, List.getElem_toArray, List.getElem_cons_succ, List.getElem_cons_zero, List.setIfInBounds_toArray, List.set_cons_zero, List.set_cons_succ])); ((refine ⟨_, ?_, rfl, Or.inl ⟨by rfl, ?_⟩, ?_⟩; rotate_left; focus (intro W hW; have hcW := (bcell hW).1; clear hW; go_simp; try with_reducible rfl)); (try simp only [Act.put, List.getElem_toArray, List.getElem_cons_succ, List.getElem_cons_zero, List.setIfInBounds_toArray, List.set_cons_zero, List.set_cons_succ])); ((refine ⟨_, ?_, rfl, Or.inl ⟨by rfl, ?_⟩, ?_⟩; rotate_left; focus (intro W hW; have hcW := (bcell hW).1; clear hW; go_simp; try with_reducible rfl)); (try simp only [Act.put, List.getElem_toArray, List.getElem_cons_succ, List.getElem_cons_zero, List.setIfInBounds_toArray, List.set_cons_zero, List.set_cons_succ])); ((refine ⟨_, ?_, rfl, Or.inl ⟨by rfl, ?_⟩, ?_⟩; rotate_left; focus (intro W hW; have hcW := (bcell hW).1; clear hW; go_simp; try with_reducible rfl)); (try simp only [Act.put, List.getElem_toArray, List.getElem_cons_succ, List.getElem_cons_zero, List.setIfInBounds_toArray, List.set_cons_zero, List.set_cons_succ])); ((refine ⟨_, ?_, rfl, Or.inl ⟨by rfl, ?_⟩, ?_⟩; rotate_left; focus (intro W hW; have hcW := (bcell hW).1; clear hW; go_simp; try with_reducible rfl)); (try simp only [Act.put, List.getElem_toArray, List.getElem_cons_succ, List.getElem_cons_zero, List.setIfInBounds_toArray, List.set_cons_zero, List.set_cons_succ])); ((refine ⟨_, ?_, rfl, Or.inl ⟨by rfl, ?_⟩, ?_⟩; rotate_left; focus (intro W hW; have hcW := (bcell hW).1; clear hW; go_simp; try with_reducible rfl)); (try simp only [Act.put, List.getElem_toArray, List.getElem_cons_succ, List.getElem_cons_zero, List.setIfInBounds_toArray, List.set_cons_zero, List.set_cons_succ])); ((refine ⟨_, ?_, rfl, Or.inl ⟨by rfl, ?_⟩, ?_⟩; rotate_left; focus (intro W hW; have hcW := (bcell hW).1; clear hW; go_simp; try with_reducible rfl)); (try simp only [Act.put, List.getElem_toArray, List.getElem_cons_succ, List.getElem_cons_zero, List.setIfInBounds_toArray, List.set_cons_zero, List.set_cons_succ]))
            exact rfl
          · go_wp2_with fail
            have hb2 := below_new w2 (.cells #[.bool r.b.neg, .slice C2 n2 e2, .slice C3 n3 e3] 40)
            have HO1 := Lib.hid (FL.one (HRB1.out.of_below E2.out) 40)
            have E3 := Lib.hid (below_next E2.out hb2)
            clear hb2
            refine And.intro E3.out ⟨_, _, rfl, rfl, ?_⟩
            obtain ⟨w3, hw3⟩ : ∃ x, x = w2.alloc (.cells #[.bool r.b.neg, .slice C2 n2 e2, .slice C3 n3 e3] 40) := ⟨_, rfl⟩
            rw [← hw3] at E3 HO1 ⊢
            simp only [Act.put, List.getElem_toArray, List.getElem_cons_succ, List.getElem_cons_zero, List.setIfInBounds_toArray, List.set_cons_zero, List.set_cons_succ]
            clear hw3
            go_wp2_with fail
            have hb3 := below_new w3 (.cells #[.bool t.b.neg, .slice D2 m2 f2, .slice D3 m3' f3] 40)
            have HO2 := Lib.hid (FL.one (HTB1.out.of_below E3.out) 40)
            have HO1' := Lib.hid (HO1.out.below EF.stays hb3)
            have E4 := Lib.hid (below_next E3.out hb3)
            clear hb3
            refine And.intro E4.out ⟨_, _, rfl, rfl, ?_⟩
            go_wp2_with fail
            refine (sameList_calls _ _ _ [r.b] [t.b] HO1'.out HO2.out (by simp) HSB.out).mono ?_
            rintro e w5 ⟨rfl, hb⟩
            have E5 := Lib.hid (below_next E4.out hb)
            clear hb
            go_wp2_with fail
            refine And.intro E5.out ⟨?_, ?_, ?_⟩
            rotate_left
            · ((refine ⟨_, ?_, rfl, Or.inl ⟨by rfl, ?_⟩, ?_⟩; rotate_left; focus (intro W hW; have hcW := (bcell hW).1; clear hW; go_simp; try with_reducible rfl)); (try simp only [Act.put, List.getElem_toArray, List.getElem_cons_succ, List.getElem_cons_zero, List.setIfInBounds_toArray, List.set_cons_zero, List.set_cons_succ])); ((refine ⟨_, ?_, rfl, Or.inl ⟨by rfl, ?_⟩, ?_⟩; rotate_left; focus (intro W hW; have hcW := (bcell hW).1; clear hW; go_simp; try with_reducible rfl)); (try simp only [Act.put, List.getElem_toArray, List.getElem_cons_succ, List.getElem_cons_zero, List.setIfInBounds_toArray, List.set_cons_zero, List.set_cons_succ]))
              exact rfl
            simp only [List.drop_succ_cons, List.drop_zero, List.drop_nil]
            go_wp2_with fail
            refine NoPanic.normal ?_
            go_wp2_with fail
            go_roundw
            case rel => exact ⟨i + 1, by omega, by go_num, HK3.out.step E5.out⟩
            case measure => simp [intOf]; omega
          · go_wp2_with fail
            have hb2 := below_new w2 (.cells #[.bool t.b.neg, .slice D2 m2 f2, .slice D3 m3' f3] 40)
            have HO1 := Lib.hid (FL.one (HTB1.out.of_below E2.out) 40)
            have E3 := Lib.hid (below_next E2.out hb2)
            clear hb2
            refine And.intro E3.out ⟨_, _, rfl, rfl, ?_⟩
            obtain ⟨w3, hw3⟩ : ∃ x, x = w2.alloc (.cells #[.bool t.b.neg, .slice D2 m2 f2, .slice D3 m3' f3] 40) := ⟨_, rfl⟩
            rw [← hw3] at E3 HO1 ⊢
            simp only [Act.put, List.getElem_toArray, List.getElem_cons_succ, List.getElem_cons_zero, List.setIfInBounds_toArray, List.set_cons_zero, List.set_cons_succ]
            clear hw3
            go_wp2_with fail
            have hb3 := below_new w3 (.cells #[.bool r.b.neg, .slice C2 n2 e2, .slice C3 n3 e3] 40)
            have HO2 := Lib.hid (FL.one (HRB1.out.of_below E3.out) 40)
            have HO1' := Lib.hid (HO1.out.below EF.stays hb3)
            have E4 := Lib.hid (below_next E3.out hb3)
            clear hb3
            refine And.intro E4.out ⟨_, _, rfl, rfl, ?_⟩
            go_wp2_with fail
            refine (sameList_calls _ _ _ [r.b] [t.b] HO2.out HO1'.out (by simp) HSB.out).mono ?_
            rintro e w5 ⟨rfl, hb⟩
            have E5 := Lib.hid (below_next E4.out hb)
            clear hb
            go_wp2_with fail
            refine And.intro E5.out ⟨?_, ?_, ?_⟩
            rotate_left
            · ((refine ⟨_, ?_, rfl, Or.inl ⟨by rfl, ?_⟩, ?_⟩; rotate_left; focus (intro W hW; have hcW := (bcell hW).1; clear hW; go_simp; try with_reducible rfl)); (try simp only [Act.put, List.getElem_toArray, List.getElem_cons_succ, List.getElem_cons_zero, List.setIfInBounds_toArray, List.set_cons_zero, List.set_cons_succ])); ((refine ⟨_, ?_, rfl, Or.inl ⟨by rfl, ?_⟩, ?_⟩; rotate_left; focus (intro W hW; have hcW := (bcell hW).1; clear hW; go_simp; try with_reducible rfl)); (try simp only [Act.put, List.getElem_toArray, List.getElem_cons_succ, List.getElem_cons_zero, List.setIfInBounds_toArray, List.set_cons_zero, List.set_cons_succ]))
              exact rfl
            simp only [List.drop_succ_cons, List.drop_zero, List.drop_nil]
            go_wp2_with fail
            refine NoPanic.normal ?_
            go_wp2_with fail
            go_roundw
            case rel => exact ⟨i + 1, by omega, by go_num, HK3.out.step E5.out⟩
            case measure => simp [intOf]; omega
        · obtain rfl : i = p.rows.length := by omega
          go_wp2_with fail
          go_ret
          exact ⟨rfl, HK2.out.2⟩
end Go.Proofs.Ytfhambfgjigneaa
set_option linter.unusedVariables false
set_option linter.unusedSimpArgs false
namespace Go.Proofs.Ytfhambfgjigneaa
open Go.RowKit
def rawR (r : RowQ) : RowF := ⟨r.a.map rawQ, r.s, rawQ r.b⟩
def rawP (p : ProgQ) : ProgF := ⟨p.vars, p.free, p.goal.map rawQ, p.rows.map rawR⟩
theorem ERO.er {base : Nat} {w : World} {vs : Array Value} {r : RowQ} (h : ERO base w vs r) (hs : SmallR r) : ER w vs (rawR r) := by
  obtain ⟨v, A1, n1, c1, A2, n2, c2, rfl, hi, hq, hf⟩ := h
  exact ⟨v, A1, n1, c1, A2, n2, c2, rfl, hi, QO.fl hq hs.1, FR.of_fq hf hs.2⟩
theorem PO.pr {base : Nat} {w : World} {v : Value} {p : ProgQ} (h : PO base w v p) (hs : SmallP p) : PR w v (rawP p) := by
  obtain ⟨v1, v2, v3, rfl, hi, hf, hg, hr⟩ := h
  exact ⟨v1, v2, v3, rfl, hi, hf.1, QO.fl hg hs.1, SL.mapE rawR (OL.sl hr) fun vs r hm he => ERO.er he (hs.2 r hm)⟩
theorem fix_raws {qs : List Rat} (hs : ∀ q ∈ qs, Small q) : (qs.map rawQ).map fixQ = qs := by
  rw [List.map_map]
  calc qs.map (fixQ ∘ rawQ) = qs.map id := List.map_congr_left fun q hq => fixQ_raw q (hs q hq)
    _ = qs := by simp
theorem clean_raw {p : ProgQ} (hs : SmallP p) : cleanQ (rawP p) = p := by
  obtain ⟨vars, free, goal, rows⟩ := p
  have h1 := fix_raws hs.1
  have h2 : (rows.map rawR).map cleanR = rows := by
    rw [List.map_map]
    calc rows.map (cleanR ∘ rawR) = rows.map id := List.map_congr_left fun r hr => by
            obtain ⟨a, s, b⟩ := r
            have := hs.2 _ hr
            show RowQ.mk ((a.map rawQ).map fixQ) s (fixQ (rawQ b)) = _
            rw [fix_raws this.1, fixQ_raw b this.2]
            rfl
      _ = rows := by simp
  show ProgQ.mk vars free ((goal.map rawQ).map fixQ) ((rows.map rawR).map cleanR) = _
  rw [h1, h2]
theorem sameL_raw {qs : List Rat} (hs : ∀ q ∈ qs, Small q) : SameL (qs.map rawQ) (qs.map rawQ) := by
  refine ⟨rfl, fun i f g hf hg => ?_⟩
  rw [hf] at hg
  injection hg with hg
  subst hg
  obtain ⟨q, hq, rfl⟩ := List.mem_map.1 (List.mem_of_getElem? hf)
  exact ⟨rfl, q, hs q hq, rfl⟩
theorem sameP_raw {p : ProgQ} (hs : SmallP p) : SameP (rawP p) (rawP p) := by
  refine ⟨rfl, rfl, sameL_raw hs.1, rfl, fun i r s hr hs' => ?_⟩
  rw [hr] at hs'
  injection hs' with hs'
  subst hs'
  obtain ⟨q, hq, rfl⟩ := List.mem_map.1 (List.mem_of_getElem? hr)
  have h := hs.2 q hq
  have h1 := sameL_raw (qs := [q.b]) (by simpa using h.2)
  exact ⟨rfl, sameL_raw h.1, h1⟩
/-- No list of a program is long. -/
structure LenP (p : ProgQ) : Prop where
  free : p.free.length ≤ 1000
  goal : p.goal.length ≤ 1000
  rows : p.rows.length ≤ 1000
  a : ∀ r ∈ p.rows, r.a.length ≤ 1000
theorem len_zero : LenP zeroP := ⟨by simp [zeroP], by simp [zeroP], by simp [zeroP], by simp [zeroP]⟩
theorem small_zero : SmallP zeroP := ⟨by intro q h; simp [zeroP] at h, by intro r h; simp [zeroP] at h⟩
theorem DualN.len {n : ProgQ} {k m : Nat} (h : DualN n k m) : LenP n :=
  ⟨by rw [h.free]; have := h.k1; omega, by rw [h.goal]; have := h.k1; omega, by rw [h.rows]; have := h.m1; omega, fun r hr => by rw [h.a r hr]; have := h.k1; omega⟩
theorem len_normal (p : ProgF) : LenP (normalR p) := by
  by_cases h : rightP p = 0
  · exact (dual_n h).len
  · unfold normalR; rw [if_neg h]; exact len_zero
theorem len_dualQ {n : ProgQ} (h : LenP n) : LenP (dualQ n) := by
  refine ⟨by show (n.rows.map _).length ≤ _; rw [List.length_map]; exact h.rows, by show (n.rows.map _).length ≤ _; rw [List.length_map]; exact h.rows, by show ((List.range n.goal.length).map _).length ≤ _; rw [List.length_map, List.length_range]; exact h.goal, fun r hr => ?_⟩
  obtain ⟨v, _, rfl⟩ := List.mem_map.1 hr
  show (n.rows.map _).length ≤ _
  rw [List.length_map]
  exact h.rows
theorem len_dual (p : ProgF) : LenP (dualP p) := by
  unfold dualP
  split
  · exact len_dualQ (len_normal p)
  · exact len_zero
theorem getD_small {l : List Rat} (h : ∀ q ∈ l, Small q) (v : Nat) : Small (l.getD v 0) := by
  rw [List.getD_eq_getElem?_getD]
  cases e : l[v]? with
  | none => show sizeQ 0 ≤ 4096; rw [sizeQ_zero]; decide
  | some q => exact h q (List.mem_of_getElem? e)
theorem small_dualQ {n : ProgQ} (h : SmallP n) : SmallP (dualQ n) := by
  refine ⟨fun q hq => ?_, fun r hr => ?_⟩
  · obtain ⟨r, hr, rfl⟩ := List.mem_map.1 hq
    exact small_neg (h.2 r hr).2
  · obtain ⟨v, _, rfl⟩ := List.mem_map.1 hr
    refine ⟨fun q hq => ?_, small_neg (getD_small h.1 v)⟩
    obtain ⟨r, hr, rfl⟩ := List.mem_map.1 hq
    exact small_neg (getD_small (h.2 r hr).1 v)
theorem small_dual (p : ProgF) : SmallP (dualP p) := by
  unfold dualP
  split
  · exact small_dualQ (small_normal p)
  · exact small_zero
theorem small_one : Small 1 := by unfold Small sizeQ; decide +kernel
theorem small_nil : Small 0 := by unfold Small; rw [sizeQ_zero]; decide
theorem small_unit (n : Nat) (v s b : Int) (hb : b = 0 ∨ b = 1) : SmallR (unitQ n v s b) := by
  refine ⟨fun q hq => ?_, ?_⟩
  · obtain ⟨i, _, rfl⟩ := List.mem_map.1 hq
    split
    · exact small_one
    · exact small_nil
  · rcases hb with rfl | rfl
    · exact small_nil
    · exact small_one
theorem bits_of {p : ProgF} {xs bs : List Int} (h : fixCode p xs bs = 0) : rightP p = 0 ∧ bitsB bs = true ∧ p.rows.length + xs.length ≤ 400 := by
  unfold fixCode at h
  by_cases h1 : rightP p ≠ 0
  · rw [if_pos h1] at h; exact absurd h h1
  · rw [if_neg h1] at h
    split at h
    · omega
    · cases hb : bitsB bs with
      | false => rw [hb] at h; simp at h
      | true =>
        rw [hb] at h
        simp only [Bool.true_eq_false, if_false] at h
        split at h
        · omega
        · exact ⟨by omega, rfl, by omega⟩
theorem small_fixed (p : ProgF) (xs bs : List Int) : SmallP (fixedP p xs bs) := by
  unfold fixedP
  split
  · rename_i h
    obtain ⟨_, hb, _⟩ := bits_of h
    refine ⟨(small_clean p).1, fun r hr => ?_⟩
    rcases List.mem_append.1 hr with hr | hr
    · exact (small_clean p).2 r hr
    · obtain ⟨y, hy, rfl⟩ := List.mem_map.1 hr
      refine small_unit _ _ _ _ ?_
      unfold bitsB at hb
      exact of_decide_eq_true (List.all_eq_true.1 hb y.2 (List.of_mem_zip hy).2)
  · exact small_zero
theorem len_fixed (p : ProgF) (xs bs : List Int) : LenP (fixedP p xs bs) := by
  unfold fixedP
  split
  · rename_i h
    obtain ⟨hr, _, hl⟩ := bits_of h
    obtain ⟨h1, h2, h3, h4, h5, h6⟩ := rightP_len hr
    refine ⟨by show p.free.length ≤ _; omega, by show (p.goal.map _).length ≤ _; rw [List.length_map]; omega, ?_, fun r hr' => ?_⟩
    · show (_ ++ _ : List RowQ).length ≤ _
      rw [List.length_append, List.length_map]
      unfold fixRows
      rw [List.length_map, List.length_zip]
      omega
    · rcases List.mem_append.1 hr' with hr' | hr'
      · obtain ⟨x, hx, rfl⟩ := List.mem_map.1 hr'
        have := (h6 x hx).1
        show (x.a.map _).length ≤ _
        rw [List.length_map]
        omega
      · obtain ⟨y, hy, rfl⟩ := List.mem_map.1 hr'
        show (unitL _ _).length ≤ _
        rw [unitL_length]
        omega
  · exact len_zero
theorem LenP.raw {p : ProgQ} (h : LenP p) : (rawP p).free.length ≤ 1000000 ∧ (rawP p).goal.length ≤ 1000000 ∧ (rawP p).rows.length ≤ 1000000 ∧ ∀ r ∈ (rawP p).rows, r.a.length ≤ 1000000 := by
  refine ⟨by have := h.free; show p.free.length ≤ _; omega, by have := h.goal; show (p.goal.map _).length ≤ _; rw [List.length_map]; omega, by have := h.rows; show (p.rows.map _).length ≤ _; rw [List.length_map]; omega, fun r hr => ?_⟩
  obtain ⟨q, hq, rfl⟩ := List.mem_map.1 hr
  have := h.a q hq
  show (q.a.map _).length ≤ _
  rw [List.length_map]
  omega
theorem norm_id {p : ProgQ} (h : ∀ r ∈ p.rows, r.s ≠ 1) : normQ p = p := by
  obtain ⟨vars, free, goal, rows⟩ := p
  have : rows.map normR = rows := by
    calc rows.map normR = rows.map id := List.map_congr_left fun r hr => by unfold normR; rw [if_neg (h r hr)]; rfl
      _ = rows := by simp
  show ProgQ.mk vars free goal (rows.map normR) = _
  rw [this]
theorem ext_getD {α : Type} {a b : List α} (hl : a.length = b.length) (h : ∀ (i : Nat) (x y : α), a[i]? = some x → b[i]? = some y → x = y) : a = b := by
  refine List.ext_getElem hl fun i h1 h2 => h i _ _ (List.getElem?_eq_getElem h1) (List.getElem?_eq_getElem h2)
theorem senses {p : ProgF} (h : rightP p = 0) : ∀ r ∈ (normalR p).rows, r.s = 0 ∨ r.s = -1 := by
  obtain ⟨_, _, _, _, _, h6⟩ := rightP_len h
  intro r hr
  unfold normalR at hr
  rw [if_pos h] at hr
  obtain ⟨x, hx, rfl⟩ := List.mem_map.1 hr
  obtain ⟨y, hy, rfl⟩ := List.mem_map.1 hx
  have := h6 y hy
  unfold normR
  split
  · right; rfl
  · rename_i hne
    have h7 : (cleanR y).s = y.s := rfl
    rw [h7] at hne ⊢
    omega
/-- The dual of a dual is the program again. -/
theorem dual_dual {n : ProgQ} {k m : Nat} (h : DualN n k m) (hs : ∀ r ∈ n.rows, r.s = 0 ∨ r.s = -1) : dualQ (dualQ n) = n := by
  obtain ⟨vars, free, goal, rows⟩ := n
  have hv : vars = (k : Int) := h.vars
  have hf : free.length = k := h.free
  have hg : goal.length = k := h.goal
  have hm : rows.length = m := h.rows
  have ha : ∀ r ∈ rows, r.a.length = k := h.a
  have e1 : (((List.range goal.length).map (dualRow ⟨vars, free, goal, rows⟩)).length : Int) = vars := by rw [List.length_map, List.length_range, hg, hv]
  have e2 : ((List.range goal.length).map (dualRow ⟨vars, free, goal, rows⟩)).map (fun r => r.s == 0) = free := by
    refine ext_getD (by simp [hg, hf]) fun i x y hx hy => ?_
    rw [List.map_map, List.getElem?_map, List.getElem?_range (by rw [hg, ← hf]; exact (List.getElem?_eq_some_iff.1 hy).1)] at hx
    have hx' : ((if free.getD i false = true then (0 : Int) else -1) == 0) = x := by simpa [dualRow] using hx
    rw [List.getD_eq_getElem?_getD, hy] at hx'
    rw [← hx']
    cases y <;> rfl
  have e3 : ((List.range goal.length).map (dualRow ⟨vars, free, goal, rows⟩)).map (fun r => -r.b) = goal := by
    refine ext_getD (by simp) fun i x y hx hy => ?_
    rw [List.map_map, List.getElem?_map, List.getElem?_range (List.getElem?_eq_some_iff.1 hy).1] at hx
    have hx' : -(-(goal.getD i 0)) = x := by simpa [dualRow] using hx
    rw [List.getD_eq_getElem?_getD, hy] at hx'
    rw [← hx']
    simp
  have e4 : (List.range (rows.map fun r => -r.b).length).map (dualRow (dualQ ⟨vars, free, goal, rows⟩)) = rows := by
    refine ext_getD (by simp) fun i x y hx hy => ?_
    have hil := (List.getElem?_eq_some_iff.1 hy).1
    rw [List.getElem?_map, List.getElem?_range (by rw [List.length_map]; exact hil)] at hx
    have hx' : dualRow (dualQ ⟨vars, free, goal, rows⟩) i = x := by simpa using hx
    rw [← hx']
    have hym := List.mem_of_getElem? hy
    obtain ⟨ya, ys, yb⟩ := y
    have hya : ya.length = k := ha _ hym
    have f1 : ((List.range goal.length).map (dualRow ⟨vars, free, goal, rows⟩)).map (fun r => -(r.a.getD i 0)) = ya := by
      refine ext_getD (by simp [hg, hya]) fun v p q hp hq => ?_
      rw [List.map_map, List.getElem?_map, List.getElem?_range (by rw [hg, ← hya]; exact (List.getElem?_eq_some_iff.1 hq).1)] at hp
      have hp' : -((rows.map fun r => -(r.a.getD v 0)).getD i 0) = p := by simpa [dualRow] using hp
      rw [List.getD_eq_getElem?_getD, List.getElem?_map, hy] at hp'
      have hp2 : -(-(ya.getD v 0)) = p := hp'
      rw [List.getD_eq_getElem?_getD, hq] at hp2
      rw [← hp2]
      simp
    have f2 : (if (rows.map fun r => r.s == 0).getD i false = true then (0 : Int) else -1) = ys := by
      rw [List.getD_eq_getElem?_getD, List.getElem?_map, hy]
      have h7 : ys = 0 ∨ ys = -1 := hs _ hym
      show (if (ys == 0) = true then (0 : Int) else -1) = ys
      rcases h7 with rfl | rfl <;> rfl
    have f3 : -((rows.map fun r => -r.b).getD i 0) = yb := by
      rw [List.getD_eq_getElem?_getD, List.getElem?_map, hy]
      show - -yb = yb
      simp
    show RowQ.mk (((List.range goal.length).map (dualRow ⟨vars, free, goal, rows⟩)).map fun r => -(r.a.getD i 0)) (if (rows.map fun r => r.s == 0).getD i false = true then (0 : Int) else -1) (-((rows.map fun r => -r.b).getD i 0)) = _
    rw [f1, f2, f3]
  show ProgQ.mk _ _ _ _ = _
  rw [show (dualQ (⟨vars, free, goal, rows⟩ : ProgQ)).rows = (List.range goal.length).map (dualRow ⟨vars, free, goal, rows⟩) from rfl, e1, e2, e3]
  rw [show (dualQ (⟨vars, free, goal, rows⟩ : ProgQ)).goal = rows.map fun r => -r.b from rfl, e4]
theorem dualCode_ok {p : ProgF} (h : dualCode p = 0) : rightP p = 0 ∧ 1 ≤ p.rows.length ∧ p.rows.length ≤ 160 := by
  unfold dualCode at h
  by_cases h1 : rightP p ≠ 0
  · rw [if_pos h1] at h; exact absurd h h1
  · rw [if_neg h1] at h
    split at h
    · omega
    · split at h
      · omega
      · exact ⟨by omega, by omega, by omega⟩
theorem dual_back {p : ProgF} (h : dualCode p = 0) : dualCode (rawP (dualP p)) = 0 ∧ dualP (rawP (dualP p)) = normalR p := by
  obtain ⟨hr, hm1, hm2⟩ := dualCode_ok h
  have hd : dualP p = dualQ (normalR p) := by unfold dualP; rw [if_pos h]
  have hn := dual_n hr
  have hk := rightP_len hr
  obtain ⟨k, hke⟩ : ∃ k, k = p.vars.toNat := ⟨_, rfl⟩
  have hk1 : 1 ≤ k := by omega
  rw [← hke] at hn
  have hg : (dualQ (normalR p)).rows.length = k := by show ((List.range _).map _).length = k; rw [List.length_map, List.length_range, hn.goal]
  have hR : rightP (rawP (dualP p)) = 0 := by
    rw [hd]
    refine rightP_d ?_ ?_ fun j r hj => ?_
    · have e1 : (rawP (dualQ (normalR p))).vars = ((normalR p).rows.length : Int) := rfl
      have e2 : (rawP (dualQ (normalR p))).rows.length = k := by show (List.map rawR _).length = k; rw [List.length_map]; exact hg
      rw [e1, e2, hn.rows]
      have := hn.k1
      omega
    · have e1 : (rawP (dualQ (normalR p))).vars = ((normalR p).rows.length : Int) := rfl
      have e2 : (rawP (dualQ (normalR p))).free.length = (normalR p).rows.length := by show (List.map _ _).length = _; rw [List.length_map]
      have e3 : (rawP (dualQ (normalR p))).goal.length = (normalR p).rows.length := by show (List.map rawQ (List.map _ _)).length = _; rw [List.length_map, List.length_map]
      rw [e1, e2, e3, hn.rows]
      omega
    · obtain ⟨r', hr', rfl⟩ := List.mem_map.1 (List.mem_of_getElem? hj)
      obtain ⟨v, _, rfl⟩ := List.mem_map.1 hr'
      unfold rowBad
      have e1 : (rawP (dualQ (normalR p))).vars = ((normalR p).rows.length : Int) := rfl
      have e2 : (rawR (dualRow (normalR p) v)).a.length = (normalR p).rows.length := by show (List.map rawQ (List.map _ _)).length = _; rw [List.length_map, List.length_map]
      have e3 : (rawR (dualRow (normalR p) v)).s = if (normalR p).free.getD v false = true then (0 : Int) else -1 := rfl
      rw [e1, e2, e3]
      cases (normalR p).free.getD v false <;> simp
  have hs : SmallP (dualP p) := small_dual p
  have hN : normalR (rawP (dualP p)) = dualP p := by
    unfold normalR
    rw [if_pos hR, clean_raw hs]
    refine norm_id fun r hr' => ?_
    rw [hd] at hr'
    obtain ⟨v, _, rfl⟩ := List.mem_map.1 hr'
    show (if _ then (0 : Int) else -1) ≠ 1
    split <;> omega
  have hC : dualCode (rawP (dualP p)) = 0 := by
    have e2 : (rawP (dualP p)).rows.length = k := by rw [hd]; show (List.map rawR _).length = k; rw [List.length_map]; exact hg
    unfold dualCode
    rw [if_neg (by simp [hR]), e2, if_neg (by omega), if_neg (by have := hn.k1; omega)]
  refine ⟨hC, ?_⟩
  have : dualP (rawP (dualP p)) = dualQ (normalR (rawP (dualP p))) := by
    generalize rawP (dualP p) = z at hC ⊢
    unfold dualP
    rw [if_pos hC]
  rw [this, hN, hd]
  exact dual_dual hn (senses hr)
end Go.Proofs.Ytfhambfgjigneaa
set_option linter.unusedVariables false
set_option linter.unusedSimpArgs false
namespace Go.Proofs.Ytfhambfgjigneaa
open Go.RowKit
set_option maxHeartbeats 64000000 in
set_option maxRecDepth 100000 in
theorem forms_calls (w : World) (v vx vb : Value) (p : ProgF) (xs bs : List Int) (h : PG0 w v p) (hx : IL w vx xs) (hb : IL w vb bs) (hxl0 : xs.length ≤ 9223372036854775807) (hbl0 : bs.length ≤ 9223372036854775807) (hxi : ∀ x ∈ xs, I64 x) (hbi : ∀ x ∈ bs, I64 x) : Calls Try.prog 3 #[v, vx, vb] w fun e w' => BPost w true e w' := by
  have HP := Lib.hid h
  obtain ⟨A1, c1, A2, c2, A3, c3, rfl, HI, H1, H2, H3⟩ := h.opened
  have HX := Lib.hid hx
  have HBS := Lib.hid hb
  have HXI := Lib.hid hxi
  have HBI := Lib.hid hbi
  obtain ⟨X1, xc, rfl, _⟩ := hx.slice
  obtain ⟨Y1, yc, rfl, _⟩ := hb.slice
  clear h hx hb hxi hbi
  obtain ⟨vars, hv⟩ : ∃ n, n = p.vars := ⟨_, rfl⟩
  rw [← hv] at HP ⊢
  clear hv
  go_enter Try.func3, Try.ntmps3
  go_wp2_with fail
  have H0 := Lib.hid (HS.one (w := w) #[.int .i64 vars, .slice A1 p.free.length c1, .slice A2 p.goal.length c2, .slice A3 p.rows.length c3] 26)
  generalize w.alloc (.cells #[.int .i64 vars, .slice A1 p.free.length c1, .slice A2 p.goal.length c2, .slice A3 p.rows.length c3] 26) = W0 at *
  refine (within_calls W0 _ p 12 16 (HP.out.of_below H0.out.2) (by decide) (by decide)).mono ?_
  rintro e w1 ⟨rfl, hb⟩
  have K1 := Lib.hid (H0.out.step hb)
  obtain ⟨x0, x1, x2, x3⟩ := K1.out.c4 0 rfl
  clear hb
  cases hw : withinB p 12 16 with
  | false =>
    clear hw
    go_wp2_with fail
    go_ret
    exact ⟨rfl, K1.out.2⟩
  | true =>
    have HW := Lib.hid hw
    have HPF := Lib.hid (HP.out.full hw)
    clear hw
    by_cases a1 : xs.length > 16
    · have t1 : decide ((xs.length : Int) > 16) = true := decide_eq_true (by omega)
      clear a1
      go_wp2_with fail
      go_ret
      exact ⟨rfl, K1.out.2⟩
    have t1 : decide ((xs.length : Int) > 16) = false := decide_eq_false (by omega)
    have t1' : ¬ (16 : Int) < (xs.length : Int) := by omega
    have hxl : xs.length ≤ 4000000000000000 := by omega
    clear a1
    by_cases a2 : bs.length > 16
    · have t2 : decide ((bs.length : Int) > 16) = true := decide_eq_true (by omega)
      clear a2
      go_wp2_with fail
      go_ret
      exact ⟨rfl, K1.out.2⟩
    have t2 : decide ((bs.length : Int) > 16) = false := decide_eq_false (by omega)
    have t2' : ¬ (16 : Int) < (bs.length : Int) := by omega
    have hbl : bs.length ≤ 4000000000000000 := by omega
    clear a2
    have e1 : (rightP p != rightP p) = false := by simp
    have e2 : (dualCode p != dualCode p) = false := by simp
    have e3 : (fixCode p xs bs != fixCode p xs bs) = false := by simp
    clear x0 x1 x2 x3
    obtain ⟨x0, x1, x2, x3⟩ := K1.out.c4 0 rfl
    have hlt1 := (K1.out.blk 0 rfl).lt
    go_wp2_with fail
    clear x0 x1 x2 x3 hlt1
    refine (pnormal_calls _ _ p (HPF.out.of_below K1.out.2)).mono ?_
    rintro e u0 ⟨v0, rfl, hpo, hb⟩
    obtain ⟨A01, c01, A02, c02, A03, c03, rfl, _, _, _, _⟩ := hpo.opened
    have R0 := Lib.hid (K1.out.step hb)
    have G0 := Lib.hid (hpo.pr (small_normal p))
    clear hpo hb
    obtain ⟨x0, x1, x2, x3⟩ := (R0.out.blk 0 rfl).c4
    have hlt1 := (R0.out.blk 0 rfl).lt
    go_wp2_with fail
    have hn := below_new u0 (.cells #[.int .i64 (normalR p).vars, .slice A01 (normalR p).free.length c01, .slice A02 (normalR p).goal.length c02, .slice A03 (normalR p).rows.length c03] 26)
    have G0a0 := Lib.hid (PR.of_below G0.out hn)
    clear G0
    have S0 := Lib.hid (R0.out.new #[.int .i64 (normalR p).vars, .slice A01 (normalR p).free.length c01, .slice A02 (normalR p).goal.length c02, .slice A03 (normalR p).rows.length c03] 26)
    obtain ⟨g0, hg⟩ : ∃ g, g = u0.heap.size := ⟨_, rfl⟩
    rw [← hg] at S0 ⊢
    generalize u0.alloc (.cells #[.int .i64 (normalR p).vars, .slice A01 (normalR p).free.length c01, .slice A02 (normalR p).goal.length c02, .slice A03 (normalR p).rows.length c03] 26) = U0 at *
    clear hn hg
    clear x0 x1 x2 x3 hlt1
    refine (rnormal_calls _ _ p (HPF.out.of_below S0.out.2)).mono ?_
    rintro e u1 ⟨v1, rfl, hpo, hb⟩
    obtain ⟨A11, c11, A12, c12, A13, c13, rfl, _, _, _, _⟩ := hpo.opened
    have R1 := Lib.hid (S0.out.step hb)
    have G0b1 := Lib.hid (PR.of_below G0a0.out hb)
    clear G0a0
    have G1 := Lib.hid (hpo.pr (small_normal p))
    clear hpo hb
    obtain ⟨x0, x1, x2, x3⟩ := (R1.out.blk 1 rfl).c4
    have hlt1 := (R1.out.blk 1 rfl).lt
    go_wp2_with fail
    have hn := below_new u1 (.cells #[.int .i64 (normalR p).vars, .slice A11 (normalR p).free.length c11, .slice A12 (normalR p).goal.length c12, .slice A13 (normalR p).rows.length c13] 26)
    have G0a1 := Lib.hid (PR.of_below G0b1.out hn)
    clear G0b1
    have G1a1 := Lib.hid (PR.of_below G1.out hn)
    clear G1
    have S1 := Lib.hid (R1.out.new #[.int .i64 (normalR p).vars, .slice A11 (normalR p).free.length c11, .slice A12 (normalR p).goal.length c12, .slice A13 (normalR p).rows.length c13] 26)
    obtain ⟨g1, hg⟩ : ∃ g, g = u1.heap.size := ⟨_, rfl⟩
    rw [← hg] at S1 ⊢
    generalize u1.alloc (.cells #[.int .i64 (normalR p).vars, .slice A11 (normalR p).free.length c11, .slice A12 (normalR p).goal.length c12, .slice A13 (normalR p).rows.length c13] 26) = U1 at *
    clear hn hg
    clear x0 x1 x2 x3 hlt1
    refine (pdual_calls _ _ p (HPF.out.of_below S1.out.2)).mono ?_
    rintro e u2 ⟨v2, rfl, hpo, hb⟩
    obtain ⟨A21, c21, A22, c22, A23, c23, rfl, _, _, _, _⟩ := hpo.opened
    have R2 := Lib.hid (S1.out.step hb)
    have G0b2 := Lib.hid (PR.of_below G0a1.out hb)
    clear G0a1
    have G1b2 := Lib.hid (PR.of_below G1a1.out hb)
    clear G1a1
    have G2 := Lib.hid (hpo.pr (small_dual p))
    clear hpo hb
    obtain ⟨x0, x1, x2, x3⟩ := (R2.out.blk 2 rfl).c4
    have hlt1 := (R2.out.blk 2 rfl).lt
    go_wp2_with fail
    have hn := below_new u2 (.cells #[.int .i64 (dualP p).vars, .slice A21 (dualP p).free.length c21, .slice A22 (dualP p).goal.length c22, .slice A23 (dualP p).rows.length c23] 26)
    have G0a2 := Lib.hid (PR.of_below G0b2.out hn)
    clear G0b2
    have G1a2 := Lib.hid (PR.of_below G1b2.out hn)
    clear G1b2
    have G2a2 := Lib.hid (PR.of_below G2.out hn)
    clear G2
    have S2 := Lib.hid (R2.out.new #[.int .i64 (dualP p).vars, .slice A21 (dualP p).free.length c21, .slice A22 (dualP p).goal.length c22, .slice A23 (dualP p).rows.length c23] 26)
    obtain ⟨g2, hg⟩ : ∃ g, g = u2.heap.size := ⟨_, rfl⟩
    rw [← hg] at S2 ⊢
    generalize u2.alloc (.cells #[.int .i64 (dualP p).vars, .slice A21 (dualP p).free.length c21, .slice A22 (dualP p).goal.length c22, .slice A23 (dualP p).rows.length c23] 26) = U2 at *
    clear hn hg
    clear x0 x1 x2 x3 hlt1
    refine (rdual_calls _ _ p (HPF.out.of_below S2.out.2)).mono ?_
    rintro e u3 ⟨v3, rfl, hpo, hb⟩
    obtain ⟨A31, c31, A32, c32, A33, c33, rfl, _, _, _, _⟩ := hpo.opened
    have R3 := Lib.hid (S2.out.step hb)
    have G0b3 := Lib.hid (PR.of_below G0a2.out hb)
    clear G0a2
    have G1b3 := Lib.hid (PR.of_below G1a2.out hb)
    clear G1a2
    have G2b3 := Lib.hid (PR.of_below G2a2.out hb)
    clear G2a2
    have G3 := Lib.hid (hpo.pr (small_dual p))
    clear hpo hb
    obtain ⟨x0, x1, x2, x3⟩ := (R3.out.blk 3 rfl).c4
    have hlt1 := (R3.out.blk 3 rfl).lt
    go_wp2_with fail
    have hn := below_new u3 (.cells #[.int .i64 (dualP p).vars, .slice A31 (dualP p).free.length c31, .slice A32 (dualP p).goal.length c32, .slice A33 (dualP p).rows.length c33] 26)
    have G0a3 := Lib.hid (PR.of_below G0b3.out hn)
    clear G0b3
    have G1a3 := Lib.hid (PR.of_below G1b3.out hn)
    clear G1b3
    have G2a3 := Lib.hid (PR.of_below G2b3.out hn)
    clear G2b3
    have G3a3 := Lib.hid (PR.of_below G3.out hn)
    clear G3
    have S3 := Lib.hid (R3.out.new #[.int .i64 (dualP p).vars, .slice A31 (dualP p).free.length c31, .slice A32 (dualP p).goal.length c32, .slice A33 (dualP p).rows.length c33] 26)
    obtain ⟨g3, hg⟩ : ∃ g, g = u3.heap.size := ⟨_, rfl⟩
    rw [← hg] at S3 ⊢
    generalize u3.alloc (.cells #[.int .i64 (dualP p).vars, .slice A31 (dualP p).free.length c31, .slice A32 (dualP p).goal.length c32, .slice A33 (dualP p).rows.length c33] 26) = U3 at *
    clear hn hg
    clear x0 x1 x2 x3 hlt1
    refine (pfixed_calls _ _ _ _ p xs bs (HPF.out.of_below S3.out.2) (HX.out.below EI.stays S3.out.2) (HBS.out.below EI.stays S3.out.2) hxl hbl HXI.out HBI.out).mono ?_
    rintro e u4 ⟨v4, rfl, hpo, hb⟩
    obtain ⟨A41, c41, A42, c42, A43, c43, rfl, _, _, _, _⟩ := hpo.opened
    have R4 := Lib.hid (S3.out.step hb)
    have G0b4 := Lib.hid (PR.of_below G0a3.out hb)
    clear G0a3
    have G1b4 := Lib.hid (PR.of_below G1a3.out hb)
    clear G1a3
    have G2b4 := Lib.hid (PR.of_below G2a3.out hb)
    clear G2a3
    have G3b4 := Lib.hid (PR.of_below G3a3.out hb)
    clear G3a3
    have G4 := Lib.hid (hpo.pr (small_fixed p xs bs))
    clear hpo hb
    obtain ⟨x0, x1, x2, x3⟩ := (R4.out.blk 4 rfl).c4
    have hlt1 := (R4.out.blk 4 rfl).lt
    go_wp2_with fail
    have hn := below_new u4 (.cells #[.int .i64 (fixedP p xs bs).vars, .slice A41 (fixedP p xs bs).free.length c41, .slice A42 (fixedP p xs bs).goal.length c42, .slice A43 (fixedP p xs bs).rows.length c43] 26)
    have G0a4 := Lib.hid (PR.of_below G0b4.out hn)
    clear G0b4
    have G1a4 := Lib.hid (PR.of_below G1b4.out hn)
    clear G1b4
    have G2a4 := Lib.hid (PR.of_below G2b4.out hn)
    clear G2b4
    have G3a4 := Lib.hid (PR.of_below G3b4.out hn)
    clear G3b4
    have G4a4 := Lib.hid (PR.of_below G4.out hn)
    clear G4
    have S4 := Lib.hid (R4.out.new #[.int .i64 (fixedP p xs bs).vars, .slice A41 (fixedP p xs bs).free.length c41, .slice A42 (fixedP p xs bs).goal.length c42, .slice A43 (fixedP p xs bs).rows.length c43] 26)
    obtain ⟨g4, hg⟩ : ∃ g, g = u4.heap.size := ⟨_, rfl⟩
    rw [← hg] at S4 ⊢
    generalize u4.alloc (.cells #[.int .i64 (fixedP p xs bs).vars, .slice A41 (fixedP p xs bs).free.length c41, .slice A42 (fixedP p xs bs).goal.length c42, .slice A43 (fixedP p xs bs).rows.length c43] 26) = U4 at *
    clear hn hg
    clear x0 x1 x2 x3 hlt1
    refine (rfixed_calls _ _ _ _ p xs bs (HPF.out.of_below S4.out.2) (HX.out.below EI.stays S4.out.2) (HBS.out.below EI.stays S4.out.2) hxl hbl HXI.out HBI.out).mono ?_
    rintro e u5 ⟨v5, rfl, hpo, hb⟩
    obtain ⟨A51, c51, A52, c52, A53, c53, rfl, _, _, _, _⟩ := hpo.opened
    have R5 := Lib.hid (S4.out.step hb)
    have G0b5 := Lib.hid (PR.of_below G0a4.out hb)
    clear G0a4
    have G1b5 := Lib.hid (PR.of_below G1a4.out hb)
    clear G1a4
    have G2b5 := Lib.hid (PR.of_below G2a4.out hb)
    clear G2a4
    have G3b5 := Lib.hid (PR.of_below G3a4.out hb)
    clear G3a4
    have G4b5 := Lib.hid (PR.of_below G4a4.out hb)
    clear G4a4
    have G5 := Lib.hid (hpo.pr (small_fixed p xs bs))
    clear hpo hb
    obtain ⟨x0, x1, x2, x3⟩ := (R5.out.blk 5 rfl).c4
    have hlt1 := (R5.out.blk 5 rfl).lt
    obtain ⟨y0, y1, y2, y3⟩ := (R5.out.blk 4 rfl).c4
    have hlt2 := (R5.out.blk 4 rfl).lt
    obtain ⟨z0, z1, z2, z3⟩ := (R5.out.blk 3 rfl).c4
    have hlt3 := (R5.out.blk 3 rfl).lt
    go_wp2_with fail
    have hn := below_new u5 (.cells #[.int .i64 (fixedP p xs bs).vars, .slice A51 (fixedP p xs bs).free.length c51, .slice A52 (fixedP p xs bs).goal.length c52, .slice A53 (fixedP p xs bs).rows.length c53] 26)
    have G0a5 := Lib.hid (PR.of_below G0b5.out hn)
    clear G0b5
    have G1a5 := Lib.hid (PR.of_below G1b5.out hn)
    clear G1b5
    have G2a5 := Lib.hid (PR.of_below G2b5.out hn)
    clear G2b5
    have G3a5 := Lib.hid (PR.of_below G3b5.out hn)
    clear G3b5
    have G4a5 := Lib.hid (PR.of_below G4b5.out hn)
    clear G4b5
    have G5a5 := Lib.hid (PR.of_below G5.out hn)
    clear G5
    have S5 := Lib.hid (R5.out.new #[.int .i64 (fixedP p xs bs).vars, .slice A51 (fixedP p xs bs).free.length c51, .slice A52 (fixedP p xs bs).goal.length c52, .slice A53 (fixedP p xs bs).rows.length c53] 26)
    obtain ⟨g5, hg⟩ : ∃ g, g = u5.heap.size := ⟨_, rfl⟩
    rw [← hg] at S5 ⊢
    generalize u5.alloc (.cells #[.int .i64 (fixedP p xs bs).vars, .slice A51 (fixedP p xs bs).free.length c51, .slice A52 (fixedP p xs bs).goal.length c52, .slice A53 (fixedP p xs bs).rows.length c53] 26) = U5 at *
    clear hn hg
    clear x0 x1 x2 x3 hlt1 y0 y1 y2 y3 hlt2 z0 z1 z2 z3 hlt3
    refine (sameProg_calls _ _ _ (rawP (normalR p)) (rawP (normalR p)) G0a5.out G1a5.out (sameP_raw (small_normal p)) (len_normal p).raw.1 (len_normal p).raw.2.1 (len_normal p).raw.2.2.1 (len_normal p).raw.2.2.2).mono ?_
    rintro e w7 ⟨rfl, hb⟩
    have T1 := Lib.hid (S5.out.step hb)
    have G0s1 := Lib.hid (PR.of_below G0a5.out hb)
    clear G0a5
    have G1s1 := Lib.hid (PR.of_below G1a5.out hb)
    clear G1a5
    have G2s1 := Lib.hid (PR.of_below G2a5.out hb)
    clear G2a5
    have G3s1 := Lib.hid (PR.of_below G3a5.out hb)
    clear G3a5
    have G4s1 := Lib.hid (PR.of_below G4a5.out hb)
    clear G4a5
    have G5s1 := Lib.hid (PR.of_below G5a5.out hb)
    clear G5a5
    clear hb
    obtain ⟨x0, x1, x2, x3⟩ := (T1.out.blk 3 rfl).c4
    have hlt1 := (T1.out.blk 3 rfl).lt
    obtain ⟨y0, y1, y2, y3⟩ := (T1.out.blk 2 rfl).c4
    have hlt2 := (T1.out.blk 2 rfl).lt
    go_wp2_with fail
    clear x0 x1 x2 x3 hlt1 y0 y1 y2 y3 hlt2
    refine (sameProg_calls _ _ _ (rawP (dualP p)) (rawP (dualP p)) G2s1.out G3s1.out (sameP_raw (small_dual p)) (len_dual p).raw.1 (len_dual p).raw.2.1 (len_dual p).raw.2.2.1 (len_dual p).raw.2.2.2).mono ?_
    rintro e w8 ⟨rfl, hb⟩
    have T2 := Lib.hid (T1.out.step hb)
    have G0s2 := Lib.hid (PR.of_below G0s1.out hb)
    clear G0s1
    have G1s2 := Lib.hid (PR.of_below G1s1.out hb)
    clear G1s1
    have G2s2 := Lib.hid (PR.of_below G2s1.out hb)
    clear G2s1
    have G3s2 := Lib.hid (PR.of_below G3s1.out hb)
    clear G3s1
    have G4s2 := Lib.hid (PR.of_below G4s1.out hb)
    clear G4s1
    have G5s2 := Lib.hid (PR.of_below G5s1.out hb)
    clear G5s1
    clear hb
    obtain ⟨x0, x1, x2, x3⟩ := (T2.out.blk 1 rfl).c4
    have hlt1 := (T2.out.blk 1 rfl).lt
    obtain ⟨y0, y1, y2, y3⟩ := (T2.out.blk 0 rfl).c4
    have hlt2 := (T2.out.blk 0 rfl).lt
    go_wp2_with fail
    clear x0 x1 x2 x3 hlt1 y0 y1 y2 y3 hlt2
    refine (sameProg_calls _ _ _ (rawP (fixedP p xs bs)) (rawP (fixedP p xs bs)) G4s2.out G5s2.out (sameP_raw (small_fixed p xs bs)) (len_fixed p xs bs).raw.1 (len_fixed p xs bs).raw.2.1 (len_fixed p xs bs).raw.2.2.1 (len_fixed p xs bs).raw.2.2.2).mono ?_
    rintro e w9 ⟨rfl, hb⟩
    have T3 := Lib.hid (T2.out.step hb)
    have G0s3 := Lib.hid (PR.of_below G0s2.out hb)
    clear G0s2
    have G1s3 := Lib.hid (PR.of_below G1s2.out hb)
    clear G1s2
    have G2s3 := Lib.hid (PR.of_below G2s2.out hb)
    clear G2s2
    have G3s3 := Lib.hid (PR.of_below G3s2.out hb)
    clear G3s2
    have G4s3 := Lib.hid (PR.of_below G4s2.out hb)
    clear G4s2
    have G5s3 := Lib.hid (PR.of_below G5s2.out hb)
    clear G5s2
    clear hb
    by_cases q : dualCode p = 0
    case neg =>
      have e4 : (dualCode p != 0) = true := bneI q
      clear q
      go_wp2_with fail
      go_ret
      exact ⟨rfl, T3.out.2⟩
    have e4 : (dualCode p != 0) = false := beqI q
    obtain ⟨hbc, hbk⟩ := dual_back q
    have HBC := Lib.hid hbc
    have HBK := Lib.hid hbk
    clear q hbc hbk
    obtain ⟨x0, x1, x2, x3⟩ := (T3.out.blk 3 rfl).c4
    have hlt1 := (T3.out.blk 3 rfl).lt
    go_wp2_with fail
    clear x0 x1 x2 x3 hlt1
    refine (pdual_calls _ _ (rawP (dualP p)) G2s3.out).mono ?_
    rintro e u6 ⟨v6, rfl, hpo, hb⟩
    rw [HBK.out] at hpo
    rw [HBC.out]
    obtain ⟨A61, c61, A62, c62, A63, c63, rfl, _, _, _, _⟩ := hpo.opened
    have T4 := Lib.hid (T3.out.step hb)
    have G0s4 := Lib.hid (PR.of_below G0s3.out hb)
    clear G0s3
    have G1s4 := Lib.hid (PR.of_below G1s3.out hb)
    clear G1s3
    have G2s4 := Lib.hid (PR.of_below G2s3.out hb)
    clear G2s3
    have G3s4 := Lib.hid (PR.of_below G3s3.out hb)
    clear G3s3
    have G4s4 := Lib.hid (PR.of_below G4s3.out hb)
    clear G4s3
    have G5s4 := Lib.hid (PR.of_below G5s3.out hb)
    clear G5s3
    have G6 := Lib.hid (hpo.pr (small_normal p))
    clear hpo hb
    obtain ⟨x0, x1, x2, x3⟩ := (T4.out.blk 5 rfl).c4
    have hlt1 := (T4.out.blk 5 rfl).lt
    go_wp2_with fail
    have hn := below_new u6 (.cells #[.int .i64 (normalR p).vars, .slice A61 (normalR p).free.length c61, .slice A62 (normalR p).goal.length c62, .slice A63 (normalR p).rows.length c63] 26)
    have G0a6 := Lib.hid (PR.of_below G0s4.out hn)
    clear G0s4
    have G1a6 := Lib.hid (PR.of_below G1s4.out hn)
    clear G1s4
    have G2a6 := Lib.hid (PR.of_below G2s4.out hn)
    clear G2s4
    have G3a6 := Lib.hid (PR.of_below G3s4.out hn)
    clear G3s4
    have G4a6 := Lib.hid (PR.of_below G4s4.out hn)
    clear G4s4
    have G5a6 := Lib.hid (PR.of_below G5s4.out hn)
    clear G5s4
    have G6a6 := Lib.hid (PR.of_below G6.out hn)
    clear G6
    have T5 := Lib.hid (T4.out.step hn)
    generalize u6.alloc (.cells #[.int .i64 (normalR p).vars, .slice A61 (normalR p).free.length c61, .slice A62 (normalR p).goal.length c62, .slice A63 (normalR p).rows.length c63] 26) = U6 at *
    clear hn x0 x1 x2 x3 hlt1
    refine (sameProg_calls _ _ _ (rawP (normalR p)) (rawP (normalR p)) G6a6.out G0a6.out (sameP_raw (small_normal p)) (len_normal p).raw.1 (len_normal p).raw.2.1 (len_normal p).raw.2.2.1 (len_normal p).raw.2.2.2).mono ?_
    rintro e w10 ⟨rfl, hb⟩
    have T6 := Lib.hid (T5.out.step hb)
    clear hb
    go_wp2_with fail
    go_ret
    exact ⟨rfl, T6.out.2⟩
end Go.Proofs.Ytfhambfgjigneaa

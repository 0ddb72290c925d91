/- Contracts of Go functions that the statement reaches, proved by walking their text, and plain laws over them (texts put together). -/
import Derived.Test.YtfhambfgjigneaaKS5
import Derived.Test.YtfhambfgjigneaaKS9
import Derived.Test.YtfhambfgjigneaaKS6
set_option linter.unusedVariables false
set_option linter.unusedSimpArgs false
set_option maxHeartbeats 64000000
set_option maxRecDepth 100000
namespace Go.Proofs.Ytfhambfgjigneaa
open Go.RowKit
theorem proves1_calls {Wr : World} {AC : Option Addr} {cc : Nat} {cs : List CaseF} {LIM : Value} {q : Rat} (HC : CL Wr (.slice AC cs.length cc) cs) (w : World) (v vo : Value) (p : ProgQ) (k l left : Nat) (hlf : left = l + 1) (c : CaseF) (hc : cs[k]? = some c) (hlen : c.cert.x.length ≤ 100000 ∧ c.cert.y.length ≤ 100000 ∧ c.cert.ray.length ≤ 100000) (hcl : cs.length ≤ 1000000) (hll : l ≤ 100000)
  (hR0 : rightP (rawP p) = 0) (hv : c.var = -1) (hj : judgeB (rawP p) c.cert = true) (k1 : c.cert.kind = 1) (hle : ordQ (valueP (rawP p) c.cert.x) q ≤ 0) (hR : Rep Wr AC cs.length cc LIM (some q) left w) (h : PO Wr.heap.size w v p) (hS : SmallP p) :
  Calls Try.prog 78 #[.pointer (some ⟨Wr.heap.size, 0, none⟩), v, .int .i64 (k : Int), vo] w fun e w' => PvPost Wr AC cs.length cc LIM (some q) w (true, l) e w' := by
 subst hlf
 have hkl : k < cs.length := (List.getElem?_eq_some_iff.1 hc).1
 have HJ := Hd hj
 have HLE := Hd hle
 have HVR := Hd hv
 have HK0 := Hd k1
 clear hj hle hv k1
 have hR0' := Hd hR0
 have HSP := Hd hS
 have HCS := Hd HC
 obtain ⟨gC, oC, B1, d1, B2, d2, B3, d3, rfl, hgC, kcs, HCI, HCR⟩ := HC.at7 hc
 have HKC := Hd kcs
 obtain ⟨gr, hgr⟩ : ∃ g, g = Wr.heap.size := ⟨_, rfl⟩
 have hgne : gC ≠ Wr.heap.size := by omega
 clear hc kcs hgr gr HC
 obtain ⟨A1, c1, A2, c2, A3, c3, rfl, HI, H1, H2, H3⟩ := h.opened
 have HPO := Hd h
 clear h
 obtain ⟨vars, hv⟩ : ∃ n, n = p.vars := ⟨_, rfl⟩
 rw [← hv] at HPO ⊢
 have HV := Hd hv
 clear hv H1 H2 H3 HI
 have HRP := Hd hR
 clear hR
 go_enter Try.func78, Try.ntmps78
 go_upto_region 1 with (fail)
 have hbn := below_new w (.cells #[.int .i64 vars, .slice A1 p.free.length c1, .slice A2 p.goal.length c2, .slice A3 p.rows.length c3] 26)
 have HBX := Hd (Blk.new w 26 #[.int .i64 vars, .slice A1 p.free.length c1, .slice A2 p.goal.length c2, .slice A3 p.rows.length c3])
 have HPO1 := Hd (PO.below HPO.out hbn)
 have HRP1 := Hd (HRP.out.below hbn)
 have HC0 := Hd (Chg.of_below (base := Wr.heap.size) (t := 97) hbn)
 have HW0 := Hd (below_same hbn)
 obtain ⟨gp, hgp⟩ : ∃ g, g = w.heap.size := ⟨_, rfl⟩
 rw [← hgp] at HBX ⊢
 have HGP : Hid (w.heap.size ≤ gp) := by unfold Hid; omega
 generalize w.alloc (.cells #[.int .i64 vars, .slice A1 p.free.length c1, .slice A2 p.goal.length c2, .slice A3 p.rows.length c3] 26) = W0 at *
 clear hgp hbn HPO
 obtain ⟨r0, r1, r2⟩ := HRP1.out.2.1.c3
 have hltr := HRP1.out.2.1.lt
 obtain ⟨x0, x1, x2, x3⟩ := HBX.out.c4
 have hltp := HBX.out.lt
 have u4 : (rightP (rawP p) != 0) = false := beqI hR0
 have u1 : decide ((k : Int) < 0) = false := decide_eq_false (by omega)
 have u2 : decide (cs.length ≤ k) = false := decide_eq_false (by omega)
 have u2' : ¬ ((cs.length : Int) ≤ (k : Int)) := by omega
 have u3 : (((l + 1 : Nat) : Int) == 0) = false := bneI' (by omega)
 have u3' : ((l : Int) + 1 == 0) = false := bneI' (by omega)
 have p1 : (0 : Int) ≤ (k : Int) := by omega
 have p2 : (k : Int) < (cs.length : Int) := by omega
 have p3 : (k : Int).toNat = k := by omega
 clear hR0
 go_wp2_with fail
 refine (pright_calls _ _ (rawP p) (PO.pr HPO1.out HSP.out)).mono ?_
 rintro e w1 ⟨rfl, hb⟩
 have HRP2 := Hd (HRP1.out.below hb)
 have HPO2 := Hd (PO.below HPO1.out hb)
 have HBX2 := Hd (HBX.out.below hb HBX.out.lt)
 have HC1 := Hd (HC0.out.trans (Chg.of_below hb))
 have HW1 : Hid (w.os = w1.os ∧ w.tape = w1.tape ∧ w.output = w1.output) := ⟨HW0.out.1.trans (below_same hb).1, HW0.out.2.1.trans (below_same hb).2.1, HW0.out.2.2.trans (below_same hb).2.2⟩
 clear hb x0 x1 x2 x3 hltp r0 r1 r2 hltr HRP HRP1 HPO1 HBX HC0 HW0
 obtain ⟨r0, r1, r2⟩ := HRP2.out.2.1.c3
 obtain ⟨f0, f1, f2⟩ := HRP2.out.2.1.f3
 have hltr := HRP2.out.2.1.lt
 have hgC1 : gC < w1.heap.size := Nat.lt_trans hgC hltr
 obtain ⟨e0, e1, e2, e3, e4, e5, e6⟩ : _ ∧ _ ∧ _ ∧ _ ∧ _ ∧ _ ∧ _ := HKC.out
 have s0 := ((bcell2 HRP2.out.1.2 gC _ hgC).trans e0)
 have s1 := ((bcell2 HRP2.out.1.2 gC _ hgC).trans e1)
 have s2 := ((bcell2 HRP2.out.1.2 gC _ hgC).trans e2)
 have s3 := ((bcell2 HRP2.out.1.2 gC _ hgC).trans e3)
 have s4 := ((bcell2 HRP2.out.1.2 gC _ hgC).trans e4)
 have s5 := ((bcell2 HRP2.out.1.2 gC _ hgC).trans e5)
 have s6 := ((bcell2 HRP2.out.1.2 gC _ hgC).trans e6)
 clear e0 e1 e2 e3 e4 e5 e6
 have HSM : Hid (w1.heap.size ≤ w1.heap.size) := Nat.le_refl _
 have u5 : (c.var == -1) = true := beqI' HVR.out
 go_wp2_with fail
 have hpt := HRP2.out.put l
 have hbn := below_new (w1.setCell ⟨Wr.heap.size, 1, none⟩ (.int .i64 (l : Int))) (.cells #[.int .i64 c.var, .int .i64 c.zero, .int .i64 c.one, .int .i64 c.cert.kind, .slice B1 c.cert.x.length d1, .slice B2 c.cert.y.length d2, .slice B3 c.cert.ray.length d3] 82)
 have hc2 := hpt.2
 have HRP5 := Hd (hpt.1.below hbn)
 have HPO5 := Hd (PO.below (PO.chg HPO2.out hc2 (by decide) (by decide) (by decide)) hbn)
 have HBX5 := Hd ((HBX2.out.chg hc2 (by decide)).below hbn (HBX2.out.chg hc2 (by decide)).lt)
 have H95 := Hd (Blk.new (w1.setCell ⟨Wr.heap.size, 1, none⟩ (.int .i64 (l : Int))) 82 #[.int .i64 c.var, .int .i64 c.zero, .int .i64 c.one, .int .i64 c.cert.kind, .slice B1 c.cert.x.length d1, .slice B2 c.cert.y.length d2, .slice B3 c.cert.ray.length d3])
 have HC5 := Hd ((HC1.out.trans hc2).trans (Chg.of_below hbn))
 have HW5 : Hid (w.os = ((w1.setCell ⟨Wr.heap.size, 1, none⟩ (.int .i64 (l : Int))).alloc (.cells #[.int .i64 c.var, .int .i64 c.zero, .int .i64 c.one, .int .i64 c.cert.kind, .slice B1 c.cert.x.length d1, .slice B2 c.cert.y.length d2, .slice B3 c.cert.ray.length d3] 82)).os ∧ w.tape = ((w1.setCell ⟨Wr.heap.size, 1, none⟩ (.int .i64 (l : Int))).alloc (.cells #[.int .i64 c.var, .int .i64 c.zero, .int .i64 c.one, .int .i64 c.cert.kind, .slice B1 c.cert.x.length d1, .slice B2 c.cert.y.length d2, .slice B3 c.cert.ray.length d3] 82)).tape ∧ w.output = ((w1.setCell ⟨Wr.heap.size, 1, none⟩ (.int .i64 (l : Int))).alloc (.cells #[.int .i64 c.var, .int .i64 c.zero, .int .i64 c.one, .int .i64 c.cert.kind, .slice B1 c.cert.x.length d1, .slice B2 c.cert.y.length d2, .slice B3 c.cert.ray.length d3] 82)).output) := HW1.out
 have HCR5 := Hd (HCR.out.of_below HRP5.out.1.2)
 clear hpt hbn hc2 r0 r1 r2 f0 f1 f2 hltr s0 s1 s2 s3 s4 s5 s6 hgC1 hgne HRP2 HPO2 HBX2 HC1 HW1
 obtain ⟨g9, hg9⟩ : ∃ g, g = (w1.setCell ⟨Wr.heap.size, 1, none⟩ (.int .i64 (l : Int))).heap.size := ⟨_, rfl⟩
 have hg9' : g9 = w1.heap.size := by rw [hg9]; simp
 rw [← hg9] at H95
 rw [← hg9']
 generalize (w1.setCell ⟨Wr.heap.size, 1, none⟩ (.int .i64 (l : Int))).alloc (.cells #[.int .i64 c.var, .int .i64 c.zero, .int .i64 c.one, .int .i64 c.cert.kind, .slice B1 c.cert.x.length d1, .slice B2 c.cert.y.length d2, .slice B3 c.cert.ray.length d3] 82) = W5 at *
 clear hg9 hg9'
 obtain ⟨x0, x1, x2, x3⟩ := HBX5.out.c4
 have hltp := HBX5.out.lt
 obtain ⟨y0, y1, y2, y3, y4, y5, y6⟩ := H95.out.c7
 have hlt9 := H95.out.lt
 refine wp_chainS (S := Below W5.heap.size W5) [([0, 1, 2], 3), ([4, 5, 6, 7, 8, 9, 10, 11, 12, 13, 14, 15, 16, 17, 18, 19, 20, 21, 22, 23, 24, 25, 27, 28, 29, 30, 31, 32], 26), ([], 33)] [34, 35, 36, 37, 38] (by kernel_rfl) (by kernel_rfl) (by kernel_rfl) rfl (Below.drew (Below.refl _ _)) ?_
 refine ⟨?_, _, ?_, rfl, ?_⟩
 rotate_left
 ·(iterate 3 ((refine pu ?_); (try simp only [SQ])))
  exact rfl
 have D0 : Hid (Below W5.heap.size W5 W5.drew) := Below.drew (Below.refl _ _)
 go_wp2_with fail
 refine (calls_to (judge_calls _ _ _ (rawP p) c.cert (PO.pr (PO.below HPO5.out D0.out) HSP.out) (HCR5.out.of_below D0.out) hlen.1 hlen.2.1 hlen.2.2) HJ.out).mono ?_
 rintro e w2 ⟨rfl, hb⟩
 have D2 := Hd (below_next D0.out hb)
 clear hb
 have k1 := HK0.out
 have k2 : ¬ c.cert.kind = 2 := by omega
 have v2 : (c.cert.kind == 2) = false := bneI' k2
 clear k2
 have v1 : (c.cert.kind == 1) = true := beqI' k1
 have HK1 := Hd k1
 clear k1
 have HLM := Hd HRP5.out.2.2
 obtain ⟨r0, r1, r2⟩ := HRP5.out.2.1.c3
 have hltr := HRP5.out.2.1.lt
 obtain ⟨hsq, gl, G1, m1, f1, G2, m2, f2, rfl, hbl, hfq⟩ : LimOK W5 LIM (some q) := HLM.out
 have HSQ := Hd hsq
 have HBL := Hd hbl
 have HFQ := Hd hfq
 clear hsq hbl hfq
 obtain ⟨z0, z1, z2⟩ := HBL.out.c3
 have hltl := HBL.out.lt
 go_wp2_with fail
 refine And.intro D2.out ⟨?_, _, ?_, rfl, ?_⟩
 rotate_left
 ·(iterate 28 ((refine pu ?_); (try simp only [SQ])))
  exact rfl
 go_wp2_with fail
 refine (value_calls _ _ _ (rawP p) c.cert.x (PO.pr (PO.below HPO5.out D2.out) HSP.out) (CR.fl (HCR5.out.of_below D2.out))).mono ?_
 rintro e w3 ⟨v, rfl, hv, hb⟩
 obtain ⟨E1, h1, i1, E2, h2, i2, rfl, HV3⟩ := hv.opened
 have D3 := Hd (below_next D2.out hb)
 clear hv hb
 go_wp2_with fail
 refine And.intro D3.out ⟨_, _, rfl, rfl, ?_⟩
 go_wp2_with fail
 refine (fcmp_calls _ _ _ (rawQ (valueP (rawP p) c.cert.x)) (rawQ q) (FR.of_fq HV3.out (value_small _ _)) (FR.of_fq (HFQ.out.of_below D3.out) HSQ.out)).mono ?_
 rintro e w4 ⟨rfl, hb⟩
 rw [fixQ_raw _ (value_small _ _), fixQ_raw _ HSQ.out]
 have D4 := Hd (below_next D3.out hb)
 clear hb
 go_wp2_with fail
 refine And.intro D4.out ?_
 refine ⟨?_, ?_, ?_⟩
 rotate_left
 ·(iterate 5 ((refine pu ?_); (try simp only [SQ])))
  exact rfl
 refine NoPanic.normal ?_
 go_wp2_with fail
 go_ret
 exact ⟨by rw [decide_eq_true HLE.out]; rfl, HRP5.out.below D4.out, HC5.out.trans (Chg.of_below D4.out), HW5.out.1.trans (below_same D4.out).1, HW5.out.2.1.trans (below_same D4.out).2.1, HW5.out.2.2.trans (below_same D4.out).2.2⟩
theorem distinct1_calls (w : World) (n : Int) : Calls Try.prog 46 #[.int .i64 n, .slice none 0 0] w fun e w' => BPost w true e w' := by
 have hmm := @run_makeMap Try.prog
 go_enter Try.func46, Try.ntmps46
 go_wp2_with fail
 have HB := Hd (below_new w (.map #[] 0))
 generalize w.alloc (.map #[] 0) = W0 at *
 go_loopw [11] (fun vi wr => vi = .int .i64 0 ∧ wr = W0) (fun _ _ => 0)
 case atStart => exact ⟨rfl, rfl⟩
 case round =>
  obtain ⟨rfl, rfl⟩ := hrel
  go_wp2_with fail
  go_ret
  exact ⟨rfl, HB.out⟩
theorem wholes1_calls (w : World) (v : Value) (p : ProgF) (h : PR w v p) (hr : rightP p = 0) : Calls Try.prog 77 #[v, .slice none 0 0] w fun e w' => IPost w 0 e w' := by
 have HP := Hd h
 obtain ⟨A1, c1, A2, c2, A3, c3, rfl, HI, H1, H2, H3⟩ := h.opened
 obtain ⟨vars, hv⟩ : ∃ n, n = p.vars := ⟨_, rfl⟩
 rw [← hv] at HP ⊢
 clear h hv
 have HR := Hd hr
 clear hr
 go_enter Try.func77, Try.ntmps77
 go_wp2_with fail
 have H0 := Hd (HS.one (w := w) #[.int .i64 vars, .slice A1 p.free.length c1, .slice A2 p.goal.length c2, .slice A3 p.rows.length c3] 26)
 generalize w.alloc (.cells #[.int .i64 vars, .slice A1 p.free.length c1, .slice A2 p.goal.length c2, .slice A3 p.rows.length c3] 26) = W0 at *
 refine (pright_calls W0 _ p (HP.out.of_below H0.out.2)).mono ?_
 rintro e w1 ⟨rfl, hb⟩
 rw [HR.out]
 have K1 := Hd (H0.out.step hb)
 obtain ⟨x0, x1, x2, x3⟩ := K1.out.c4 0 rfl
 clear hb H0
 go_wp2_with fail
 refine (distinct1_calls w1 vars).mono ?_
 rintro e w2 ⟨rfl, hb⟩
 have K2 := Hd (K1.out.step hb)
 clear hb x0 x1 x2 x3 K1
 go_wp2_with fail
 go_loopw [20] (fun vi wr => vi = .int .i64 0 ∧ wr = w2) (fun _ _ => 0)
 case atStart => exact ⟨rfl, rfl⟩
 case round =>
  obtain ⟨rfl, rfl⟩ := hrel
  go_wp2_with fail
  go_ret
  exact ⟨rfl, K2.out.2⟩
theorem bounded1_calls (w : World) (v : Value) (p : ProgF) (h : PR w v p) (hr : rightP p = 0) : Calls Try.prog 79 #[v, .slice none 0 0] w fun e w' => CPost w (boundedQ p []) e w' := by
 have HP := Hd h
 obtain ⟨A1, c1, A2, c2, A3, c3, rfl, HI, H1, H2, H3⟩ := h.opened
 clear h
 obtain ⟨vars, hv⟩ : ∃ n, n = p.vars := ⟨_, rfl⟩
 rw [← hv] at HP ⊢
 have HV := Hd hv
 have hrl := rightP_len hr
 have hlf : p.free.length ≤ 1000 := by have := hrl.1; have := hrl.2.2.2.1; omega
 have hlg : p.goal.length ≤ 1000 := by have := hrl.2.1; have := hrl.2.2.2.1; omega
 have hlr : p.rows.length ≤ 1000 := by have := hrl.2.2.2.2.1; omega
 have HLA : Hid (∀ r ∈ p.rows, r.a.length ≤ 1000) := fun r hr => by have := (hrl.2.2.2.2.2 r hr).1; have := hrl.2.2.2.1; omega
 clear hv hr hrl
 go_enter Try.func79, Try.ntmps79
 go_wp2_with fail
 have KK := Hd (HS.two (w := w) #[.int .i64 vars, .slice A1 p.free.length c1, .slice A2 p.goal.length c2, .slice A3 p.rows.length c3] #[.int .i64 0, .slice none 0 0, .slice none 0 0, .slice none 0 0] 26 26)
 generalize (w.alloc (.cells #[.int .i64 vars, .slice A1 p.free.length c1, .slice A2 p.goal.length c2, .slice A3 p.rows.length c3] 26)).alloc (.cells #[.int .i64 0, .slice none 0 0, .slice none 0 0, .slice none 0 0] 26) = W0 at *
 refine (clean_calls _ _ p (HP.out.of_below KK.out.2) hlf hlg hlr HLA.out).mono ?_
 rintro e w2 ⟨v1, v2, v3, rfl, hfr, hq, hro, hb⟩
 rw [show (cleanQ p).vars = vars from HV.out.symm]
 have hq' : QO w.heap.size w2 v2 (p.goal.map fixQ) := hq.lower KK.out.2.size
 have hro' : RO w.heap.size w2 v3 (p.rows.map cleanR) := RO.lower hro KK.out.2.size
 obtain ⟨B2, d2, ev2, _⟩ := hq'.slice
 rw [List.length_map] at ev2
 subst ev2
 obtain ⟨B3, d3, ev3, _⟩ := OL.slice hro'
 rw [List.length_map] at ev3
 subst ev3
 have hfr' : FrO 0 w2 v1 p.free := hfr
 obtain ⟨B1, d1, rfl, _⟩ := hfr'.1.slice
 have K2 := Hd (KK.out.step hb)
 have hsz3 : w.heap.size + 2 ≤ w2.heap.size := by have : w.heap.size + 1 < w2.heap.size := (K2.out.blk 0 rfl).lt; omega
 obtain ⟨x0, x1, x2, x3⟩ := K2.out.c4 1 rfl
 have hlt2 := (K2.out.blk 1 rfl).lt
 clear hq hro hb hfr
 go_wp2_with fail
 have hbn := below_new w2 (.cells #[.int .i64 vars, .slice B1 p.free.length d1, .slice B2 p.goal.length d2, .slice B3 p.rows.length d3] 26)
 have HBc := Hd (Blk.new w2 26 #[.int .i64 vars, .slice B1 p.free.length d1, .slice B2 p.goal.length d2, .slice B3 p.rows.length d3])
 have HFc := Hd (hfr'.below hbn)
 have HQc := Hd (OL.below EFQ.stays hq' hbn)
 have HRc := Hd (OL.below ERO.stays hro' hbn)
 have HSc := Hd (K2.out.step hbn)
 obtain ⟨gq, hgq⟩ : ∃ g, g = w2.heap.size := ⟨_, rfl⟩
 rw [← hgq] at HBc
 have hgq2 : w.heap.size + 2 ≤ gq := by omega
 generalize w2.alloc (.cells #[.int .i64 vars, .slice B1 p.free.length d1, .slice B2 p.goal.length d2, .slice B3 p.rows.length d3] 26) = Wc at *
 rw [← hgq]
 clear hgq hbn hfr' hq' hro' x0 x1 x2 x3 hlt2 K2 hsz3
 obtain ⟨qg, hqg⟩ : ∃ q, q = p.goal.map fixQ := ⟨_, rfl⟩
 rw [← hqg] at HQc
 have HQG := Hd hqg
 obtain ⟨rq, hrq⟩ : ∃ q, q = p.rows.map cleanR := ⟨_, rfl⟩
 rw [← hrq] at HRc
 have HRQ := Hd hrq
 clear hqg hrq KK
 go_loopw [12] (fun vi wr => vi = .int .i64 0 ∧ wr = Wc) (fun _ _ => 0)
 case atStart => exact ⟨rfl, rfl⟩
 case round =>
  obtain ⟨rfl, rfl⟩ := hrel
  obtain ⟨i0, i1, i2, i3⟩ := HBc.out.c4
  have hltq := HBc.out.lt
  have HFE : Hid (boundedQ p [] = ⟨p.vars, p.free, p.goal.map fixQ, rq⟩) := by unfold Hid boundedQ; rw [HRQ.out, List.map_nil, List.append_nil]
  obtain ⟨j0, j1, j2, j3⟩ := (HSc.out.blk 0 rfl).c4
  obtain ⟨f0, f1, f2, f3⟩ := (HSc.out.blk 0 rfl).f4
  have hlt0 := (HSc.out.blk 0 rfl).lt
  go_wp2_with fail
  have hcg := chg_put4 (base := w.heap.size) (HSc.out.blk 0 rfl) (by simp) prog_words (.int .i64 vars) (.slice B1 p.free.length d1) (.slice B2 p.goal.length d2) (.slice B3 p.rows.length d3)
  rw [HFE.out]
  exact ret26 Try.results79 rfl ((HSc.out.blk 0 rfl).put4 _ _ _ _) ⟨_, _, _, by show Ending.returned _ = Ending.returned (Value.agg #[.int .i64 p.vars, _, _, _]); rw [← HV.out], HFc.out.chg hcg (by decide), by show QO _ _ _ (p.goal.map fixQ); rw [← HQG.out]; exact QO.chg HQc.out hcg (by decide), RO.chg HRc.out hcg (by decide) (by decide), below_put4 HSc.out.2 (by simp) _ _ _ _⟩
theorem tree1_calls (w : World) (v v2 : Value) (p : ProgF) (t : TreeF) (c : CaseF) (h : PR w v p) (h2 : TR w v2 t) (hcs : t.cases = [c]) (hkd0 : t.kind = 1) (hcv : c.var = -1) (hck : c.cert.kind = 1) (hr : rightP p = 0) (hr2 : rightP (rawP (boundedQ p [])) = 0) (hft : fitsB p t.x = true) (hj : judgeB (rawP (boundedQ p [])) c.cert = true)
  (hle : ordQ (valueP (rawP (boundedQ p [])) c.cert.x) (valueP p t.x) ≤ 0) (hlc : c.cert.x.length ≤ 100000 ∧ c.cert.y.length ≤ 100000 ∧ c.cert.ray.length ≤ 100000) : Calls Try.prog 38 #[v, .slice none 0 0, v2] w fun e w' => BPost w true e w' := by
 have HP := Hd h
 have HT := Hd h2
 have HC1 := Hd hcs
 have HCV := Hd hcv
 have HCK := Hd hck
 have HFT := Hd hft
 have HJ := Hd hj
 have HLE := Hd hle
 have HR0 := Hd hr
 have HR2 := Hd hr2
 have HPV := Hd (rightP_len hr)
 obtain ⟨A1, c1, A2, c2, A3, c3, rfl, HI, H1, H2, H3⟩ := h.opened
 obtain ⟨B1, d1, B2, d2, B3, d3, rfl, HTX, HTR, HTC⟩ := h2.opened
 clear h h2 hcs hcv hck hft hj hle hr hr2
 obtain ⟨vars, hv⟩ : ∃ n, n = p.vars := ⟨_, rfl⟩
 rw [← hv] at HP ⊢
 have HV := Hd hv
 obtain ⟨kd, hkd⟩ : ∃ n, n = t.kind := ⟨_, rfl⟩
 rw [← hkd] at HT ⊢
 have HKD : Hid (kd = 1) := hkd.trans hkd0
 clear hv hkd hkd0
 go_enter Try.func38, Try.ntmps38
 go_wp2_with fail
 have K0 := Hd (HS.two (w := w) #[.int .i64 vars, .slice A1 p.free.length c1, .slice A2 p.goal.length c2, .slice A3 p.rows.length c3] #[.int .i64 kd, .slice B1 t.x.length d1, .slice B2 t.ray.length d2, .slice B3 t.cases.length d3] 26 56)
 generalize (w.alloc (.cells #[.int .i64 vars, .slice A1 p.free.length c1, .slice A2 p.goal.length c2, .slice A3 p.rows.length c3] 26)).alloc (.cells #[.int .i64 kd, .slice B1 t.x.length d1, .slice B2 t.ray.length d2, .slice B3 t.cases.length d3] 56) = W0 at *
 refine (wholes1_calls W0 _ p (HP.out.of_below K0.out.2) HR0.out).mono ?_
 rintro e w1 ⟨rfl, hb⟩
 have K1 := Hd (K0.out.step hb)
 clear hb K0
 obtain ⟨x0, x1, x2, x3⟩ := (K1.out.blk 1 rfl).c4
 have hlt1 := (K1.out.blk 1 rfl).lt
 obtain ⟨y0, y1, y2, y3⟩ := (K1.out.blk 0 rfl).c4
 have hlt0 := (K1.out.blk 0 rfl).lt
 obtain rfl := HKD.out
 have k2 : ((1 : Int) == 2) = false := rfl
 have hbn := below_new w1 (.cells #[.slice B3 t.cases.length d3, .int .i64 (t.cases.length : Int), .pointer none] 97)
 have HRP := Hd (show Rep w1 B3 t.cases.length d3 (.pointer none) none t.cases.length (w1.alloc (.cells #[.slice B3 t.cases.length d3, .int .i64 (t.cases.length : Int), .pointer none] 97)) from ⟨(HS.nil w1).step hbn, Blk.new w1 97 #[.slice B3 t.cases.length d3, .int .i64 (t.cases.length : Int), .pointer none], rfl⟩)
 have K2 := Hd (K1.out.step hbn)
 clear hbn
 go_wp2_with fail
 clear x0 x1 x2 x3 hlt1 y0 y1 y2 y3 hlt0
 refine (calls_to (fits_calls _ _ _ p t.x (HP.out.of_below K2.out.2) (HTX.out.below EF.stays K2.out.2) HR0.out) HFT.out).mono ?_
 rintro e w2 ⟨rfl, hb⟩
 have HRP3 := Hd (HRP.out.below hb)
 clear hb
 obtain ⟨x0, x1, x2, x3⟩ := ((K1.out.step HRP3.out.1.2).blk 1 rfl).c4
 have hlt1 := ((K1.out.step HRP3.out.1.2).blk 1 rfl).lt
 obtain ⟨y0, y1, y2, y3⟩ := ((K1.out.step HRP3.out.1.2).blk 0 rfl).c4
 have hlt0 := ((K1.out.step HRP3.out.1.2).blk 0 rfl).lt
 go_wp2_with fail
 clear x0 x1 x2 x3 hlt1 y0 y1 y2 y3 hlt0
 go_loopw [48] (fun vi wr => vi = .int .i64 0 ∧ wr = w2) (fun _ _ => 0)
 case atStart => exact ⟨rfl, rfl⟩
 case round =>
  obtain ⟨rfl, rfl⟩ := hrel
  obtain ⟨x0, x1, x2, x3⟩ := ((K1.out.step HRP3.out.1.2).blk 1 rfl).c4
  have hlt1 := ((K1.out.step HRP3.out.1.2).blk 1 rfl).lt
  obtain ⟨y0, y1, y2, y3⟩ := ((K1.out.step HRP3.out.1.2).blk 0 rfl).c4
  have hlt0 := ((K1.out.step HRP3.out.1.2).blk 0 rfl).lt
  go_wp2_with fail
  refine (value_calls _ _ _ p t.x (HP.out.of_below (below_next K1.out.2 HRP3.out.1.2)) (HTX.out.below EF.stays (below_next K1.out.2 HRP3.out.1.2))).mono ?_
  rintro e w5 ⟨v, rfl, hv, hb⟩
  obtain ⟨E1, h1, i1, E2, h2, i2, rfl, HV5⟩ := hv.opened
  have HR5 := Hd (HRP3.out.below hb)
  clear hv hb x0 x1 x2 x3 hlt1 y0 y1 y2 y3 hlt0
  obtain ⟨x0, x1, x2, x3⟩ := ((K1.out.step HR5.out.1.2).blk 1 rfl).c4
  have hlt1 := ((K1.out.step HR5.out.1.2).blk 1 rfl).lt
  obtain ⟨y0, y1, y2, y3⟩ := ((K1.out.step HR5.out.1.2).blk 0 rfl).c4
  have hlt0 := ((K1.out.step HR5.out.1.2).blk 0 rfl).lt
  obtain ⟨r0, r1, r2⟩ := HR5.out.2.1.c3
  obtain ⟨f0, f1, f2⟩ := HR5.out.2.1.f3
  have hltr := HR5.out.2.1.lt
  have hne1 : w.heap.size ≠ w1.heap.size := Nat.ne_of_lt (K1.out.blk 1 rfl).lt
  have hne0 : w.heap.size + 1 ≠ w1.heap.size := Nat.ne_of_lt (K1.out.blk 0 rfl).lt
  go_wp2_with fail
  have hww : ∀ u ∈ #[Value.slice B3 t.cases.length d3, .int .i64 (t.cases.length : Int), .pointer none], notWord u = true := by
   intro u hu
   simp only [List.mem_toArray, List.mem_cons, List.not_mem_nil, or_false] at hu
   rcases hu with rfl | rfl | rfl <;> rfl
  have hcp := chg_put1 (base := w1.heap.size) (j := 2) HR5.out.2.1 (Nat.le_refl _) hww (.pointer (some ⟨w5.heap.size, 0, none⟩))
  have hbn := below_new (w5.setCell ⟨w1.heap.size, 2, none⟩ (.pointer (some ⟨w5.heap.size, 0, none⟩))) (.cells #[.bool (negQ (valueP p t.x)), .slice E1 h1 i1, .slice E2 h2 i2] 40)
  have HRP2 := Hd (show Rep w1 B3 t.cases.length d3 (.pointer (some ⟨w5.heap.size, 0, none⟩)) (some (valueP p t.x)) t.cases.length ((w5.setCell ⟨w1.heap.size, 2, none⟩ (.pointer (some ⟨w5.heap.size, 0, none⟩))).alloc (.cells #[.bool (negQ (valueP p t.x)), .slice E1 h1 i1, .slice E2 h2 i2] 40)) from ⟨(HR5.out.1.other1 (g := w1.heap.size) (Nat.le_refl _) (by simp) 2 _).step hbn, (HR5.out.2.1.put 2 _).below hbn (HR5.out.2.1.put 2 _).lt, value_small p t.x, w5.heap.size, E1, h1, i1, E2, h2, i2, rfl, Blk.newAt (by simp), (HV5.out.keeps hcp.1).of_below hbn⟩)
  clear hww hcp hbn r0 r1 r2 f0 f1 f2 hltr hne1 hne0 x0 x1 x2 x3 hlt1 y0 y1 y2 y3 hlt0
  generalize (w5.setCell ⟨w1.heap.size, 2, none⟩ (.pointer (some ⟨w5.heap.size, 0, none⟩))).alloc (.cells #[.bool (negQ (valueP p t.x)), .slice E1 h1 i1, .slice E2 h2 i2] 40) = W6 at *
  refine (bounded1_calls _ _ p (HP.out.of_below (below_next K1.out.2 HRP2.out.1.2)) HR0.out).mono ?_
  rintro e w8 ⟨v4, v5, v6, rfl, hfo, hqo, hro, hb⟩
  have HRP4 := Hd (HRP2.out.below hb)
  have HPB := Hd (PO.ofC hfo hqo hro (I64.of_bounded HPV.out) HRP2.out.1.2.size)
  clear hfo hqo hro hb
  go_wp2_with fail
  refine (proves1_calls (SL.below ECase.stays HTC.out K1.out.2) _ _ (.slice none 0 0) (boundedQ p []) 0 0 t.cases.length (by rw [HC1.out]; rfl) c (by rw [HC1.out]; rfl) hlc (by rw [HC1.out]; show 1 ≤ 1000000; decide) (by decide) HR2.out HCV.out HJ.out HCK.out HLE.out HRP4.out HPB.out (small_bounded p [])).mono ?_
  rintro e w9 ⟨rfl, hrz, _, _⟩
  have HRZ := Hd hrz
  clear hrz
  go_wp2_with fail
  go_ret
  exact ⟨rfl, (below_next K1.out.2 HRZ.out.1.2)⟩
theorem flat_at {k : Nat} : ∀ (L : List (List Value)) (j i : Nat) (r : List Value), (∀ r ∈ L, r.length = k) → L[j]? = some r → i < k → L.flatten[j * k + i]? = r[i]?
 | [], j, i, r, _, h, _ => by simp at h
 | x :: L, 0, i, r, hk, h, hi => by
  obtain rfl : x = r := by simpa using h
  rw [List.flatten_cons, List.getElem?_append_left (by rw [hk x (by simp)]; omega)]
  simp
 | x :: L, j + 1, i, r, hk, h, hi => by
  have hx := hk x (by simp)
  rw [List.flatten_cons, List.getElem?_append_right (by rw [hx, Nat.succ_mul]; omega), hx, show (j + 1) * k + i - k = j * k + i by rw [Nat.succ_mul]; omega]
  exact flat_at L j i r (fun r hr => hk r (List.mem_cons_of_mem _ hr)) (by simpa using h) hi
theorem flat_len {k : Nat} : ∀ (L : List (List Value)), (∀ r ∈ L, r.length = k) → L.flatten.length = L.length * k
 | [], _ => by simp
 | x :: L, h => by rw [List.flatten_cons, List.length_append, flat_len L fun r hr => h r (List.mem_cons_of_mem _ hr), h x (by simp), List.length_cons, Nat.succ_mul, Nat.add_comm]
theorem OL.new {α : Type} {k e : Nat} {E : World → Array Value → α → Prop} {base : Nat} (hE : Stays E) (w : World) (L : List (List Value)) (xs : List α) (hl : L.length = xs.length) (hk : ∀ r ∈ L, r.length = k) (he : ∀ (j : Nat) (r : List Value) (x : α), L[j]? = some r → xs[j]? = some x → E w r.toArray x) (hb : base ≤ w.heap.size) (hw : ∀ u ∈ L.flatten, notWord u = true) (hm : xs.length ≤ 1000000) :
  OL k e E base (w.alloc (.cells L.flatten.toArray e)) (.slice (some ⟨w.heap.size, 0, none⟩) xs.length xs.length) xs := by
 have hf := flat_len L hk
 rw [hl] at hf
 refine ⟨L.flatten, ⟨hf, .inr ⟨w.heap.size, xs.length, L.flatten.toArray, rfl, hb, Blk.new w e _, Nat.le_refl _, by unfold maxLen; omega, by simpa using hf, by rw [← hf]; exact List.take_length, fun u hu => hw u (by simpa using hu)⟩⟩, fun j a hj => ?_⟩
 obtain ⟨r, hr⟩ : ∃ r, L[j]? = some r := ⟨L[j]'(by rw [hl]; exact (List.getElem?_eq_some_iff.1 hj).1), List.getElem?_eq_getElem _⟩
 have hrk := hk r (List.mem_of_getElem? hr)
 refine ⟨r.toArray, by simpa using hrk, fun i u hu => ?_, hE _ _ _ _ (he j r a hr hj) (below_new w _)⟩
 have hi : i < k := by
  have := (Array.getElem?_eq_some_iff.1 hu).1
  simpa [hrk] using this
 rw [flat_at L j i r hk hr hi]
 simpa using hu
theorem SL.new {α : Type} {k : Nat} {E : World → Array Value → α → Prop} (hE : Stays E) (w : World) (t : Nat) (L : List (List Value)) (xs : List α) (hl : L.length = xs.length) (hk : ∀ r ∈ L, r.length = k) (he : ∀ (j : Nat) (r : List Value) (x : α), L[j]? = some r → xs[j]? = some x → E w r.toArray x) :
  SL k E (w.alloc (.cells L.flatten.toArray t)) (.slice (some ⟨w.heap.size, 0, none⟩) xs.length xs.length) xs := by
 refine ⟨_, _, rfl, Nat.le_refl _, fun _ => ⟨w.heap.size, 0, rfl, (Blk.new w t _).lt, fun j x hj => ?_⟩⟩
 obtain ⟨r, hr⟩ : ∃ r, L[j]? = some r := ⟨L[j]'(by rw [hl]; exact (List.getElem?_eq_some_iff.1 hj).1), List.getElem?_eq_getElem _⟩
 have hrk := hk r (List.mem_of_getElem? hr)
 refine ⟨r.toArray, by simpa using hrk, fun i v hv => ?_, hE _ _ _ _ (he j r x hr hj) (below_new w _)⟩
 have hi : i < k := by
  have := (Array.getElem?_eq_some_iff.1 hv).1
  simpa [hrk] using this
 have := (Blk.new w t L.flatten.toArray).cell (j := j * k + i) (v := v) (by
  rw [List.getElem?_toArray, flat_at L j i r hk hr hi]
  simpa using hv)
 simpa using this
theorem flat_one {α : Type} (f : α → Value) : ∀ l : List α, (l.map fun x => [f x]).flatten = l.map f
 | [] => rfl
 | x :: l => by rw [List.map_cons, List.flatten_cons, flat_one f l]; rfl
theorem il_new (w : World) (l : List Int) (t : Nat) : IL (w.alloc (.cells (l.map fun x => Value.int .i64 x).toArray t)) (.slice (some ⟨w.heap.size, 0, none⟩) l.length l.length) l := by
 have := SL.new EI.stays w t (l.map fun x => [Value.int .i64 x]) l (by simp) (by intro r hr; obtain ⟨x, _, rfl⟩ := List.mem_map.1 hr; rfl) (fun j r x hr hx => by
  rw [List.getElem?_map, hx] at hr
  obtain rfl : [Value.int .i64 x] = r := by simpa using hr
  rfl)
 rw [flat_one] at this
 exact this
theorem fro_new (b : Nat) (w : World) (l : List Bool) : FrO b (w.alloc (.cells (l.map fun x => Value.bool x).toArray 4)) (.slice (some ⟨w.heap.size, 0, none⟩) l.length l.length) l := by
 have := SL.new EB.stays w 4 (l.map fun x => [Value.bool x]) l (by simp) (by intro r hr; obtain ⟨x, _, rfl⟩ := List.mem_map.1 hr; rfl) (fun j r x hr hx => by
  rw [List.getElem?_map, hx] at hr
  obtain rfl : [Value.bool x] = r := by simpa using hr
  rfl)
 rw [flat_one] at this
 refine ⟨this, fun g hg _ => .inr ⟨(l.map fun x => Value.bool x).toArray, ?_⟩⟩
 have e : w.heap.size = g := by simpa [Value.ownBlock] using hg
 rw [← e]
 exact Blk.new w 4 _
theorem small_ofInt (x : Int) (h0 : -9223372036854775808 ≤ x) (h1 : x < 9223372036854775808) : Small (x : Rat) := by
 have := size_int x h0 h1
 unfold Small
 omega
def exP : ProgQ := ⟨2, [false, false], [3, 2], [⟨[1, 1], -1, 4⟩, ⟨[1, 0], -1, 3⟩]⟩
def exOne : ProgQ := ⟨1, [false], [1], []⟩
def exNone : ProgQ := ⟨1, [false], [1], [⟨[1], -1, -1⟩]⟩
def PtrQ (w : World) (v : Value) (q : Rat) : Prop := ∃ g c, v = .pointer (some ⟨g, 0, none⟩) ∧ QO 0 w (.slice (some ⟨g, 0, none⟩) 1 c) [q]
theorem PtrQ.below {w w1 : World} {v : Value} {q : Rat} (h : PtrQ w v q) (hb : Below w.heap.size w w1) : PtrQ w1 v q := by
 obtain ⟨g, c, e, h⟩ := h
 exact ⟨g, c, e, OL.below EFQ.stays h hb⟩
def RowO (b : Nat) (w : World) (v : Value) (r : RowQ) : Prop := ∃ A n c A1 n1 c1 A2 n2 c2, v = .agg #[.slice A n c, .int .i64 r.s, .bool (negQ r.b), .slice A1 n1 c1, .slice A2 n2 c2] ∧ ERO b w #[.slice A n c, .int .i64 r.s, .bool (negQ r.b), .slice A1 n1 c1, .slice A2 n2 c2] r
theorem RowO.below {b : Nat} {w w1 : World} {v : Value} {r : RowQ} (h : RowO b w v r) (hb : Below w.heap.size w w1) : RowO b w1 v r := by
 obtain ⟨A, n, c, A1, n1, c1, A2, n2, c2, e, h⟩ := h
 exact ⟨A, n, c, A1, n1, c1, A2, n2, c2, e, ERO.stays _ _ _ _ h hb⟩
def Box4 (b t : Nat) (w : World) (v : Value) : Prop := ∃ g, v = .pointer (some ⟨g, 0, none⟩) ∧ b ≤ g ∧ Blk w g t #[.int .i64 0, .slice none 0 0, .slice none 0 0, .slice none 0 0]
theorem Box4.below {b t : Nat} {w w1 : World} {v : Value} (h : Box4 b t w v) (hb : Below w.heap.size w w1) : Box4 b t w1 v := by
 obtain ⟨g, e, h1, h⟩ := h
 exact ⟨g, e, h1, h.below hb h.lt⟩
theorem chg_of_only {base g t : Nat} {w w1 : World} {cs : Array Value} (h : Only g w w1) (hb : Blk w g t cs) (hg : base ≤ g) : Chg base t w w1 := ⟨h.1, fun k hk ho => h.2.1 k hk fun e => by
 subst e
 rcases ho with ho | ho
 ·omega
 ·exact ho cs hb⟩
def F1 (b : Nat) (i : Nat) (v : Value) (w : World) : Prop :=
 match i with
 | 0 => FrO b w v [false, false]
 | 1 => IL w v [3, 2]
 | 2 => QO b w v [3, 2]
 | 3 => IL w v [1, 1]
 | 4 => QO b w v [1, 1]
 | 5 => IL w v [4]
 | 6 => QO b w v [4]
 | 7 => PtrQ w v 4
 | 8 => FQ w v 4
 | 9 => RowO b w v ⟨[1, 1], -1, 4⟩
 | 10 => IL w v [1, 0]
 | 11 => QO b w v [1, 0]
 | 12 => IL w v [3]
 | 13 => QO b w v [3]
 | 14 => PtrQ w v 3
 | 15 => FQ w v 3
 | 16 => RowO b w v ⟨[1, 0], -1, 3⟩
 | 17 => RO b w v exP.rows
 | 18 => PO b w v exP
 | 19 => Box4 b 26 w v
 | _ => True
theorem F1.below {b i : Nat} {v : Value} {w w1 : World} (h : F1 b i v w) (hb : Below w.heap.size w w1) : F1 b i v w1 := by
 match i, h with
 | 0, h => exact FrO.below (show FrO b w v _ from h) hb
 | 1, h => exact SL.below EI.stays (show IL w v _ from h) hb
 | 2, h => exact OL.below EFQ.stays (show QO b w v _ from h) hb
 | 3, h => exact SL.below EI.stays (show IL w v _ from h) hb
 | 4, h => exact OL.below EFQ.stays (show QO b w v _ from h) hb
 | 5, h => exact SL.below EI.stays (show IL w v _ from h) hb
 | 6, h => exact OL.below EFQ.stays (show QO b w v _ from h) hb
 | 7, h => exact PtrQ.below h hb
 | 8, h => exact FQ.of_below h hb
 | 9, h => exact RowO.below h hb
 | 10, h => exact SL.below EI.stays (show IL w v _ from h) hb
 | 11, h => exact OL.below EFQ.stays (show QO b w v _ from h) hb
 | 12, h => exact SL.below EI.stays (show IL w v _ from h) hb
 | 13, h => exact OL.below EFQ.stays (show QO b w v _ from h) hb
 | 14, h => exact PtrQ.below h hb
 | 15, h => exact FQ.of_below h hb
 | 16, h => exact RowO.below h hb
 | 17, h => exact OL.below ERO.stays (show RO b w v _ from h) hb
 | 18, h => exact PO.below h hb
 | 19, h => exact Box4.below h hb
 | _ + 20, h => exact trivial
noncomputable def cA : Option (Int × Tab × List Rat) := climbQ (realB exP 2 2) 20 (buildTab exP 2 2) (reducedQ (cost1 (realB exP 2 2) (widthB exP 2 2)) (buildTab exP 2 2))
noncomputable def rA : Int × Tab × List Rat := cA.getD (0, buildTab exP 2 2, [])
theorem hA : cA = some rA := by
 have : cA.isSome = true := by kernel_rfl
 obtain ⟨r, e⟩ := Option.isSome_iff_exists.1 this
 unfold rA
 rw [e]
 rfl
theorem hbad : ((List.range 2).all fun i => decide (rA.2.1.base.getD i 0 < (realB exP 2 2 : Int))) = true := by kernel_rfl
noncomputable def cB : Option (Int × Tab × List Rat) := climbQ (realB exP 2 2) 20 (driveN (realB exP 2 2) rA.2.1 2) (reducedQ (cost2 exP 2 2) (driveN (realB exP 2 2) rA.2.1 2))
noncomputable def rB : Int × Tab × List Rat := cB.getD (0, buildTab exP 2 2, [])
theorem hB : cB = some rB := by
 have : cB.isSome = true := by kernel_rfl
 obtain ⟨r, e⟩ := Option.isSome_iff_exists.1 this
 unfold rB
 rw [e]
 rfl
theorem solveE : solveQ exP 2 2 20 = some ⟨1, [3, 1], [2, 1], []⟩ := by
 have hb : ¬ ∃ i, i < 2 ∧ badAt rA.2.1 (realB exP 2 2) i := by
  rintro ⟨i, hi, h, _⟩
  have := List.all_eq_true.1 hbad i (List.mem_range.2 hi)
  simp only [decide_eq_true_eq] at this
  omega
 unfold solveQ
 rw [show climbQ (realB exP 2 2) 20 (buildTab exP 2 2) (reducedQ (cost1 (realB exP 2 2) (widthB exP 2 2)) (buildTab exP 2 2)) = some rA from hA]
 show solve2 exP 2 2 20 rA.2.1 rA.2.2 = _
 unfold solve2
 rw [if_neg hb, show climbQ (realB exP 2 2) 20 (driveN (realB exP 2 2) rA.2.1 2) (reducedQ (cost2 exP 2 2) (driveN (realB exP 2 2) rA.2.1 2)) = some rB from hB]
 show some (solve3 exP 2 2 rB.1 rB.2.1 rB.2.2) = _
 kernel_rfl
theorem solve0 : solveCode (rawP exP) = 0 := by kernel_rfl
end Go.Proofs.Ytfhambfgjigneaa

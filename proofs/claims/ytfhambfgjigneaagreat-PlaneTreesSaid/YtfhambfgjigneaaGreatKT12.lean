/- Contracts of Go functions that the statement reaches, proved by walking their text, and plain laws over them (texts put together). -/
import Derived.Test.YtfhambfgjigneaaGreatKT11
set_option linter.unusedVariables false
set_option linter.unusedSimpArgs false
namespace Go.Proofs.YtfhambfgjigneaaGreat
open Go.RowKit
def RPost (w : World) (r : Nat × Bool) (e : Ending) (w' : World) : Prop := e = .returned (.tuple #[.int .i64 (r.1 : Int), .bool r.2]) ∧ Below w.heap.size w w'
def PSpec (p : ProgF) (wh : List Int) (t : TreeF) (n : Nat) : Prop := ∀ (w : World) (v vx v2 vs vb : Value) (at_ : Nat) (vars bits : List Int) (most : Nat), most ≤ n → PR w v p → IL w vx wh → TR w v2 t → IL w vs vars → IL w vb bits → at_ < t.cases.length → (∀ x ∈ vars, I64 x) → (∀ x ∈ bits, I64 x) → vars.length + n ≤ 1000000 → bits.length + n ≤ 1000000 →
 Calls Tryz.prog 51 #[v, vx, v2, .int .i64 (at_ : Int), vs, vb, .int .i64 (most : Int)] w fun e w' => RPost w (provesR p wh t n at_ vars bits most) e w'
theorem provesR_zero (p : ProgF) (wh : List Int) (t : TreeF) (n : Nat) (at_ : Int) (vars bits : List Int) : provesR p wh t n at_ vars bits 0 = (0, false) := by
 cases n with
 | zero => rfl
 | succ n => unfold provesR; rw [if_pos rfl]
theorem i64_more {l : List Int} {x : Int} (h : ∀ y ∈ l, I64 y) (hx : I64 x) : ∀ y ∈ l ++ [x], I64 y := fun y hy => by
 rcases List.mem_append.1 hy with hy | hy
 ·exact h y hy
 ·rw [List.mem_singleton] at hy; rw [hy]; exact hx
theorem calls_y {a b c d e f : Value} {y y' : Int} {w : World} {Q : Ending → World → Prop} (h : Calls Tryz.prog 51 #[a, b, c, d, e, f, .int .i64 y] w Q) (hy : y = y') : Calls Tryz.prog 51 #[a, b, c, d, e, f, .int .i64 y'] w Q := hy ▸ h
theorem CR.y {w : World} {k : Value} {v1 v2 v3 : Value} {c : CertF} (h : CR w (.agg #[k, v1, v2, v3]) c) : FL w v2 c.y := by
 obtain ⟨u1, u2, u3, e, _, _, h1, _⟩ := h
 injection e with e
 injection e with e
 injection e with _ e
 injection e with _ e
 injection e with e1 _
 rw [e1]
 exact h1
set_option maxHeartbeats 32000000 in
set_option maxRecDepth 100000 in
theorem rproves_none (p : ProgF) (wh : List Int) (t : TreeF) (w : World) (v vx v2 vs vb : Value) (at_ : Nat) (vars bits : List Int) (h : PR w v p) (hx : IL w vx wh) (h2 : TR w v2 t) (hs : IL w vs vars) (hb : IL w vb bits) : Calls Tryz.prog 51 #[v, vx, v2, .int .i64 (at_ : Int), vs, vb, .int .i64 ((0 : Nat) : Int)] w fun e w' => RPost w (0, false) e w' := by
 obtain ⟨X1, xc, rfl, _⟩ := hx.slice
 obtain ⟨Y1, yc, rfl, _⟩ := hs.slice
 obtain ⟨Z1, zc, rfl, _⟩ := hb.slice
 obtain ⟨A1, c1, A2, c2, A3, c3, rfl, HI, H1, H2, H3⟩ := h.opened
 obtain ⟨B1, d1, B2, d2, B3, d3, rfl, HTX, HTR, HTC⟩ := h2.opened
 clear h hx h2 hs hb
 have u : decide (((0 : Nat) : Int) < 1) = true := by decide
 have u' : decide ((0 : Int) < 1) = true := by decide
 obtain ⟨nv, hnv⟩ : ∃ n, n = p.vars := ⟨_, rfl⟩
 rw [← hnv]
 clear hnv
 go_enter Tryz.func51, Tryz.ntmps51
 go_wp2_with fail
 (try simp only [Exit.inBlock, Exit.then])
 refine bodyPost_ret (results_tmp2 rfl _ _ _) rfl ?_
 exact ⟨rfl, below_next (below_new _ _) (below_new _ _)⟩
set_option maxHeartbeats 32000000 in
set_option maxRecDepth 100000 in
theorem rproves_step (p : ProgF) (wh : List Int) (t : TreeF) (hwl : wh.length ≤ 10000) (hr : rightP p = 0) (hd : distinctB p.vars wh = true) (hcl : t.cases.length ≤ 1000000)
  (hlc : ∀ c ∈ t.cases, c.cert.x.length ≤ 100000 ∧ c.cert.y.length ≤ 100000 ∧ c.cert.ray.length ≤ 100000) (n : Nat) (ih : PSpec p wh t n) : PSpec p wh t (n + 1) := by
 intro w v vx v2 vs vb at_ vars bits most hm h hx h2 hs hb hat hvi hbi hvl hbl
 by_cases hz : most = 0
 ·subst hz
  rw [provesR_zero]
  exact rproves_none p wh t w v vx v2 vs vb at_ vars bits h hx h2 hs hb
 obtain ⟨c, hc⟩ : ∃ c, t.cases[at_]? = some c := ⟨t.cases[at_], List.getElem?_eq_getElem hat⟩
 have IH := Hd ih
 have HP := Hd h
 have HX := Hd hx
 have HT := Hd h2
 have HVS := Hd hs
 have HBS := Hd hb
 have HVI := Hd hvi
 have HBI := Hd hbi
 have HLC := Hd hlc
 have HR0 := Hd hr
 have HD := Hd hd
 have HCA := Hd hc
 obtain ⟨X1, xc, rfl, _⟩ := hx.slice
 obtain ⟨Y1, yc, rfl, _⟩ := hs.slice
 obtain ⟨Z1, zc, rfl, _⟩ := hb.slice
 obtain ⟨A1, c1, A2, c2, A3, c3, rfl, HI, H1, H2, H3⟩ := h.opened
 obtain ⟨B1, d1, B2, d2, B3, d3, rfl, HTX, HTR, HTC⟩ := h2.opened
 obtain ⟨gC, oC, D1, e1, D2, e2, D3, e3, rfl, hgC, ⟨k0, k1, k2, k3, k4, k5, k6⟩, HCI, HCR⟩ := CL.at7 HTC.out hc
 have hlen := hlc c (List.mem_of_getElem? hc)
 have hcr := Hd (rfl : c = c)
 obtain ⟨nv, hnv⟩ : ∃ n, n = p.vars := ⟨_, rfl⟩
 rw [← hnv] at HP HI hd ⊢
 have HV := Hd hnv
 have u1 : decide ((most : Int) < 1) = false := decide_eq_false (by omega)
 have u1' : ¬ ((most : Int) < 1) := by omega
 have m1 : (at_ : Int) < (t.cases.length : Int) := by omega
 have m2 : (at_ : Int).toNat = at_ := by omega
 have m3 : (0 : Int) ≤ (at_ : Int) := by omega
 have HM : Hid (provesR p wh t (n + 1) at_ vars bits most = if c.var = -1 then (1, leafR p wh t vars bits c.cert)
    else if stepBad t.cases wh vars at_ c = true then (1, false)
    else if (provesR p wh t n c.zero (vars ++ [c.var]) (bits ++ [0]) (most - 1)).2 = true then
     (1 + (provesR p wh t n c.zero (vars ++ [c.var]) (bits ++ [0]) (most - 1)).1 + (provesR p wh t n c.one (vars ++ [c.var]) (bits ++ [1]) (most - 1 - (provesR p wh t n c.zero (vars ++ [c.var]) (bits ++ [0]) (most - 1)).1)).1, (provesR p wh t n c.one (vars ++ [c.var]) (bits ++ [1]) (most - 1 - (provesR p wh t n c.zero (vars ++ [c.var]) (bits ++ [0]) (most - 1)).1)).2)
    else (1 + (provesR p wh t n c.zero (vars ++ [c.var]) (bits ++ [0]) (most - 1)).1, false)) := by
  unfold Hid
  rw [provesR, if_neg hz, m2, hc]
 clear h hx h2 hs hb hvi hbi hlc hr hd hc hnv ih H1 H2 H3
 go_enter Tryz.func51, Tryz.ntmps51
 go_upto_region 3 with (fail)
 have KT := Hd (HS.two (w := w) #[.int .i64 nv, .slice A1 p.free.length c1, .slice A2 p.goal.length c2, .slice A3 p.rows.length c3] #[.int .i64 t.kind, .slice B1 t.x.length d1, .slice B2 t.ray.length d2, .slice (some ⟨gC, oC, none⟩) t.cases.length d3] 26 30)
 have q0 : ((w.alloc (.cells #[.int .i64 nv, .slice A1 p.free.length c1, .slice A2 p.goal.length c2, .slice A3 p.rows.length c3] 26)).alloc (.cells #[.int .i64 t.kind, .slice B1 t.x.length d1, .slice B2 t.ray.length d2, .slice (some ⟨gC, oC, none⟩) t.cases.length d3] 30)).cell? ⟨gC, oC + at_ * 7, none⟩ = some (.int .i64 c.var) := ((bcell KT.out.2).1 gC _ hgC).trans k0
 have q1 : ((w.alloc (.cells #[.int .i64 nv, .slice A1 p.free.length c1, .slice A2 p.goal.length c2, .slice A3 p.rows.length c3] 26)).alloc (.cells #[.int .i64 t.kind, .slice B1 t.x.length d1, .slice B2 t.ray.length d2, .slice (some ⟨gC, oC, none⟩) t.cases.length d3] 30)).cell? ⟨gC, oC + at_ * 7 + 1, none⟩ = some (.int .i64 c.zero) := ((bcell KT.out.2).1 gC _ hgC).trans k1
 have q2 : ((w.alloc (.cells #[.int .i64 nv, .slice A1 p.free.length c1, .slice A2 p.goal.length c2, .slice A3 p.rows.length c3] 26)).alloc (.cells #[.int .i64 t.kind, .slice B1 t.x.length d1, .slice B2 t.ray.length d2, .slice (some ⟨gC, oC, none⟩) t.cases.length d3] 30)).cell? ⟨gC, oC + at_ * 7 + 2, none⟩ = some (.int .i64 c.one) := ((bcell KT.out.2).1 gC _ hgC).trans k2
 have q3 : ((w.alloc (.cells #[.int .i64 nv, .slice A1 p.free.length c1, .slice A2 p.goal.length c2, .slice A3 p.rows.length c3] 26)).alloc (.cells #[.int .i64 t.kind, .slice B1 t.x.length d1, .slice B2 t.ray.length d2, .slice (some ⟨gC, oC, none⟩) t.cases.length d3] 30)).cell? ⟨gC, oC + at_ * 7 + 3, none⟩ = some (.int .i64 c.cert.kind) := ((bcell KT.out.2).1 gC _ hgC).trans k3
 have q4 : ((w.alloc (.cells #[.int .i64 nv, .slice A1 p.free.length c1, .slice A2 p.goal.length c2, .slice A3 p.rows.length c3] 26)).alloc (.cells #[.int .i64 t.kind, .slice B1 t.x.length d1, .slice B2 t.ray.length d2, .slice (some ⟨gC, oC, none⟩) t.cases.length d3] 30)).cell? ⟨gC, oC + at_ * 7 + 4, none⟩ = some (.slice D1 c.cert.x.length e1) := ((bcell KT.out.2).1 gC _ hgC).trans k4
 have q5 : ((w.alloc (.cells #[.int .i64 nv, .slice A1 p.free.length c1, .slice A2 p.goal.length c2, .slice A3 p.rows.length c3] 26)).alloc (.cells #[.int .i64 t.kind, .slice B1 t.x.length d1, .slice B2 t.ray.length d2, .slice (some ⟨gC, oC, none⟩) t.cases.length d3] 30)).cell? ⟨gC, oC + at_ * 7 + 5, none⟩ = some (.slice D2 c.cert.y.length e2) := ((bcell KT.out.2).1 gC _ hgC).trans k5
 have q6 : ((w.alloc (.cells #[.int .i64 nv, .slice A1 p.free.length c1, .slice A2 p.goal.length c2, .slice A3 p.rows.length c3] 26)).alloc (.cells #[.int .i64 t.kind, .slice B1 t.x.length d1, .slice B2 t.ray.length d2, .slice (some ⟨gC, oC, none⟩) t.cases.length d3] 30)).cell? ⟨gC, oC + at_ * 7 + 6, none⟩ = some (.slice D3 c.cert.ray.length e3) := ((bcell KT.out.2).1 gC _ hgC).trans k6
 have hgC1 : gC < ((w.alloc (.cells #[.int .i64 nv, .slice A1 p.free.length c1, .slice A2 p.goal.length c2, .slice A3 p.rows.length c3] 26)).alloc (.cells #[.int .i64 t.kind, .slice B1 t.x.length d1, .slice B2 t.ray.length d2, .slice (some ⟨gC, oC, none⟩) t.cases.length d3] 30)).heap.size := Nat.lt_of_lt_of_le hgC KT.out.2.size
 have hsz : ((w.alloc (.cells #[.int .i64 nv, .slice A1 p.free.length c1, .slice A2 p.goal.length c2, .slice A3 p.rows.length c3] 26)).alloc (.cells #[.int .i64 t.kind, .slice B1 t.x.length d1, .slice B2 t.ray.length d2, .slice (some ⟨gC, oC, none⟩) t.cases.length d3] 30)).heap.size = w.heap.size + 2 := by simp
 obtain ⟨y0, y1, y2, y3⟩ := (KT.out.blk 0 rfl).c4
 have hltt := (KT.out.blk 0 rfl).lt
 generalize (w.alloc (.cells #[.int .i64 nv, .slice A1 p.free.length c1, .slice A2 p.goal.length c2, .slice A3 p.rows.length c3] 26)).alloc (.cells #[.int .i64 t.kind, .slice B1 t.x.length d1, .slice B2 t.ray.length d2, .slice (some ⟨gC, oC, none⟩) t.cases.length d3] 30) = W0 at *
 clear k0 k1 k2 k3 k4 k5 k6
 go_upto_region 4 with (fail)
 have hbn := below_new W0 (.cells #[.int .i64 c.var, .int .i64 c.zero, .int .i64 c.one, .int .i64 c.cert.kind, .slice D1 c.cert.x.length e1, .slice D2 c.cert.y.length e2, .slice D3 c.cert.ray.length e3] 69)
 have HRP : Hid (HS w [(w.heap.size + 2, 69, #[.int .i64 c.var, .int .i64 c.zero, .int .i64 c.one, .int .i64 c.cert.kind, .slice D1 c.cert.x.length e1, .slice D2 c.cert.y.length e2, .slice D3 c.cert.ray.length e3]), (w.heap.size + 1, 30, #[.int .i64 t.kind, .slice B1 t.x.length d1, .slice B2 t.ray.length d2, .slice (some ⟨gC, oC, none⟩) t.cases.length d3]), (w.heap.size, 26, #[.int .i64 nv, .slice A1 p.free.length c1, .slice A2 p.goal.length c2, .slice A3 p.rows.length c3])] (W0.alloc (.cells #[.int .i64 c.var, .int .i64 c.zero, .int .i64 c.one, .int .i64 c.cert.kind, .slice D1 c.cert.x.length e1, .slice D2 c.cert.y.length e2, .slice D3 c.cert.ray.length e3] 69))) := by
  refine ⟨fun b hb => ?_, below_next KT.out.2 hbn⟩
  rcases List.mem_cons.1 hb with rfl | hb
  ·rw [← hsz]; exact Blk.new W0 69 #[.int .i64 c.var, .int .i64 c.zero, .int .i64 c.one, .int .i64 c.cert.kind, .slice D1 c.cert.x.length e1, .slice D2 c.cert.y.length e2, .slice D3 c.cert.ray.length e3]
  ·exact (KT.out.1 b hb).below hbn (KT.out.1 b hb).lt
 clear q0 q1 q2 q3 q4 q5 q6 hgC1 y0 y1 y2 y3 hltt hbn KT hsz
 generalize W0.alloc (.cells #[.int .i64 c.var, .int .i64 c.zero, .int .i64 c.one, .int .i64 c.cert.kind, .slice D1 c.cert.x.length e1, .slice D2 c.cert.y.length e2, .slice D3 c.cert.ray.length e3] 69) = W1 at *
 obtain ⟨x0, x1, x2, x3⟩ := (HRP.out.blk 2 rfl).c4
 have hltp := (HRP.out.blk 2 rfl).lt
 obtain ⟨y0, y1, y2, y3⟩ := (HRP.out.blk 1 rfl).c4
 have hltt := (HRP.out.blk 1 rfl).lt
 obtain ⟨z0, z1, z2, z3, z4, z5, z6⟩ := (HRP.out.blk 0 rfl).c7
 have hltc := (HRP.out.blk 0 rfl).lt
 by_cases hv : c.var = -1
 case pos =>
  have v1 : (c.var == -1) = true := beqI' hv
  have HE : Hid (provesR p wh t (n + 1) at_ vars bits most = (1, leafR p wh t vars bits c.cert)) := by unfold Hid; rw [HM.out, if_pos hv]
  clear hv
  go_wp2_with fail
  clear x0 x1 x2 x3 hltp y0 y1 y2 y3 hltt z0 z1 z2 z3 z4 z5 z6 hltc
  refine (rnode_calls _ _ _ _ _ p wh vars bits (HP.out.of_below HRP.out.2) (HX.out.below EI.stays HRP.out.2) (HVS.out.below EI.stays HRP.out.2) (HBS.out.below EI.stays HRP.out.2) (by omega) (by omega) (by omega) HVI.out HBI.out HR0.out HD.out).mono ?_
  rintro e w2 ⟨v, rfl, hpo, hb⟩
  obtain ⟨E1, f1, E2, f2, E3, f3, rfl, _, _, _, _⟩ := hpo.opened
  have HPO2 := Hd hpo
  have HR2 := Hd (HRP.out.step hb)
  clear hpo hb
  by_cases z : nodeC p wh vars bits = 0
  case neg =>
   have z1 : decide (nodeC p wh vars bits = 0) = false := decide_eq_false z
   have HL : Hid (provesR p wh t (n + 1) at_ vars bits most = (1, false)) := by unfold Hid; rw [HE.out]; unfold leafR; rw [z1]; rfl
   clear z
   obtain ⟨x0, x1, x2, x3⟩ := (HR2.out.blk 2 rfl).c4
   have hltp := (HR2.out.blk 2 rfl).lt
   obtain ⟨y0, y1, y2, y3⟩ := (HR2.out.blk 1 rfl).c4
   have hltt := (HR2.out.blk 1 rfl).lt
   obtain ⟨z0, z1, z2, z3, z4, z5, z6⟩ := (HR2.out.blk 0 rfl).c7
   have hltc := (HR2.out.blk 0 rfl).lt
   go_wp2_with fail
   (try simp only [Exit.inBlock, Exit.then])
   refine bodyPost_ret (results_tmp2 rfl _ _ _) rfl ?_
   exact ⟨by rw [HL.out]; rfl, below_next HR2.out.2 (below_new _ _)⟩
  have z1 : decide (nodeC p wh vars bits = 0) = true := decide_eq_true z
  have HZ := Hd z1
  have HSN : Hid (SmallP (nodeP p wh vars bits)) := by
   unfold Hid
   rw [node_eq z]
   unfold nodeC at z
   rw [fix_ok (by
    refine Classical.byContradiction fun h => ?_
    unfold fixCode at z
    rw [if_pos h] at z
    exact h z)] at z
   exact small_node z.2.2.1
  clear z
  go_upto_region 6 with (fail)
  have hbn := below_new w2 (.cells #[.int .i64 (nodeP p wh vars bits).vars, .slice E1 (nodeP p wh vars bits).free.length f1, .slice E2 (nodeP p wh vars bits).goal.length f2, .slice E3 (nodeP p wh vars bits).rows.length f3] 26)
  have HR3 := Hd (HR2.out.step hbn)
  have HPO3 := Hd (HPO2.out.below hbn)
  have HB3 := Hd (Blk.new w2 26 #[.int .i64 (nodeP p wh vars bits).vars, .slice E1 (nodeP p wh vars bits).free.length f1, .slice E2 (nodeP p wh vars bits).goal.length f2, .slice E3 (nodeP p wh vars bits).rows.length f3])
  obtain ⟨gn, hgn⟩ : ∃ g, g = w2.heap.size := ⟨_, rfl⟩
  rw [← hgn] at HB3 ⊢
  generalize w2.alloc (.cells #[.int .i64 (nodeP p wh vars bits).vars, .slice E1 (nodeP p wh vars bits).free.length f1, .slice E2 (nodeP p wh vars bits).goal.length f2, .slice E3 (nodeP p wh vars bits).rows.length f3] 26) = W3 at *
  clear hgn hbn HR2 HPO2
  obtain ⟨x0, x1, x2, x3⟩ := (HR3.out.blk 2 rfl).c4
  have hltp := (HR3.out.blk 2 rfl).lt
  obtain ⟨y0, y1, y2, y3⟩ := (HR3.out.blk 1 rfl).c4
  have hltt := (HR3.out.blk 1 rfl).lt
  obtain ⟨z0, z1, z2, z3, z4, z5, z6⟩ := (HR3.out.blk 0 rfl).c7
  have hltc := (HR3.out.blk 0 rfl).lt
  obtain ⟨b0, b1, b2, b3⟩ := HB3.out.c4
  have hltb := HB3.out.lt
  go_wp2_with fail
  refine (rjudge_calls _ _ _ (rawP (nodeP p wh vars bits)) c.cert (PO.pr HPO3.out HSN.out) (HCR.out.of_below HR3.out.2) hlen.1 hlen.2.1 hlen.2.2).mono ?_
  rintro e w4 ⟨rfl, hb⟩
  have HR4 := Hd (HR3.out.step hb)
  clear hb x0 x1 x2 x3 hltp y0 y1 y2 y3 hltt z0 z1 z2 z3 z4 z5 z6 hltc b0 b1 b2 b3 hltb HR3 HPO3 HB3
  obtain ⟨W3, rfl⟩ : ∃ x, x = w4 := ⟨_, rfl⟩
  have HR3 := HR4
  clear HR4
  obtain ⟨x0, x1, x2, x3⟩ := (HR3.out.blk 2 rfl).c4
  have hltp := (HR3.out.blk 2 rfl).lt
  obtain ⟨y0, y1, y2, y3⟩ := (HR3.out.blk 1 rfl).c4
  have hltt := (HR3.out.blk 1 rfl).lt
  obtain ⟨z0, z1, z2, z3, z4, z5, z6⟩ := (HR3.out.blk 0 rfl).c7
  have hltc := (HR3.out.blk 0 rfl).lt
  obtain ⟨b0, b1, b2, b3, hltb⟩ : True ∧ True ∧ True ∧ True ∧ True := ⟨trivial, trivial, trivial, trivial, trivial⟩
  cases hj : rjudgeB (rawP (nodeP p wh vars bits)) c.cert
  case false =>
   have HL : Hid (provesR p wh t (n + 1) at_ vars bits most = (1, false)) := by unfold Hid; rw [HE.out]; unfold leafR; rw [hj]; simp
   clear hj
   go_wp2_with fail
   (try simp only [Exit.inBlock, Exit.then])
   refine bodyPost_ret (results_tmp2 rfl _ _ _) rfl ?_
   exact ⟨by rw [HL.out]; rfl, HR3.out.2⟩
  have HJ := Hd hj
  clear hj
  by_cases k2 : c.cert.kind = 2
  case pos =>
   have v2 : (c.cert.kind == 2) = true := beqI' k2
   have HL : Hid (provesR p wh t (n + 1) at_ vars bits most = (1, true)) := by unfold Hid; rw [HE.out]; unfold leafR; rw [HZ.out, HJ.out, decide_eq_true k2]; rfl
   clear k2
   go_wp2_with fail
   (try simp only [Exit.inBlock, Exit.then])
   refine bodyPost_ret (results_tmp2 rfl _ _ _) rfl ?_
   exact ⟨by rw [HL.out]; rfl, HR3.out.2⟩
  have v2 : (c.cert.kind == 2) = false := bneI' k2
  have HK1 : Hid (decide (c.cert.kind = 2) = false) := decide_eq_false k2
  clear k2
  by_cases k1 : c.cert.kind = 1
  case neg =>
   have v3 : (c.cert.kind == 1) = false := bneI' k1
   have HK2 := Hd k1
   clear k1
   go_wp2_with fail
   refine wp_chainS (S := Below W3.heap.size W3) [([0, 1, 2, 3, 4, 5, 6, 7, 8, 9, 10, 11, 12, 13, 15, 16, 17], 14), ([], 18), ([], 19)] [20, 21, 22, 23] (by kernel_rfl) (by kernel_rfl) (by kernel_rfl) rfl (Below.drew (Below.refl _ _)) ?_
   have HL : Hid (provesR p wh t (n + 1) at_ vars bits most = (1, false)) := by unfold Hid; rw [HE.out]; unfold leafR; rw [HZ.out, HJ.out, HK1.out, decide_eq_false HK2.out]; rfl
   refine ⟨?_, _, ?_, rfl, ?_⟩
   rotate_left
   ·(iterate 5 ((refine ⟨_, ?_, rfl, Or.inl ⟨by rfl, ?_⟩, ?_⟩; rotate_left; focus (intro W hW; replace hW := (bcell hW).1; go_simp; try with_reducible rfl)); (try simp only [SQ]))); (iterate 3 ((refine ⟨_, undef, rfl, Or.inr ⟨by kernel_rfl, rfl⟩, ?_⟩); (try simp only [SQ]))); (iterate 2 ((refine ⟨_, ?_, rfl, Or.inl ⟨by rfl, ?_⟩, ?_⟩; rotate_left; focus (intro W hW; replace hW := (bcell hW).1; go_simp; try with_reducible rfl)); (try simp only [SQ]))); (iterate 7 ((refine ⟨_, undef, rfl, Or.inr ⟨by kernel_rfl, rfl⟩, ?_⟩); (try simp only [SQ])))
    exact rfl
   have D0 : Hid (Below W3.heap.size W3 W3.drew) := Below.drew (Below.refl _ _)
   clear x0 x1 x2 x3 hltp y0 y1 y2 y3 hltt z0 z1 z2 z3 z4 z5 z6 hltc b0 b1 b2 b3 hltb
   refine chain_skip (by kernel_rfl) (And.intro D0.out ?_)
   (try simp only [SQ])
   refine ⟨_, _, rfl, rfl, ?_⟩
   refine chain_skip (by kernel_rfl) (And.intro D0.out ?_)
   (try simp only [SQ])
   refine ⟨_, _, rfl, rfl, ?_⟩
   refine chain_skip (by kernel_rfl) (And.intro D0.out ?_)
   (try simp only [SQ])
   refine ⟨?_, ?_, ?_⟩
   rotate_left
   ·((refine ⟨_, undef, rfl, Or.inr ⟨by kernel_rfl, rfl⟩, ?_⟩); (try simp only [SQ])); (iterate 3 ((refine ⟨_, ?_, rfl, Or.inl ⟨by rfl, ?_⟩, ?_⟩; rotate_left; focus (intro W hW; replace hW := (bcell hW).1; go_simp; try with_reducible rfl)); (try simp only [SQ])))
    exact rfl
   refine NoPanic.normal ?_
   go_wp2_with fail
   (try simp only [Exit.inBlock, Exit.then])
   refine bodyPost_ret (results_tmp2 rfl _ _ _) rfl ?_
   exact ⟨by rw [HL.out]; rfl, below_next HR3.out.2 D0.out⟩
  have v3 : (c.cert.kind == 1) = true := beqI' k1
  have HK1 : Hid ((decide (c.cert.kind = 2) || (decide (c.cert.kind = 1) && (decide (t.kind = 1) && decide (ordQ (rvalueP p c.cert.x) (rvalueP p t.x) ≤ 0)))) = (decide (t.kind = 1) && decide (ordQ (rvalueP p c.cert.x) (rvalueP p t.x) ≤ 0))) := by unfold Hid; rw [HK1.out, decide_eq_true k1]; rfl
  clear k1
  by_cases k3 : t.kind = 1
  case neg =>
   have v4 : (t.kind == 1) = false := bneI' k3
   have HK2 := Hd k3
   clear k3
   go_wp2_with fail
   refine wp_chainS (S := Below W3.heap.size W3) [([0, 1, 2, 3, 4, 5, 6, 7, 8, 9, 10, 11, 12, 13, 15, 16, 17], 14), ([], 18), ([], 19)] [20, 21, 22, 23] (by kernel_rfl) (by kernel_rfl) (by kernel_rfl) rfl (Below.drew (Below.refl _ _)) ?_
   have HL : Hid (provesR p wh t (n + 1) at_ vars bits most = (1, false)) := by unfold Hid; rw [HE.out]; unfold leafR; rw [HZ.out, HJ.out, HK1.out, decide_eq_false HK2.out]; simp
   refine ⟨?_, _, ?_, rfl, ?_⟩
   rotate_left
   ·(iterate 10 ((refine ⟨_, ?_, rfl, Or.inl ⟨by rfl, ?_⟩, ?_⟩; rotate_left; focus (intro W hW; replace hW := (bcell hW).1; go_simp; try with_reducible rfl)); (try simp only [SQ]))); (iterate 7 ((refine ⟨_, undef, rfl, Or.inr ⟨by kernel_rfl, rfl⟩, ?_⟩); (try simp only [SQ])))
    exact rfl
   have D0 : Hid (Below W3.heap.size W3 W3.drew) := Below.drew (Below.refl _ _)
   clear x0 x1 x2 x3 hltp y0 y1 y2 y3 hltt z0 z1 z2 z3 z4 z5 z6 hltc b0 b1 b2 b3 hltb
   refine chain_skip (by kernel_rfl) (And.intro D0.out ?_)
   (try simp only [SQ])
   refine ⟨_, _, rfl, rfl, ?_⟩
   refine chain_skip (by kernel_rfl) (And.intro D0.out ?_)
   (try simp only [SQ])
   refine ⟨_, _, rfl, rfl, ?_⟩
   refine chain_skip (by kernel_rfl) (And.intro D0.out ?_)
   (try simp only [SQ])
   refine ⟨?_, ?_, ?_⟩
   rotate_left
   ·((refine ⟨_, undef, rfl, Or.inr ⟨by kernel_rfl, rfl⟩, ?_⟩); (try simp only [SQ])); (iterate 3 ((refine ⟨_, ?_, rfl, Or.inl ⟨by rfl, ?_⟩, ?_⟩; rotate_left; focus (intro W hW; replace hW := (bcell hW).1; go_simp; try with_reducible rfl)); (try simp only [SQ])))
    exact rfl
   refine NoPanic.normal ?_
   go_wp2_with fail
   (try simp only [Exit.inBlock, Exit.then])
   refine bodyPost_ret (results_tmp2 rfl _ _ _) rfl ?_
   exact ⟨by rw [HL.out]; rfl, below_next HR3.out.2 D0.out⟩
  have v4 : (t.kind == 1) = true := beqI' k3
  have HK2 : Hid (decide (t.kind = 1) = true) := decide_eq_true k3
  clear k3
  go_wp2_with fail
  refine wp_chainS (S := Below W3.heap.size W3) [([0, 1, 2, 3, 4, 5, 6, 7, 8, 9, 10, 11, 12, 13, 15, 16, 17], 14), ([], 18), ([], 19)] [20, 21, 22, 23] (by kernel_rfl) (by kernel_rfl) (by kernel_rfl) rfl (Below.drew (Below.refl _ _)) ?_
  refine ⟨?_, _, ?_, rfl, ?_⟩
  rotate_left
  ·(iterate 17 ((refine ⟨_, ?_, rfl, Or.inl ⟨by rfl, ?_⟩, ?_⟩; rotate_left; focus (intro W hW; replace hW := (bcell hW).1; go_simp; try with_reducible rfl)); (try simp only [SQ])))
   exact rfl
  have D0 : Hid (Below W3.heap.size W3 W3.drew) := Below.drew (Below.refl _ _)
  clear x0 x1 x2 x3 hltp y0 y1 y2 y3 hltt z0 z1 z2 z3 z4 z5 z6 hltc b0 b1 b2 b3 hltb
  go_wp2_with fail
  refine (r2value_calls _ _ _ p c.cert.x (HP.out.of_below (below_next HR3.out.2 D0.out)) (SL.below EF.stays (CR.fl (HCR.out.of_below HR3.out.2)) D0.out)).mono ?_
  rintro e w4 ⟨v, rfl, hv, hb⟩
  obtain ⟨G1, i1, j1, G2, i2, j2, rfl, HV1⟩ := hv.opened
  have D1 := Hd (below_next D0.out hb)
  clear hv hb
  go_wp2_with fail
  refine And.intro D1.out ⟨_, _, rfl, rfl, ?_⟩
  go_wp2_with fail
  refine (r2value_calls _ _ _ p t.x (HP.out.of_below (below_next HR3.out.2 D1.out)) (HTX.out.below EF.stays (below_next HR3.out.2 D1.out))).mono ?_
  rintro e w5 ⟨v, rfl, hv, hb⟩
  obtain ⟨G3, i3, j3, G4, i4, j4, rfl, HV2⟩ := hv.opened
  have HV1' := Hd (HV1.out.of_below hb)
  have D2 := Hd (below_next D1.out hb)
  clear hv hb
  go_wp2_with fail
  refine And.intro D2.out ⟨_, _, rfl, rfl, ?_⟩
  go_wp2_with fail
  refine (rcmp_calls _ _ _ _ _ (FR.of_fq HV1'.out (rvalueP_size _ _)) (FR.of_fq HV2.out (rvalueP_size _ _))).mono ?_
  rintro e w6 ⟨rfl, hb⟩
  rw [fixQ_raw _ (rvalueP_size p c.cert.x), fixQ_raw _ (rvalueP_size p t.x)]
  have D3 := Hd (below_next D2.out hb)
  clear hb
  by_cases z5 : ordQ (rvalueP p c.cert.x) (rvalueP p t.x) ≤ 0
  ·have z6 : decide (ordQ (rvalueP p c.cert.x) (rvalueP p t.x) ≤ 0) = true := decide_eq_true z5
   have HL : Hid (provesR p wh t (n + 1) at_ vars bits most = (1, true)) := by unfold Hid; rw [HE.out]; unfold leafR; rw [HZ.out, HJ.out, HK1.out, HK2.out, z6]; rfl
   clear z5
   go_wp2_with fail
   refine And.intro D3.out ?_
   refine ⟨?_, ?_, ?_⟩
   rotate_left
   ·(iterate 4 ((refine ⟨_, ?_, rfl, Or.inl ⟨by rfl, ?_⟩, ?_⟩; rotate_left; focus (intro W hW; replace hW := (bcell hW).1; go_simp; try with_reducible rfl)); (try simp only [SQ])))
    exact rfl
   refine NoPanic.normal ?_
   go_wp2_with fail
   (try simp only [Exit.inBlock, Exit.then])
   refine bodyPost_ret (results_tmp2 rfl _ _ _) rfl ?_
   exact ⟨by rw [HL.out]; rfl, below_next HR3.out.2 D3.out⟩
  ·have z6 : decide (ordQ (rvalueP p c.cert.x) (rvalueP p t.x) ≤ 0) = false := decide_eq_false z5
   have HL : Hid (provesR p wh t (n + 1) at_ vars bits most = (1, false)) := by unfold Hid; rw [HE.out]; unfold leafR; rw [HZ.out, HJ.out, HK1.out, HK2.out, z6]; rfl
   clear z5
   go_wp2_with fail
   refine And.intro D3.out ?_
   refine ⟨?_, ?_, ?_⟩
   rotate_left
   ·(iterate 4 ((refine ⟨_, ?_, rfl, Or.inl ⟨by rfl, ?_⟩, ?_⟩; rotate_left; focus (intro W hW; replace hW := (bcell hW).1; go_simp; try with_reducible rfl)); (try simp only [SQ])))
    exact rfl
   refine NoPanic.normal ?_
   go_wp2_with fail
   (try simp only [Exit.inBlock, Exit.then])
   refine bodyPost_ret (results_tmp2 rfl _ _ _) rfl ?_
   exact ⟨by rw [HL.out]; rfl, below_next HR3.out.2 D3.out⟩
 have v1 : (c.var == -1) = false := bneI' hv
 have HE0 := Hd (HM.out.trans (if_neg hv))
 clear hv
 go_wp2_with fail
 clear x0 x1 x2 x3 hltp y0 y1 y2 y3 hltt z0 z1 z2 z3 z4 z5 z6 hltc
 refine (has_calls _ _ wh c.var (HX.out.below EI.stays HRP.out.2) (by omega)).mono ?_
 rintro e w2 ⟨rfl, hb⟩
 have HR2 := Hd (HRP.out.step hb)
 clear hb
 obtain ⟨x0, x1, x2, x3⟩ := (HR2.out.blk 2 rfl).c4
 have hltp := (HR2.out.blk 2 rfl).lt
 obtain ⟨y0, y1, y2, y3⟩ := (HR2.out.blk 1 rfl).c4
 have hltt := (HR2.out.blk 1 rfl).lt
 obtain ⟨z0, z1, z2, z3, z4, z5, z6⟩ := (HR2.out.blk 0 rfl).c7
 have hltc := (HR2.out.blk 0 rfl).lt
 cases hb1 : hasB wh c.var
 case false =>
  have hsb : stepBad t.cases wh vars at_ c = true := by unfold stepBad; rw [hb1]; rfl
  clear hb1
  have HL : Hid (provesR p wh t (n + 1) at_ vars bits most = (1, false)) := HE0.out.trans (if_pos hsb)
  clear hsb
  go_wp2_with fail
  (try simp only [Exit.inBlock, Exit.then])
  refine bodyPost_ret (results_tmp2 rfl _ _ _) rfl ?_
  exact ⟨by rw [HL.out]; rfl, HR2.out.2⟩
 have HB1 := Hd hb1
 clear hb1
 go_wp2_with fail
 clear x0 x1 x2 x3 hltp y0 y1 y2 y3 hltt z0 z1 z2 z3 z4 z5 z6 hltc
 refine (has_calls _ _ vars c.var (HVS.out.below EI.stays HR2.out.2) (by omega)).mono ?_
 rintro e w3 ⟨rfl, hb⟩
 have HR3 := Hd (HR2.out.step hb)
 clear hb HR2
 obtain ⟨x0, x1, x2, x3⟩ := (HR3.out.blk 2 rfl).c4
 have hltp := (HR3.out.blk 2 rfl).lt
 obtain ⟨y0, y1, y2, y3⟩ := (HR3.out.blk 1 rfl).c4
 have hltt := (HR3.out.blk 1 rfl).lt
 obtain ⟨z0, z1, z2, z3, z4, z5, z6⟩ := (HR3.out.blk 0 rfl).c7
 have hltc := (HR3.out.blk 0 rfl).lt
 cases hb2 : hasB vars c.var
 case true =>
  have hsb : stepBad t.cases wh vars at_ c = true := by unfold stepBad; rw [hb2]; simp
  clear hb2
  have HL : Hid (provesR p wh t (n + 1) at_ vars bits most = (1, false)) := HE0.out.trans (if_pos hsb)
  clear hsb
  go_wp2_with fail
  (try simp only [Exit.inBlock, Exit.then])
  refine bodyPost_ret (results_tmp2 rfl _ _ _) rfl ?_
  exact ⟨by rw [HL.out]; rfl, HR3.out.2⟩
 have HB2 := Hd hb2
 clear hb2
 by_cases s1 : c.zero ≤ (at_ : Int)
 ·have s1' : decide (c.zero ≤ (at_ : Int)) = true := decide_eq_true s1
  have hsb : stepBad t.cases wh vars at_ c = true := by unfold stepBad; rw [HB1.out, HB2.out, s1']; simp
  clear s1
  have HL : Hid (provesR p wh t (n + 1) at_ vars bits most = (1, false)) := HE0.out.trans (if_pos hsb)
  clear hsb
  go_wp2_with fail
  (try simp only [Exit.inBlock, Exit.then])
  refine bodyPost_ret (results_tmp2 rfl _ _ _) rfl ?_
  exact ⟨by rw [HL.out]; rfl, HR3.out.2⟩
 have s1' : decide (c.zero ≤ (at_ : Int)) = false := decide_eq_false s1
 have s1'' := Hd s1
 clear s1
 by_cases s2 : c.one ≤ (at_ : Int)
 ·have s2' : decide (c.one ≤ (at_ : Int)) = true := decide_eq_true s2
  have hsb : stepBad t.cases wh vars at_ c = true := by unfold stepBad; rw [HB1.out, HB2.out, s1', s2']; simp
  clear s2
  have HL : Hid (provesR p wh t (n + 1) at_ vars bits most = (1, false)) := HE0.out.trans (if_pos hsb)
  clear hsb
  go_wp2_with fail
  (try simp only [Exit.inBlock, Exit.then])
  refine bodyPost_ret (results_tmp2 rfl _ _ _) rfl ?_
  exact ⟨by rw [HL.out]; rfl, HR3.out.2⟩
 have s2' : decide (c.one ≤ (at_ : Int)) = false := decide_eq_false s2
 have s2'' := Hd s2
 clear s2
 by_cases s3 : (t.cases.length : Int) ≤ c.zero
 ·have s3' : decide ((t.cases.length : Int) ≤ c.zero) = true := decide_eq_true s3
  have hsb : stepBad t.cases wh vars at_ c = true := by unfold stepBad; rw [HB1.out, HB2.out, s1', s2', s3']; simp
  clear s3
  have HL : Hid (provesR p wh t (n + 1) at_ vars bits most = (1, false)) := HE0.out.trans (if_pos hsb)
  clear hsb
  go_wp2_with fail
  (try simp only [Exit.inBlock, Exit.then])
  refine bodyPost_ret (results_tmp2 rfl _ _ _) rfl ?_
  exact ⟨by rw [HL.out]; rfl, HR3.out.2⟩
 have s3' : decide ((t.cases.length : Int) ≤ c.zero) = false := decide_eq_false s3
 have s3'' := Hd s3
 clear s3
 by_cases s4 : (t.cases.length : Int) ≤ c.one
 ·have s4' : decide ((t.cases.length : Int) ≤ c.one) = true := decide_eq_true s4
  have hsb : stepBad t.cases wh vars at_ c = true := by unfold stepBad; rw [HB1.out, HB2.out, s1', s2', s3', s4']; simp
  clear s4
  have HL : Hid (provesR p wh t (n + 1) at_ vars bits most = (1, false)) := HE0.out.trans (if_pos hsb)
  clear hsb
  go_wp2_with fail
  (try simp only [Exit.inBlock, Exit.then])
  refine bodyPost_ret (results_tmp2 rfl _ _ _) rfl ?_
  exact ⟨by rw [HL.out]; rfl, HR3.out.2⟩
 have s4' : decide ((t.cases.length : Int) ≤ c.one) = false := decide_eq_false s4
 have s4'' := Hd s4
 clear s4
 have hsb : ¬ stepBad t.cases wh vars at_ c = true := by unfold stepBad; rw [HB1.out, HB2.out, s1', s2', s3', s4']; simp
 have HE1 := Hd (HE0.out.trans (if_neg hsb))
 clear hsb HE0
 go_upto_region 13 with (fail)
 go_cut [4] from 115 to 121 (fun v4 wx => (∃ C e, v4 = .slice C (vars.length + 1) e ∧ IL wx (.slice C (vars.length + 1) e) (vars ++ [c.var])) ∧ HS w [(w.heap.size + 2, 69, #[.int .i64 c.var, .int .i64 c.zero, .int .i64 c.one, .int .i64 c.cert.kind, .slice D1 c.cert.x.length e1, .slice D2 c.cert.y.length e2, .slice D3 c.cert.ray.length e3]), (w.heap.size + 1, 30, #[.int .i64 t.kind, .slice B1 t.x.length d1, .slice B2 t.ray.length d2, .slice (some ⟨gC, oC, none⟩) t.cases.length d3]), (w.heap.size, 26, #[.int .i64 nv, .slice A1 p.free.length c1, .slice A2 p.goal.length c2, .slice A3 p.rows.length c3])] wx)
 case rest =>
  obtain ⟨⟨C6, e6, rfl, hil⟩, hsw⟩ := hcut
  have HVS2 := Hd hil
  have HRc := Hd hsw
  clear hil hsw HRP HR3 x0 x1 x2 x3 hltp y0 y1 y2 y3 hltt z0 z1 z2 z3 z4 z5 z6 hltc
  obtain ⟨x0, x1, x2, x3⟩ := (HRc.out.blk 2 rfl).c4
  have hltp := (HRc.out.blk 2 rfl).lt
  obtain ⟨y0, y1, y2, y3⟩ := (HRc.out.blk 1 rfl).c4
  have hltt := (HRc.out.blk 1 rfl).lt
  obtain ⟨z0, z1, z2, z3, z4, z5, z6⟩ := (HRc.out.blk 0 rfl).c7
  have hltc := (HRc.out.blk 0 rfl).lt
  go_upto_block 0 with fail
  have hbn := below_new wc (.cells #[.int .i64 c.zero, .int .i64 c.one] 3)
  have HLT := Hd (Blk.new wc 3 #[.int .i64 c.zero, .int .i64 c.one])
  have HRd := Hd (HRc.out.step hbn)
  have HVS3 := Hd (SL.below EI.stays HVS2.out hbn)
  obtain ⟨gt, hgt⟩ : ∃ g, g = wc.heap.size := ⟨_, rfl⟩
  rw [← hgt] at HLT ⊢
  generalize wc.alloc (.cells #[.int .i64 c.zero, .int .i64 c.one] 3) = wd at *
  clear hgt hbn HVS2 HRc x0 x1 x2 x3 hltp y0 y1 y2 y3 hltt z0 z1 z2 z3 z4 z5 z6 hltc
  obtain ⟨r0, hr0⟩ : ∃ r, r = provesR p wh t n c.zero (vars ++ [c.var]) (bits ++ [0]) (most - 1) := ⟨_, rfl⟩
  rw [← hr0] at HE1
  have HR0E := Hd hr0
  have hle0 := provesR_le p wh t n c.zero (vars ++ [c.var]) (bits ++ [0]) (most - 1)
  rw [← hr0] at hle0
  obtain ⟨r1, hr1⟩ : ∃ r, r = provesR p wh t n c.one (vars ++ [c.var]) (bits ++ [1]) (most - 1 - r0.1) := ⟨_, rfl⟩
  rw [← hr1] at HE1
  have HR1E := Hd hr1
  have hle1 := provesR_le p wh t n c.one (vars ++ [c.var]) (bits ++ [1]) (most - 1 - r0.1)
  rw [← hr1] at hle1
  clear hr0 hr1
  obtain ⟨k0, hk0⟩ : ∃ k : Nat, (k : Int) = c.zero := ⟨c.zero.toNat, by have := s1''.out; omega⟩
  obtain ⟨k1, hk1⟩ : ∃ k : Nat, (k : Int) = c.one := ⟨c.one.toNat, by have := s2''.out; omega⟩
  have hk0l : k0 < t.cases.length := by have := s3''.out; omega
  have hk1l : k1 < t.cases.length := by have := s4''.out; omega
  have HK0 := Hd hk0
  have HK1 := Hd hk1
  clear hk0 hk1
  go_wp2_with fail
  go_loopw [14, 128] (fun v14 vi wr => ∃ i : Nat, vi = .int .i64 (i : Int) ∧ ((i = 0 ∧ v14 = .int .i64 1) ∨ (i = 1 ∧ v14 = .int .i64 (1 + (r0.1 : Int)) ∧ r0.2 = true) ∨ (i = 2 ∧ v14 = .int .i64 (1 + (r0.1 : Int) + (r1.1 : Int)) ∧ r0.2 = true ∧ r1.2 = true)) ∧ HS w [(w.heap.size + 2, 69, #[.int .i64 c.var, .int .i64 c.zero, .int .i64 c.one, .int .i64 c.cert.kind, .slice D1 c.cert.x.length e1, .slice D2 c.cert.y.length e2, .slice D3 c.cert.ray.length e3]), (w.heap.size + 1, 30, #[.int .i64 t.kind, .slice B1 t.x.length d1, .slice B2 t.ray.length d2, .slice (some ⟨gC, oC, none⟩) t.cases.length d3]), (w.heap.size, 26, #[.int .i64 nv, .slice A1 p.free.length c1, .slice A2 p.goal.length c2, .slice A3 p.rows.length c3])] wr ∧ Blk wr gt 3 #[.int .i64 c.zero, .int .i64 c.one] ∧ IL wr (.slice C6 (vars.length + 1) e6) (vars ++ [c.var])) (fun _ vi _ => 2 - (intOf vi).toNat)
  case atStart => exact ⟨0, rfl, .inl ⟨rfl, rfl⟩, HRd.out, HLT.out, HVS3.out⟩
  case round =>
   obtain ⟨i, rfl, hcs, hsw, hlt3, hil⟩ := hrel
   have HRw := Hd hsw
   have HLw := Hd hlt3
   have HVw := Hd hil
   clear hsw hlt3 hil HRd HLT HVS3
   obtain ⟨x0, x1, x2, x3⟩ := (HRw.out.blk 2 rfl).c4
   have hltp := (HRw.out.blk 2 rfl).lt
   obtain ⟨y0, y1, y2, y3⟩ := (HRw.out.blk 1 rfl).c4
   have hltt := (HRw.out.blk 1 rfl).lt
   obtain ⟨z0, z1, z2, z3, z4, z5, z6⟩ := (HRw.out.blk 0 rfl).c7
   have hltc := (HRw.out.blk 0 rfl).lt
   have l0 : wr.cell? ⟨gt, 0, none⟩ = some (.int .i64 c.zero) := HLw.out.cell rfl
   have l1 : wr.cell? ⟨gt, 1, none⟩ = some (.int .i64 c.one) := HLw.out.cell rfl
   have hltg := HLw.out.lt
   rcases hcs with ⟨rfl, rfl⟩ | ⟨rfl, rfl, hf0⟩ | ⟨rfl, rfl, hf0, hf1⟩
   ·go_upto_region 18 with (fail)
    go_cut [21, 22] from 133 to 150 (fun s21 s22 wx => s21 = .int .i64 (r0.1 : Int) ∧ s22 = .bool r0.2 ∧ Below wr.heap.size wr wx)
    case rest =>
     obtain ⟨rfl, rfl, hbw⟩ := hcut
     have HRx := Hd (HRw.out.step hbw)
     have HLx := Hd (HLw.out.below hbw HLw.out.lt)
     have HVx := Hd (SL.below EI.stays HVw.out hbw)
     clear hbw l0 l1 hltg HRw HLw HVw x0 x1 x2 x3 hltp y0 y1 y2 y3 hltt z0 z1 z2 z3 z4 z5 z6 hltc
     cases hf : r0.2
     case false =>
      have HL : Hid (provesR p wh t (n + 1) at_ vars bits most = (1 + r0.1, false)) := by unfold Hid; rw [HE1.out, if_neg (by rw [hf]; simp)]
      clear hf
      go_wp2_with fail
      (try simp only [Exit.inBlock, Exit.then])
      refine bodyPost_ret (results_tmp2 rfl _ _ _) rfl ?_
      exact ⟨by rw [HL.out]; simp [Int.natCast_add], HRx.out.2⟩
     have HF0 := Hd hf
     clear hf
     go_wp2_with fail
     go_roundw
     case rel => exact ⟨1, rfl, .inr (.inl ⟨rfl, rfl, HF0.out⟩), HRx.out, HLx.out, HVx.out⟩
     case measure => simp [intOf]
    have U0 : Hid (Below wr.heap.size wr wr.drew) := Below.drew (Below.refl _ _)
    refine wp_tree (l := [_, _, _, _, _, _, _, _, _, _, _, _, _, _, _, _, _, _, _, _]) (S := Below wr.heap.size wr) 19 (.two [0, 1, 2, 3, 4, 6, 8, 11, 12, 13] 5 (.two [] 7 (.one [] 9 (.one [] 10 (.one [] 14 (.one [15, 16, 17] 18 (.fin []))))) 9 (.one [] 7 (.one [] 10 (.one [] 14 (.one [15, 16, 17] 18 (.fin [])))))) 9 (.one [] 5 (.one [] 7 (.one [] 10 (.one [] 14 (.one [15, 16, 17] 18 (.fin []))))))) (by kernel_rfl) (by kernel_rfl) (by kernel_rfl) rfl (Below.drew (Below.refl _ _)) ?_
    refine ⟨?_, _, _, ?_, rfl, rfl, ?_, ?_⟩
    rotate_left
    ·(iterate 10 ((refine ⟨_, ?_, rfl, Or.inl ⟨by rfl, ?_⟩, ?_⟩; rotate_left; focus (intro W hW; replace hW := (bcell hW).1; go_simp; try with_reducible rfl)); (try simp only [SQ])))
     exact rfl
    all_goals generalize wr.drew = V0 at *
    ·go_wp2_with fail
     have hbn := below_new V0 (.cells #[] 3)
     have HE0 := Hd (empty_oi (base := wr.heap.size) (W := V0) U0.out.size)
     have U1 := Hd (below_next U0.out hbn)
     obtain ⟨g0, hg0⟩ : ∃ g, g = V0.heap.size := ⟨_, rfl⟩
     rw [← hg0] at HE0 ⊢
     generalize V0.alloc (.cells #[] 3) = V1 at *
     clear hg0 hbn
     refine And.intro U1.out ⟨_, _, _, rfl, rfl, rfl, ?_, ?_⟩
     ·refine wpl_copyI rfl (.tmp 139) (.tmp 140) rfl (base := wr.heap.size) (.slice (some ⟨g0, 0, none⟩) 0 0) rfl HE0.out Z1 bits.length zc bits rfl (HBS.out.below EI.stays (below_next HRw.out.2 U1.out)) (by omega) U1.out.size ?_
      intro v7 V2 q1 q2 q3 q4
      obtain ⟨C4, e4, ev7, _⟩ := OL.slice q1
      subst ev7
      have HOI := Hd q1
      have U2 := Hd (below_chg U1.out q2 q3)
      clear q1 q2 q3 q4 HE0
      go_wp2_with fail
      refine And.intro U2.out ⟨_, _, rfl, rfl, ?_⟩
      go_wp2_with fail
      have hbn := below_new V2 (.cells #[.int .i64 0] 3)
      have HL := Hd (Blk.new V2 3 #[.int .i64 0])
      have U3 := Hd (below_next U2.out hbn)
      try have HOI := Hd (OL.below EI.stays HOI.out hbn)
      try have hlne : V2.heap.size ≠ g0 := Nat.ne_of_gt (oi_lt HE0.out)
      try have HE0 := Hd (OL.below EI.stays HE0.out hbn)
      obtain ⟨gl, hgl⟩ : ∃ g, g = V2.heap.size := ⟨_, rfl⟩
      try rw [← hgl] at hlne
      rw [← hgl] at HL ⊢
      generalize V2.alloc (.cells #[.int .i64 0] 3) = V3 at *
      clear hgl hbn
      refine And.intro U3.out ⟨_, _, rfl, rfl, ?_⟩
      refine wpl_appendI rfl (.tmp 141) (.tmp 143) rfl (base := wr.heap.size) (.slice C4 bits.length e4) bits rfl HOI.out (0) rfl HL.out (by omega) U3.out.size ?_
      intro v8 V4 q1 q2 q3
      obtain ⟨C5, e5, ev8, _⟩ := OL.slice q1
      rw [List.length_append] at ev8
      subst ev8
      have HOI2 := Hd q1
      have U4 := Hd (below_chg U3.out q2 q3)
      clear q1 q2 q3
      go_wp2_with fail
      refine And.intro U4.out ⟨_, _, rfl, rfl, ?_⟩
      go_wp2_with fail
      have hcall := IH.out V4 _ _ _ _ _ k0 (vars ++ [c.var]) (bits ++ [0]) (most - 1) (by omega) (HP.out.of_below (below_next HRw.out.2 U4.out)) (HX.out.below EI.stays (below_next HRw.out.2 U4.out)) (HT.out.of_below (below_next HRw.out.2 U4.out)) (SL.below EI.stays HVw.out U4.out) (OL.sl HOI2.out) (by omega) (i64_more HVI.out HCI.out.1) (i64_more HBI.out (by unfold I64; decide)) (by rw [List.length_append]; simp; omega) (by rw [List.length_append]; simp; omega)
      rw [HK0.out, ← HR0E.out] at hcall
      refine (calls_y hcall (by omega)).mono ?_
      rintro e w9 ⟨rfl, hb⟩
      have U5 := Hd (below_next U4.out hb)
      clear hb hcall
      go_wp2_with fail
      refine And.intro U5.out ⟨?_, _, ?_, rfl, ?_⟩
      rotate_left
      ·(iterate 3 ((refine ⟨_, ?_, rfl, Or.inl ⟨by rfl, ?_⟩, ?_⟩; rotate_left; focus (intro W hW; replace hW := (bcell hW).1; go_simp; try with_reducible rfl)); (try simp only [SQ])))
       exact rfl
      go_wp2_with fail
      refine And.intro U5.out ⟨_, rfl, ?_⟩
      go_wp2_with fail
      refine NoPanic.normal ?_
      go_wp2_with fail
      go_meet
      case rel => exact ⟨rfl, rfl, U5.out⟩
     ·go_wp2_with fail
      have hbn := below_new V1 (.cells #[.int .i64 0] 3)
      have HL := Hd (Blk.new V1 3 #[.int .i64 0])
      have U2 := Hd (below_next U1.out hbn)
      try have HOI := Hd (OL.below EI.stays HOI.out hbn)
      try have hlne : V1.heap.size ≠ g0 := Nat.ne_of_gt (oi_lt HE0.out)
      try have HE0 := Hd (OL.below EI.stays HE0.out hbn)
      obtain ⟨gl, hgl⟩ : ∃ g, g = V1.heap.size := ⟨_, rfl⟩
      try rw [← hgl] at hlne
      rw [← hgl] at HL ⊢
      generalize V1.alloc (.cells #[.int .i64 0] 3) = V2 at *
      clear hgl hbn
      refine And.intro U2.out ⟨_, _, rfl, rfl, ?_⟩
      refine wpl_copyI rfl (.tmp 139) (.tmp 140) rfl (base := wr.heap.size) (.slice (some ⟨g0, 0, none⟩) 0 0) rfl HE0.out Z1 bits.length zc bits rfl (HBS.out.below EI.stays (below_next HRw.out.2 U2.out)) (by omega) U2.out.size ?_
      intro v7 V3 q1 q2 q3 q4
      obtain ⟨C4, e4, ev7, _⟩ := OL.slice q1
      subst ev7
      have HOI := Hd q1
      have U3 := Hd (below_chg U2.out q2 q3)
      have HL := Hd (q4 gl _ _ (fun e => hlne (by simpa [Value.ownBlock] using e.symm)) HL.out)
      clear q1 q2 q3 q4 HE0 hlne
      go_wp2_with fail
      refine And.intro U3.out ⟨_, _, rfl, rfl, ?_⟩
      refine wpl_appendI rfl (.tmp 141) (.tmp 143) rfl (base := wr.heap.size) (.slice C4 bits.length e4) bits rfl HOI.out (0) rfl HL.out (by omega) U3.out.size ?_
      intro v8 V4 q1 q2 q3
      obtain ⟨C5, e5, ev8, _⟩ := OL.slice q1
      rw [List.length_append] at ev8
      subst ev8
      have HOI2 := Hd q1
      have U4 := Hd (below_chg U3.out q2 q3)
      clear q1 q2 q3
      go_wp2_with fail
      refine And.intro U4.out ⟨_, _, rfl, rfl, ?_⟩
      go_wp2_with fail
      have hcall := IH.out V4 _ _ _ _ _ k0 (vars ++ [c.var]) (bits ++ [0]) (most - 1) (by omega) (HP.out.of_below (below_next HRw.out.2 U4.out)) (HX.out.below EI.stays (below_next HRw.out.2 U4.out)) (HT.out.of_below (below_next HRw.out.2 U4.out)) (SL.below EI.stays HVw.out U4.out) (OL.sl HOI2.out) (by omega) (i64_more HVI.out HCI.out.1) (i64_more HBI.out (by unfold I64; decide)) (by rw [List.length_append]; simp; omega) (by rw [List.length_append]; simp; omega)
      rw [HK0.out, ← HR0E.out] at hcall
      refine (calls_y hcall (by omega)).mono ?_
      rintro e w9 ⟨rfl, hb⟩
      have U5 := Hd (below_next U4.out hb)
      clear hb hcall
      go_wp2_with fail
      refine And.intro U5.out ⟨?_, _, ?_, rfl, ?_⟩
      rotate_left
      ·(iterate 3 ((refine ⟨_, ?_, rfl, Or.inl ⟨by rfl, ?_⟩, ?_⟩; rotate_left; focus (intro W hW; replace hW := (bcell hW).1; go_simp; try with_reducible rfl)); (try simp only [SQ])))
       exact rfl
      go_wp2_with fail
      refine And.intro U5.out ⟨_, rfl, ?_⟩
      go_wp2_with fail
      refine NoPanic.normal ?_
      go_wp2_with fail
      go_meet
      case rel => exact ⟨rfl, rfl, U5.out⟩
    ·go_wp2_with fail
     have hbn := below_new V0 (.cells #[.int .i64 0] 3)
     have HL := Hd (Blk.new V0 3 #[.int .i64 0])
     have U1 := Hd (below_next U0.out hbn)
     try have HOI := Hd (OL.below EI.stays HOI.out hbn)
     try have hlne : V0.heap.size ≠ g0 := Nat.ne_of_gt (oi_lt HE0.out)
     try have HE0 := Hd (OL.below EI.stays HE0.out hbn)
     obtain ⟨gl, hgl⟩ : ∃ g, g = V0.heap.size := ⟨_, rfl⟩
     try rw [← hgl] at hlne
     rw [← hgl] at HL ⊢
     generalize V0.alloc (.cells #[.int .i64 0] 3) = V1 at *
     clear hgl hbn
     refine And.intro U1.out ⟨_, _, rfl, rfl, ?_⟩
     go_wp2_with fail
     have hbn := below_new V1 (.cells #[] 3)
     have HE0 := Hd (empty_oi (base := wr.heap.size) (W := V1) U1.out.size)
     have U2 := Hd (below_next U1.out hbn)
     have hlne : gl ≠ V1.heap.size := Nat.ne_of_lt HL.out.lt
     have HL := Hd (HL.out.below hbn HL.out.lt)
     obtain ⟨g0, hg0⟩ : ∃ g, g = V1.heap.size := ⟨_, rfl⟩
     rw [← hg0] at HE0 hlne ⊢
     generalize V1.alloc (.cells #[] 3) = V2 at *
     clear hg0 hbn
     refine And.intro U2.out ⟨_, _, rfl, rfl, ?_⟩
     refine wpl_copyI rfl (.tmp 139) (.tmp 140) rfl (base := wr.heap.size) (.slice (some ⟨g0, 0, none⟩) 0 0) rfl HE0.out Z1 bits.length zc bits rfl (HBS.out.below EI.stays (below_next HRw.out.2 U2.out)) (by omega) U2.out.size ?_
     intro v7 V3 q1 q2 q3 q4
     obtain ⟨C4, e4, ev7, _⟩ := OL.slice q1
     subst ev7
     have HOI := Hd q1
     have U3 := Hd (below_chg U2.out q2 q3)
     have HL := Hd (q4 gl _ _ (fun e => hlne (by simpa [Value.ownBlock] using e.symm)) HL.out)
     clear q1 q2 q3 q4 HE0 hlne
     go_wp2_with fail
     refine And.intro U3.out ⟨_, _, rfl, rfl, ?_⟩
     refine wpl_appendI rfl (.tmp 141) (.tmp 143) rfl (base := wr.heap.size) (.slice C4 bits.length e4) bits rfl HOI.out (0) rfl HL.out (by omega) U3.out.size ?_
     intro v8 V4 q1 q2 q3
     obtain ⟨C5, e5, ev8, _⟩ := OL.slice q1
     rw [List.length_append] at ev8
     subst ev8
     have HOI2 := Hd q1
     have U4 := Hd (below_chg U3.out q2 q3)
     clear q1 q2 q3
     go_wp2_with fail
     refine And.intro U4.out ⟨_, _, rfl, rfl, ?_⟩
     go_wp2_with fail
     have hcall := IH.out V4 _ _ _ _ _ k0 (vars ++ [c.var]) (bits ++ [0]) (most - 1) (by omega) (HP.out.of_below (below_next HRw.out.2 U4.out)) (HX.out.below EI.stays (below_next HRw.out.2 U4.out)) (HT.out.of_below (below_next HRw.out.2 U4.out)) (SL.below EI.stays HVw.out U4.out) (OL.sl HOI2.out) (by omega) (i64_more HVI.out HCI.out.1) (i64_more HBI.out (by unfold I64; decide)) (by rw [List.length_append]; simp; omega) (by rw [List.length_append]; simp; omega)
     rw [HK0.out, ← HR0E.out] at hcall
     refine (calls_y hcall (by omega)).mono ?_
     rintro e w9 ⟨rfl, hb⟩
     have U5 := Hd (below_next U4.out hb)
     clear hb hcall
     go_wp2_with fail
     refine And.intro U5.out ⟨?_, _, ?_, rfl, ?_⟩
     rotate_left
     ·(iterate 3 ((refine ⟨_, ?_, rfl, Or.inl ⟨by rfl, ?_⟩, ?_⟩; rotate_left; focus (intro W hW; replace hW := (bcell hW).1; go_simp; try with_reducible rfl)); (try simp only [SQ])))
      exact rfl
     go_wp2_with fail
     refine And.intro U5.out ⟨_, rfl, ?_⟩
     go_wp2_with fail
     refine NoPanic.normal ?_
     go_wp2_with fail
     go_meet
     case rel => exact ⟨rfl, rfl, U5.out⟩
   ·go_upto_region 18 with (fail)
    go_cut [21, 22] from 133 to 150 (fun s21 s22 wx => s21 = .int .i64 (r1.1 : Int) ∧ s22 = .bool r1.2 ∧ Below wr.heap.size wr wx)
    case rest =>
     obtain ⟨rfl, rfl, hbw⟩ := hcut
     have HRx := Hd (HRw.out.step hbw)
     have HLx := Hd (HLw.out.below hbw HLw.out.lt)
     have HVx := Hd (SL.below EI.stays HVw.out hbw)
     clear hbw l0 l1 hltg HRw HLw HVw x0 x1 x2 x3 hltp y0 y1 y2 y3 hltt z0 z1 z2 z3 z4 z5 z6 hltc
     cases hf : r1.2
     case false =>
      have HL : Hid (provesR p wh t (n + 1) at_ vars bits most = (1 + r0.1 + r1.1, false)) := by unfold Hid; rw [HE1.out, if_pos hf0, hf]
      clear hf
      go_wp2_with fail
      (try simp only [Exit.inBlock, Exit.then])
      refine bodyPost_ret (results_tmp2 rfl _ _ _) rfl ?_
      exact ⟨by rw [HL.out]; simp [Int.natCast_add], HRx.out.2⟩
     have HF1 := Hd hf
     clear hf
     go_wp2_with fail
     go_roundw
     case rel => exact ⟨2, rfl, .inr (.inr ⟨rfl, rfl, hf0, HF1.out⟩), HRx.out, HLx.out, HVx.out⟩
     case measure => simp [intOf]
    have U0 : Hid (Below wr.heap.size wr wr.drew) := Below.drew (Below.refl _ _)
    refine wp_tree (l := [_, _, _, _, _, _, _, _, _, _, _, _, _, _, _, _, _, _, _, _]) (S := Below wr.heap.size wr) 19 (.two [0, 1, 2, 3, 4, 6, 8, 11, 12, 13] 5 (.two [] 7 (.one [] 9 (.one [] 10 (.one [] 14 (.one [15, 16, 17] 18 (.fin []))))) 9 (.one [] 7 (.one [] 10 (.one [] 14 (.one [15, 16, 17] 18 (.fin [])))))) 9 (.one [] 5 (.one [] 7 (.one [] 10 (.one [] 14 (.one [15, 16, 17] 18 (.fin []))))))) (by kernel_rfl) (by kernel_rfl) (by kernel_rfl) rfl (Below.drew (Below.refl _ _)) ?_
    refine ⟨?_, _, _, ?_, rfl, rfl, ?_, ?_⟩
    rotate_left
    ·(iterate 10 ((refine ⟨_, ?_, rfl, Or.inl ⟨by rfl, ?_⟩, ?_⟩; rotate_left; focus (intro W hW; replace hW := (bcell hW).1; go_simp; try with_reducible rfl)); (try simp only [SQ])))
     exact rfl
    all_goals generalize wr.drew = V0 at *
    ·go_wp2_with fail
     have hbn := below_new V0 (.cells #[] 3)
     have HE0 := Hd (empty_oi (base := wr.heap.size) (W := V0) U0.out.size)
     have U1 := Hd (below_next U0.out hbn)
     obtain ⟨g0, hg0⟩ : ∃ g, g = V0.heap.size := ⟨_, rfl⟩
     rw [← hg0] at HE0 ⊢
     generalize V0.alloc (.cells #[] 3) = V1 at *
     clear hg0 hbn
     refine And.intro U1.out ⟨_, _, _, rfl, rfl, rfl, ?_, ?_⟩
     ·refine wpl_copyI rfl (.tmp 139) (.tmp 140) rfl (base := wr.heap.size) (.slice (some ⟨g0, 0, none⟩) 0 0) rfl HE0.out Z1 bits.length zc bits rfl (HBS.out.below EI.stays (below_next HRw.out.2 U1.out)) (by omega) U1.out.size ?_
      intro v7 V2 q1 q2 q3 q4
      obtain ⟨C4, e4, ev7, _⟩ := OL.slice q1
      subst ev7
      have HOI := Hd q1
      have U2 := Hd (below_chg U1.out q2 q3)
      clear q1 q2 q3 q4 HE0
      go_wp2_with fail
      refine And.intro U2.out ⟨_, _, rfl, rfl, ?_⟩
      go_wp2_with fail
      have hbn := below_new V2 (.cells #[.int .i64 1] 3)
      have HL := Hd (Blk.new V2 3 #[.int .i64 1])
      have U3 := Hd (below_next U2.out hbn)
      try have HOI := Hd (OL.below EI.stays HOI.out hbn)
      try have hlne : V2.heap.size ≠ g0 := Nat.ne_of_gt (oi_lt HE0.out)
      try have HE0 := Hd (OL.below EI.stays HE0.out hbn)
      obtain ⟨gl, hgl⟩ : ∃ g, g = V2.heap.size := ⟨_, rfl⟩
      try rw [← hgl] at hlne
      rw [← hgl] at HL ⊢
      generalize V2.alloc (.cells #[.int .i64 1] 3) = V3 at *
      clear hgl hbn
      refine And.intro U3.out ⟨_, _, rfl, rfl, ?_⟩
      refine wpl_appendI rfl (.tmp 141) (.tmp 143) rfl (base := wr.heap.size) (.slice C4 bits.length e4) bits rfl HOI.out (1) rfl HL.out (by omega) U3.out.size ?_
      intro v8 V4 q1 q2 q3
      obtain ⟨C5, e5, ev8, _⟩ := OL.slice q1
      rw [List.length_append] at ev8
      subst ev8
      have HOI2 := Hd q1
      have U4 := Hd (below_chg U3.out q2 q3)
      clear q1 q2 q3
      go_wp2_with fail
      refine And.intro U4.out ⟨_, _, rfl, rfl, ?_⟩
      go_wp2_with fail
      have hcall := IH.out V4 _ _ _ _ _ k1 (vars ++ [c.var]) (bits ++ [1]) (most - 1 - r0.1) (by omega) (HP.out.of_below (below_next HRw.out.2 U4.out)) (HX.out.below EI.stays (below_next HRw.out.2 U4.out)) (HT.out.of_below (below_next HRw.out.2 U4.out)) (SL.below EI.stays HVw.out U4.out) (OL.sl HOI2.out) (by omega) (i64_more HVI.out HCI.out.1) (i64_more HBI.out (by unfold I64; decide)) (by rw [List.length_append]; simp; omega) (by rw [List.length_append]; simp; omega)
      rw [HK1.out, ← HR1E.out] at hcall
      refine (calls_y hcall (by omega)).mono ?_
      rintro e w9 ⟨rfl, hb⟩
      have U5 := Hd (below_next U4.out hb)
      clear hb hcall
      go_wp2_with fail
      refine And.intro U5.out ⟨?_, _, ?_, rfl, ?_⟩
      rotate_left
      ·(iterate 3 ((refine ⟨_, ?_, rfl, Or.inl ⟨by rfl, ?_⟩, ?_⟩; rotate_left; focus (intro W hW; replace hW := (bcell hW).1; go_simp; try with_reducible rfl)); (try simp only [SQ])))
       exact rfl
      go_wp2_with fail
      refine And.intro U5.out ⟨_, rfl, ?_⟩
      go_wp2_with fail
      refine NoPanic.normal ?_
      go_wp2_with fail
      go_meet
      case rel => exact ⟨rfl, rfl, U5.out⟩
     ·go_wp2_with fail
      have hbn := below_new V1 (.cells #[.int .i64 1] 3)
      have HL := Hd (Blk.new V1 3 #[.int .i64 1])
      have U2 := Hd (below_next U1.out hbn)
      try have HOI := Hd (OL.below EI.stays HOI.out hbn)
      try have hlne : V1.heap.size ≠ g0 := Nat.ne_of_gt (oi_lt HE0.out)
      try have HE0 := Hd (OL.below EI.stays HE0.out hbn)
      obtain ⟨gl, hgl⟩ : ∃ g, g = V1.heap.size := ⟨_, rfl⟩
      try rw [← hgl] at hlne
      rw [← hgl] at HL ⊢
      generalize V1.alloc (.cells #[.int .i64 1] 3) = V2 at *
      clear hgl hbn
      refine And.intro U2.out ⟨_, _, rfl, rfl, ?_⟩
      refine wpl_copyI rfl (.tmp 139) (.tmp 140) rfl (base := wr.heap.size) (.slice (some ⟨g0, 0, none⟩) 0 0) rfl HE0.out Z1 bits.length zc bits rfl (HBS.out.below EI.stays (below_next HRw.out.2 U2.out)) (by omega) U2.out.size ?_
      intro v7 V3 q1 q2 q3 q4
      obtain ⟨C4, e4, ev7, _⟩ := OL.slice q1
      subst ev7
      have HOI := Hd q1
      have U3 := Hd (below_chg U2.out q2 q3)
      have HL := Hd (q4 gl _ _ (fun e => hlne (by simpa [Value.ownBlock] using e.symm)) HL.out)
      clear q1 q2 q3 q4 HE0 hlne
      go_wp2_with fail
      refine And.intro U3.out ⟨_, _, rfl, rfl, ?_⟩
      refine wpl_appendI rfl (.tmp 141) (.tmp 143) rfl (base := wr.heap.size) (.slice C4 bits.length e4) bits rfl HOI.out (1) rfl HL.out (by omega) U3.out.size ?_
      intro v8 V4 q1 q2 q3
      obtain ⟨C5, e5, ev8, _⟩ := OL.slice q1
      rw [List.length_append] at ev8
      subst ev8
      have HOI2 := Hd q1
      have U4 := Hd (below_chg U3.out q2 q3)
      clear q1 q2 q3
      go_wp2_with fail
      refine And.intro U4.out ⟨_, _, rfl, rfl, ?_⟩
      go_wp2_with fail
      have hcall := IH.out V4 _ _ _ _ _ k1 (vars ++ [c.var]) (bits ++ [1]) (most - 1 - r0.1) (by omega) (HP.out.of_below (below_next HRw.out.2 U4.out)) (HX.out.below EI.stays (below_next HRw.out.2 U4.out)) (HT.out.of_below (below_next HRw.out.2 U4.out)) (SL.below EI.stays HVw.out U4.out) (OL.sl HOI2.out) (by omega) (i64_more HVI.out HCI.out.1) (i64_more HBI.out (by unfold I64; decide)) (by rw [List.length_append]; simp; omega) (by rw [List.length_append]; simp; omega)
      rw [HK1.out, ← HR1E.out] at hcall
      refine (calls_y hcall (by omega)).mono ?_
      rintro e w9 ⟨rfl, hb⟩
      have U5 := Hd (below_next U4.out hb)
      clear hb hcall
      go_wp2_with fail
      refine And.intro U5.out ⟨?_, _, ?_, rfl, ?_⟩
      rotate_left
      ·(iterate 3 ((refine ⟨_, ?_, rfl, Or.inl ⟨by rfl, ?_⟩, ?_⟩; rotate_left; focus (intro W hW; replace hW := (bcell hW).1; go_simp; try with_reducible rfl)); (try simp only [SQ])))
       exact rfl
      go_wp2_with fail
      refine And.intro U5.out ⟨_, rfl, ?_⟩
      go_wp2_with fail
      refine NoPanic.normal ?_
      go_wp2_with fail
      go_meet
      case rel => exact ⟨rfl, rfl, U5.out⟩
    ·go_wp2_with fail
     have hbn := below_new V0 (.cells #[.int .i64 1] 3)
     have HL := Hd (Blk.new V0 3 #[.int .i64 1])
     have U1 := Hd (below_next U0.out hbn)
     try have HOI := Hd (OL.below EI.stays HOI.out hbn)
     try have hlne : V0.heap.size ≠ g0 := Nat.ne_of_gt (oi_lt HE0.out)
     try have HE0 := Hd (OL.below EI.stays HE0.out hbn)
     obtain ⟨gl, hgl⟩ : ∃ g, g = V0.heap.size := ⟨_, rfl⟩
     try rw [← hgl] at hlne
     rw [← hgl] at HL ⊢
     generalize V0.alloc (.cells #[.int .i64 1] 3) = V1 at *
     clear hgl hbn
     refine And.intro U1.out ⟨_, _, rfl, rfl, ?_⟩
     go_wp2_with fail
     have hbn := below_new V1 (.cells #[] 3)
     have HE0 := Hd (empty_oi (base := wr.heap.size) (W := V1) U1.out.size)
     have U2 := Hd (below_next U1.out hbn)
     have hlne : gl ≠ V1.heap.size := Nat.ne_of_lt HL.out.lt
     have HL := Hd (HL.out.below hbn HL.out.lt)
     obtain ⟨g0, hg0⟩ : ∃ g, g = V1.heap.size := ⟨_, rfl⟩
     rw [← hg0] at HE0 hlne ⊢
     generalize V1.alloc (.cells #[] 3) = V2 at *
     clear hg0 hbn
     refine And.intro U2.out ⟨_, _, rfl, rfl, ?_⟩
     refine wpl_copyI rfl (.tmp 139) (.tmp 140) rfl (base := wr.heap.size) (.slice (some ⟨g0, 0, none⟩) 0 0) rfl HE0.out Z1 bits.length zc bits rfl (HBS.out.below EI.stays (below_next HRw.out.2 U2.out)) (by omega) U2.out.size ?_
     intro v7 V3 q1 q2 q3 q4
     obtain ⟨C4, e4, ev7, _⟩ := OL.slice q1
     subst ev7
     have HOI := Hd q1
     have U3 := Hd (below_chg U2.out q2 q3)
     have HL := Hd (q4 gl _ _ (fun e => hlne (by simpa [Value.ownBlock] using e.symm)) HL.out)
     clear q1 q2 q3 q4 HE0 hlne
     go_wp2_with fail
     refine And.intro U3.out ⟨_, _, rfl, rfl, ?_⟩
     refine wpl_appendI rfl (.tmp 141) (.tmp 143) rfl (base := wr.heap.size) (.slice C4 bits.length e4) bits rfl HOI.out (1) rfl HL.out (by omega) U3.out.size ?_
     intro v8 V4 q1 q2 q3
     obtain ⟨C5, e5, ev8, _⟩ := OL.slice q1
     rw [List.length_append] at ev8
     subst ev8
     have HOI2 := Hd q1
     have U4 := Hd (below_chg U3.out q2 q3)
     clear q1 q2 q3
     go_wp2_with fail
     refine And.intro U4.out ⟨_, _, rfl, rfl, ?_⟩
     go_wp2_with fail
     have hcall := IH.out V4 _ _ _ _ _ k1 (vars ++ [c.var]) (bits ++ [1]) (most - 1 - r0.1) (by omega) (HP.out.of_below (below_next HRw.out.2 U4.out)) (HX.out.below EI.stays (below_next HRw.out.2 U4.out)) (HT.out.of_below (below_next HRw.out.2 U4.out)) (SL.below EI.stays HVw.out U4.out) (OL.sl HOI2.out) (by omega) (i64_more HVI.out HCI.out.1) (i64_more HBI.out (by unfold I64; decide)) (by rw [List.length_append]; simp; omega) (by rw [List.length_append]; simp; omega)
     rw [HK1.out, ← HR1E.out] at hcall
     refine (calls_y hcall (by omega)).mono ?_
     rintro e w9 ⟨rfl, hb⟩
     have U5 := Hd (below_next U4.out hb)
     clear hb hcall
     go_wp2_with fail
     refine And.intro U5.out ⟨?_, _, ?_, rfl, ?_⟩
     rotate_left
     ·(iterate 3 ((refine ⟨_, ?_, rfl, Or.inl ⟨by rfl, ?_⟩, ?_⟩; rotate_left; focus (intro W hW; replace hW := (bcell hW).1; go_simp; try with_reducible rfl)); (try simp only [SQ])))
      exact rfl
     go_wp2_with fail
     refine And.intro U5.out ⟨_, rfl, ?_⟩
     go_wp2_with fail
     refine NoPanic.normal ?_
     go_wp2_with fail
     go_meet
     case rel => exact ⟨rfl, rfl, U5.out⟩
   ·have HL : Hid (provesR p wh t (n + 1) at_ vars bits most = (1 + r0.1 + r1.1, true)) := by unfold Hid; rw [HE1.out, if_pos hf0, hf1]
    clear hf0 hf1
    go_wp2_with fail
    (try simp only [Exit.inBlock, Exit.then])
    refine bodyPost_ret (results_tmp2 rfl _ _ _) rfl ?_
    exact ⟨by rw [HL.out]; simp [Int.natCast_add], HRw.out.2⟩
 have U0 : Hid (Below w3.heap.size w3 w3.drew) := Below.drew (Below.refl _ _)
 refine wp_tree (l := [_, _, _, _, _, _, _, _]) (S := Below w3.heap.size w3) 7 (.two [1, 3, 4] 0 (.two [] 2 (.one [] 5 (.one [] 6 (.fin []))) 5 (.one [] 2 (.one [] 6 (.fin [])))) 5 (.one [] 0 (.one [] 2 (.one [] 6 (.fin []))))) (by kernel_rfl) (by kernel_rfl) (by kernel_rfl) rfl (Below.drew (Below.refl _ _)) ?_
 refine ⟨?_, _, _, ?_, rfl, rfl, ?_, ?_⟩
 rotate_left
 ·(iterate 3 ((refine ⟨_, ?_, rfl, Or.inl ⟨by rfl, ?_⟩, ?_⟩; rotate_left; focus (intro W hW; replace hW := (bcell hW).1; go_simp; try with_reducible rfl)); (try simp only [SQ])))
  exact rfl
 all_goals generalize w3.drew = V0 at *
 ·go_wp2_with fail
  have hbn := below_new V0 (.cells #[] 3)
  have HE0 := Hd (empty_oi (base := w3.heap.size) (W := V0) U0.out.size)
  have U1 := Hd (below_next U0.out hbn)
  obtain ⟨g0, hg0⟩ : ∃ g, g = V0.heap.size := ⟨_, rfl⟩
  rw [← hg0] at HE0 ⊢
  generalize V0.alloc (.cells #[] 3) = V1 at *
  clear hg0 hbn
  refine And.intro U1.out ⟨_, _, _, rfl, rfl, rfl, ?_, ?_⟩
  ·refine wpl_copyI rfl (.tmp 115) (.tmp 116) rfl (base := w3.heap.size) (.slice (some ⟨g0, 0, none⟩) 0 0) rfl HE0.out Y1 vars.length yc vars rfl (HVS.out.below EI.stays (below_next HR3.out.2 U1.out)) (by omega) U1.out.size ?_
   intro v7 V2 q1 q2 q3 q4
   obtain ⟨C4, e4, ev7, _⟩ := OL.slice q1
   subst ev7
   have HOI := Hd q1
   have U2 := Hd (below_chg U1.out q2 q3)
   clear q1 q2 q3 q4 HE0
   go_wp2_with fail
   refine And.intro U2.out ⟨_, _, rfl, rfl, ?_⟩
   go_wp2_with fail
   have hbn := below_new V2 (.cells #[.int .i64 c.var] 3)
   have HL := Hd (Blk.new V2 3 #[.int .i64 c.var])
   have U3 := Hd (below_next U2.out hbn)
   try have HOI := Hd (OL.below EI.stays HOI.out hbn)
   try have hlne : V2.heap.size ≠ g0 := Nat.ne_of_gt (oi_lt HE0.out)
   try have HE0 := Hd (OL.below EI.stays HE0.out hbn)
   obtain ⟨gl, hgl⟩ : ∃ g, g = V2.heap.size := ⟨_, rfl⟩
   try rw [← hgl] at hlne
   rw [← hgl] at HL ⊢
   generalize V2.alloc (.cells #[.int .i64 c.var] 3) = V3 at *
   clear hgl hbn
   refine And.intro U3.out ⟨_, _, rfl, rfl, ?_⟩
   refine wpl_appendI rfl (.tmp 117) (.tmp 120) rfl (base := w3.heap.size) (.slice C4 vars.length e4) vars rfl HOI.out (c.var) rfl HL.out (by omega) U3.out.size ?_
   intro v8 V4 q1 q2 q3
   obtain ⟨C5, e5, ev8, _⟩ := OL.slice q1
   rw [List.length_append] at ev8
   subst ev8
   have HOI2 := Hd q1
   have U4 := Hd (below_chg U3.out q2 q3)
   clear q1 q2 q3
   go_wp2_with fail
   refine And.intro U4.out ⟨_, rfl, ?_⟩
   (try simp only [SQ])
   go_wp2_with fail
   refine NoPanic.normal ?_
   go_wp2_with fail
   go_meet
   case rel => exact ⟨⟨C5, e5, rfl, OL.sl HOI2.out⟩, HR3.out.step U4.out⟩
  ·go_wp2_with fail
   have hbn := below_new V1 (.cells #[.int .i64 c.var] 3)
   have HL := Hd (Blk.new V1 3 #[.int .i64 c.var])
   have U2 := Hd (below_next U1.out hbn)
   try have HOI := Hd (OL.below EI.stays HOI.out hbn)
   try have hlne : V1.heap.size ≠ g0 := Nat.ne_of_gt (oi_lt HE0.out)
   try have HE0 := Hd (OL.below EI.stays HE0.out hbn)
   obtain ⟨gl, hgl⟩ : ∃ g, g = V1.heap.size := ⟨_, rfl⟩
   try rw [← hgl] at hlne
   rw [← hgl] at HL ⊢
   generalize V1.alloc (.cells #[.int .i64 c.var] 3) = V2 at *
   clear hgl hbn
   refine And.intro U2.out ⟨_, _, rfl, rfl, ?_⟩
   refine wpl_copyI rfl (.tmp 115) (.tmp 116) rfl (base := w3.heap.size) (.slice (some ⟨g0, 0, none⟩) 0 0) rfl HE0.out Y1 vars.length yc vars rfl (HVS.out.below EI.stays (below_next HR3.out.2 U2.out)) (by omega) U2.out.size ?_
   intro v7 V3 q1 q2 q3 q4
   obtain ⟨C4, e4, ev7, _⟩ := OL.slice q1
   subst ev7
   have HOI := Hd q1
   have U3 := Hd (below_chg U2.out q2 q3)
   have HL := Hd (q4 gl _ _ (fun e => hlne (by simpa [Value.ownBlock] using e.symm)) HL.out)
   clear q1 q2 q3 q4 HE0 hlne
   go_wp2_with fail
   refine And.intro U3.out ⟨_, _, rfl, rfl, ?_⟩
   refine wpl_appendI rfl (.tmp 117) (.tmp 120) rfl (base := w3.heap.size) (.slice C4 vars.length e4) vars rfl HOI.out (c.var) rfl HL.out (by omega) U3.out.size ?_
   intro v8 V4 q1 q2 q3
   obtain ⟨C5, e5, ev8, _⟩ := OL.slice q1
   rw [List.length_append] at ev8
   subst ev8
   have HOI2 := Hd q1
   have U4 := Hd (below_chg U3.out q2 q3)
   clear q1 q2 q3
   go_wp2_with fail
   refine And.intro U4.out ⟨_, rfl, ?_⟩
   (try simp only [SQ])
   go_wp2_with fail
   refine NoPanic.normal ?_
   go_wp2_with fail
   go_meet
   case rel => exact ⟨⟨C5, e5, rfl, OL.sl HOI2.out⟩, HR3.out.step U4.out⟩
 ·go_wp2_with fail
  have hbn := below_new V0 (.cells #[.int .i64 c.var] 3)
  have HL := Hd (Blk.new V0 3 #[.int .i64 c.var])
  have U1 := Hd (below_next U0.out hbn)
  try have HOI := Hd (OL.below EI.stays HOI.out hbn)
  try have hlne : V0.heap.size ≠ g0 := Nat.ne_of_gt (oi_lt HE0.out)
  try have HE0 := Hd (OL.below EI.stays HE0.out hbn)
  obtain ⟨gl, hgl⟩ : ∃ g, g = V0.heap.size := ⟨_, rfl⟩
  try rw [← hgl] at hlne
  rw [← hgl] at HL ⊢
  generalize V0.alloc (.cells #[.int .i64 c.var] 3) = V1 at *
  clear hgl hbn
  refine And.intro U1.out ⟨_, _, rfl, rfl, ?_⟩
  go_wp2_with fail
  have hbn := below_new V1 (.cells #[] 3)
  have HE0 := Hd (empty_oi (base := w3.heap.size) (W := V1) U1.out.size)
  have U2 := Hd (below_next U1.out hbn)
  have hlne : gl ≠ V1.heap.size := Nat.ne_of_lt HL.out.lt
  have HL := Hd (HL.out.below hbn HL.out.lt)
  obtain ⟨g0, hg0⟩ : ∃ g, g = V1.heap.size := ⟨_, rfl⟩
  rw [← hg0] at HE0 hlne ⊢
  generalize V1.alloc (.cells #[] 3) = V2 at *
  clear hg0 hbn
  refine And.intro U2.out ⟨_, _, rfl, rfl, ?_⟩
  refine wpl_copyI rfl (.tmp 115) (.tmp 116) rfl (base := w3.heap.size) (.slice (some ⟨g0, 0, none⟩) 0 0) rfl HE0.out Y1 vars.length yc vars rfl (HVS.out.below EI.stays (below_next HR3.out.2 U2.out)) (by omega) U2.out.size ?_
  intro v7 V3 q1 q2 q3 q4
  obtain ⟨C4, e4, ev7, _⟩ := OL.slice q1
  subst ev7
  have HOI := Hd q1
  have U3 := Hd (below_chg U2.out q2 q3)
  have HL := Hd (q4 gl _ _ (fun e => hlne (by simpa [Value.ownBlock] using e.symm)) HL.out)
  clear q1 q2 q3 q4 HE0 hlne
  go_wp2_with fail
  refine And.intro U3.out ⟨_, _, rfl, rfl, ?_⟩
  refine wpl_appendI rfl (.tmp 117) (.tmp 120) rfl (base := w3.heap.size) (.slice C4 vars.length e4) vars rfl HOI.out (c.var) rfl HL.out (by omega) U3.out.size ?_
  intro v8 V4 q1 q2 q3
  obtain ⟨C5, e5, ev8, _⟩ := OL.slice q1
  rw [List.length_append] at ev8
  subst ev8
  have HOI2 := Hd q1
  have U4 := Hd (below_chg U3.out q2 q3)
  clear q1 q2 q3
  go_wp2_with fail
  refine And.intro U4.out ⟨_, rfl, ?_⟩
  (try simp only [SQ])
  go_wp2_with fail
  refine NoPanic.normal ?_
  go_wp2_with fail
  go_meet
  case rel => exact ⟨⟨C5, e5, rfl, OL.sl HOI2.out⟩, HR3.out.step U4.out⟩
theorem rproves_calls (p : ProgF) (wh : List Int) (t : TreeF) (hwl : wh.length ≤ 10000) (hr : rightP p = 0) (hd : distinctB p.vars wh = true) (hcl : t.cases.length ≤ 1000000)
  (hlc : ∀ c ∈ t.cases, c.cert.x.length ≤ 100000 ∧ c.cert.y.length ≤ 100000 ∧ c.cert.ray.length ≤ 100000) : ∀ (n : Nat), PSpec p wh t n
 | 0 => fun w v vx v2 vs vb at_ vars bits most hm h hx h2 hs hb _ _ _ _ _ => by
  obtain rfl : most = 0 := by omega
  rw [provesR_zero]
  exact rproves_none p wh t w v vx v2 vs vb at_ vars bits h hx h2 hs hb
 | n + 1 => rproves_step p wh t hwl hr hd hcl hlc n (rproves_calls p wh t hwl hr hd hcl hlc n)
noncomputable def rayOk (t : TreeF) (v : Int) : Bool := decide (v < (t.ray.length : Int)) && decide (signQ (atQ t.ray v) = 0)
noncomputable def rtreeB (p : ProgF) (wh : List Int) (t : TreeF) : Bool :=
 if wholesP p wh ≠ 0 then false
 else if (t.kind = 1 ∨ t.kind = 3) ∧ (rfitsP p t.x = false ∨ wh.all (wholeAt t.x) = false) then false
 else if t.kind = 3 then wh.all (rayOk t) && rgoesB p t.ray
 else if t.kind = 1 ∨ t.kind = 2 then (if t.cases.length = 0 then false else (provesR p wh t t.cases.length 0 [] [] t.cases.length).2)
 else false
theorem ray_next {t : TreeF} {xs : List Int} {i : Nat} {y : Int} (h : ∀ (j : Nat) (x : Int), j < i → xs[j]? = some x → rayOk t x = true) (hy : xs[i]? = some y) (hb : rayOk t y = true) : ∀ (j : Nat) (x : Int), j < i + 1 → xs[j]? = some x → rayOk t x = true := fun j x hj hx => by
 by_cases hji : j = i
 ·rw [hji, hy] at hx
  injection hx with e
  rw [← e]
  exact hb
 ·exact h j x (by omega) hx
theorem ray_all {t : TreeF} {xs : List Int} (h : ∀ (j : Nat) (x : Int), j < xs.length → xs[j]? = some x → rayOk t x = true) : xs.all (rayOk t) = true := by
 rw [List.all_eq_true]
 intro x hx
 obtain ⟨j, hj⟩ := List.getElem?_of_mem hx
 exact h j x (List.getElem?_eq_some_iff.1 hj).1 hj
theorem ray_no {t : TreeF} {xs : List Int} {i : Nat} {y : Int} (hy : xs[i]? = some y) (hb : rayOk t y = false) : xs.all (rayOk t) = false := by
 rw [List.all_eq_false]
 exact ⟨y, List.mem_of_getElem? hy, by simp [hb]⟩
theorem rtree_bad {p : ProgF} {wh : List Int} {t : TreeF} (h0 : wholesP p wh = 0) (h1 : t.kind = 1 ∨ t.kind = 3) (h : rfitsP p t.x = false ∨ wh.all (wholeAt t.x) = false) : rtreeB p wh t = false := by
 unfold rtreeB
 rw [if_neg (by simp [h0]), if_pos ⟨h1, h⟩]
theorem rtree_3 {p : ProgF} {wh : List Int} {t : TreeF} (h0 : wholesP p wh = 0) (h1 : t.kind = 3) (h2 : rfitsP p t.x = true) (h3 : wh.all (wholeAt t.x) = true) : rtreeB p wh t = (wh.all (rayOk t) && rgoesB p t.ray) := by
 unfold rtreeB
 rw [if_neg (by simp [h0]), if_neg (by rw [h2, h3]; simp), if_pos h1]
theorem rtree_1 {p : ProgF} {wh : List Int} {t : TreeF} (h0 : wholesP p wh = 0) (h1 : t.kind = 1) (h2 : rfitsP p t.x = true) (h3 : wh.all (wholeAt t.x) = true) : rtreeB p wh t = (if t.cases.length = 0 then false else (provesR p wh t t.cases.length 0 [] [] t.cases.length).2) := by
 unfold rtreeB
 rw [if_neg (by simp [h0]), if_neg (by rw [h2, h3]; simp), if_neg (by omega), if_pos (.inl h1)]
theorem rtree_2 {p : ProgF} {wh : List Int} {t : TreeF} (h0 : wholesP p wh = 0) (h1 : t.kind = 2) : rtreeB p wh t = (if t.cases.length = 0 then false else (provesR p wh t t.cases.length 0 [] [] t.cases.length).2) := by
 unfold rtreeB
 rw [if_neg (by simp [h0]), if_neg (by omega), if_neg (by omega), if_pos (.inr h1)]
theorem rtree_0 {p : ProgF} {wh : List Int} {t : TreeF} (h0 : wholesP p wh = 0) (h1 : t.kind ≠ 1 ∧ t.kind ≠ 2 ∧ t.kind ≠ 3) : rtreeB p wh t = false := by
 unfold rtreeB
 rw [if_neg (by simp [h0]), if_neg (by omega), if_neg (by omega), if_neg (by omega)]
theorem nil_il (w : World) : IL w (.slice none 0 0) [] := ⟨none, 0, rfl, Nat.le_refl _, fun h => absurd h (by simp)⟩
set_option maxHeartbeats 32000000 in
set_option maxRecDepth 100000 in
theorem rtree_calls (w : World) (v vx v2 : Value) (p : ProgF) (xs : List Int) (t : TreeF) (h : PR w v p) (hx : IL w vx xs) (h2 : TR w v2 t) (hxl : xs.length ≤ 10000) (hxi : ∀ x ∈ xs, I64 x) (hcl : t.cases.length ≤ 900000)
  (hlc : ∀ c ∈ t.cases, c.cert.x.length ≤ 100000 ∧ c.cert.y.length ≤ 100000 ∧ c.cert.ray.length ≤ 100000) : Calls Tryz.prog 10 #[v, vx, v2] w fun e w' => BPost w (rtreeB p xs t) e w' := by
 have HP := Hd h
 have HX := Hd hx
 have HT := Hd h2
 have HXI := Hd hxi
 have HLC := Hd hlc
 obtain ⟨X1, xc, rfl, _⟩ := hx.slice
 obtain ⟨A1, c1, A2, c2, A3, c3, rfl, HI, H1, H2, H3⟩ := h.opened
 obtain ⟨B1, d1, B2, d2, B3, d3, rfl, HTX, HTR, HTC⟩ := h2.opened
 clear h hx h2 hxi hlc
 obtain ⟨vars, hv⟩ : ∃ n, n = p.vars := ⟨_, rfl⟩
 rw [← hv] at HP ⊢
 have HV := Hd hv
 obtain ⟨kd, hkd⟩ : ∃ n, n = t.kind := ⟨_, rfl⟩
 rw [← hkd] at HT ⊢
 have HKD := Hd hkd
 clear hv hkd
 go_enter Tryz.func10, Tryz.ntmps10
 go_wp2_with fail
 have K0 := Hd (HS.two (w := w) #[.int .i64 vars, .slice A1 p.free.length c1, .slice A2 p.goal.length c2, .slice A3 p.rows.length c3] #[.int .i64 kd, .slice B1 t.x.length d1, .slice B2 t.ray.length d2, .slice B3 t.cases.length d3] 26 30)
 generalize (w.alloc (.cells #[.int .i64 vars, .slice A1 p.free.length c1, .slice A2 p.goal.length c2, .slice A3 p.rows.length c3] 26)).alloc (.cells #[.int .i64 kd, .slice B1 t.x.length d1, .slice B2 t.ray.length d2, .slice B3 t.cases.length d3] 30) = W0 at *
 refine (rwholes_calls W0 _ _ p xs (HP.out.of_below K0.out.2) (HX.out.below EI.stays K0.out.2) (by omega) HXI.out).mono ?_
 rintro e w1 ⟨rfl, hb⟩
 have K1 := Hd (K0.out.step hb)
 clear hb K0
 obtain ⟨x0, x1, x2, x3⟩ := (K1.out.blk 1 rfl).c4
 have hltp := (K1.out.blk 1 rfl).lt
 obtain ⟨y0, y1, y2, y3⟩ := (K1.out.blk 0 rfl).c4
 have hltt := (K1.out.blk 0 rfl).lt
 by_cases q1 : wholesP p xs = 0
 case neg =>
  have u1 : (wholesP p xs != 0) = true := bneI q1
  have HE : Hid (rtreeB p xs t = false) := by unfold Hid rtreeB; rw [if_pos q1]
  clear q1
  go_wp2_with fail
  go_ret
  exact ⟨by rw [HE.out]; rfl, K1.out.2⟩
 have u1 : (wholesP p xs != 0) = false := beqI q1
 have HW0 := Hd q1
 have HR0 := Hd (wholesP_ok q1).1
 have HD := Hd (wholesP_ok q1).2
 clear q1
 by_cases k1 : kd = 1
 case pos =>
  have HK := Hd k1
  have v1 : (kd == 1) = true := beqI' k1
  have v2 : (kd == 2) = false := bneI' (by omega)
  have v3 : (kd == 3) = false := bneI' (by omega)
  clear k1
  go_wp2_with fail
  clear x0 x1 x2 x3 hltp y0 y1 y2 y3 hltt
  refine (rfits_calls _ _ _ p t.x (HP.out.of_below K1.out.2) (HTX.out.below EF.stays K1.out.2)).mono ?_
  rintro e w2 ⟨rfl, hb⟩
  have K2 := Hd (K1.out.step hb)
  clear hb
  obtain ⟨x0, x1, x2, x3⟩ := (K2.out.blk 1 rfl).c4
  have hltp := (K2.out.blk 1 rfl).lt
  obtain ⟨y0, y1, y2, y3⟩ := (K2.out.blk 0 rfl).c4
  have hltt := (K2.out.blk 0 rfl).lt
  cases hf : rfitsP p t.x
  case false =>
   have HE : Hid (rtreeB p xs t = false) := rtree_bad HW0.out (.inl (HKD.out.symm.trans HK.out)) (.inl hf)
   clear hf
   go_wp2_with fail
   go_ret
   exact ⟨by rw [HE.out]; rfl, K2.out.2⟩
  have HFI := Hd hf
  have hlx : ∀ x ∈ xs, 0 ≤ x ∧ x < (t.x.length : Int) := by
   have h1 := hf
   unfold rfitsP rfitsB at h1
   simp only [Bool.and_eq_true, decide_eq_true_eq] at h1
   have h2 := HD.out
   unfold distinctB at h2
   intro x hx
   have h3 := (of_decide_eq_true h2).1 x hx
   have h4 := h1.2.1
   omega
  clear hf
  go_wp2_with fail
  clear x0 x1 x2 x3 hltp y0 y1 y2 y3 hltt
  refine (riswhole_calls _ _ _ xs t.x (HX.out.below EI.stays K2.out.2) (HTX.out.below EF.stays K2.out.2) (by omega) hlx).mono ?_
  rintro e w3 ⟨rfl, hb⟩
  have K3 := Hd (K2.out.step hb)
  clear hb hlx
  obtain ⟨x0, x1, x2, x3⟩ := (K3.out.blk 1 rfl).c4
  have hltp := (K3.out.blk 1 rfl).lt
  obtain ⟨y0, y1, y2, y3⟩ := (K3.out.blk 0 rfl).c4
  have hltt := (K3.out.blk 0 rfl).lt
  cases hw : xs.all (wholeAt t.x)
  case false =>
   have HE : Hid (rtreeB p xs t = false) := rtree_bad HW0.out (.inl (HKD.out.symm.trans HK.out)) (.inr hw)
   clear hw
   go_wp2_with fail
   go_ret
   exact ⟨by rw [HE.out]; rfl, K3.out.2⟩
  have HWH := Hd hw
  clear hw
  by_cases hc0 : t.cases.length = 0
  ·have g0 : ((t.cases.length : Int) == 0) = true := beqI' (by omega)
   have HE : Hid (rtreeB p xs t = false) := by unfold Hid; rw [rtree_1 HW0.out (HKD.out.symm.trans HK.out) HFI.out HWH.out, if_pos hc0]
   clear hc0
   go_wp2_with fail
   go_ret
   exact ⟨by rw [HE.out]; rfl, K3.out.2⟩
  have g0 : ((t.cases.length : Int) == 0) = false := bneI' (by omega)
  have HE : Hid (rtreeB p xs t = (provesR p xs t t.cases.length 0 [] [] t.cases.length).2) := by unfold Hid; rw [rtree_1 HW0.out (HKD.out.symm.trans HK.out) HFI.out HWH.out, if_neg hc0]
  have hat : 0 < t.cases.length := by omega
  clear hc0
  go_wp2_with fail
  clear x0 x1 x2 x3 hltp y0 y1 y2 y3 hltt
  refine (rproves_calls p xs t hxl HR0.out HD.out (by omega) HLC.out t.cases.length _ _ _ _ _ _ 0 [] [] t.cases.length (Nat.le_refl _) (HP.out.of_below K3.out.2) (HX.out.below EI.stays K3.out.2) (HT.out.of_below K3.out.2) (nil_il _) (nil_il _) hat (fun x h => absurd h (by simp)) (fun x h => absurd h (by simp)) (by simp; omega) (by simp; omega)).mono ?_
  rintro e w9 ⟨rfl, hb⟩
  have K9 := Hd (K3.out.step hb)
  clear hb
  go_wp2_with fail
  go_ret
  exact ⟨by rw [HE.out]; rfl, K9.out.2⟩
 by_cases k3 : kd = 3
 case pos =>
  have HK := Hd k3
  have v1 : (kd == 1) = false := bneI' k1
  have v2 : (kd == 2) = false := bneI' (by omega)
  have v3 : (kd == 3) = true := beqI' k3
  clear k3 k1
  go_wp2_with fail
  clear x0 x1 x2 x3 hltp y0 y1 y2 y3 hltt
  refine (rfits_calls _ _ _ p t.x (HP.out.of_below K1.out.2) (HTX.out.below EF.stays K1.out.2)).mono ?_
  rintro e w2 ⟨rfl, hb⟩
  have K2 := Hd (K1.out.step hb)
  clear hb
  obtain ⟨x0, x1, x2, x3⟩ := (K2.out.blk 1 rfl).c4
  have hltp := (K2.out.blk 1 rfl).lt
  obtain ⟨y0, y1, y2, y3⟩ := (K2.out.blk 0 rfl).c4
  have hltt := (K2.out.blk 0 rfl).lt
  cases hf : rfitsP p t.x
  case false =>
   have HE : Hid (rtreeB p xs t = false) := rtree_bad HW0.out (.inr (HKD.out.symm.trans HK.out)) (.inl hf)
   clear hf
   go_wp2_with fail
   go_ret
   exact ⟨by rw [HE.out]; rfl, K2.out.2⟩
  have HFI := Hd hf
  have hlx : ∀ x ∈ xs, 0 ≤ x ∧ x < (t.x.length : Int) := by
   have h1 := hf
   unfold rfitsP rfitsB at h1
   simp only [Bool.and_eq_true, decide_eq_true_eq] at h1
   have h2 := HD.out
   unfold distinctB at h2
   intro x hx
   have h3 := (of_decide_eq_true h2).1 x hx
   have h4 := h1.2.1
   omega
  clear hf
  go_wp2_with fail
  clear x0 x1 x2 x3 hltp y0 y1 y2 y3 hltt
  refine (riswhole_calls _ _ _ xs t.x (HX.out.below EI.stays K2.out.2) (HTX.out.below EF.stays K2.out.2) (by omega) hlx).mono ?_
  rintro e w3 ⟨rfl, hb⟩
  have K3 := Hd (K2.out.step hb)
  clear hb hlx
  obtain ⟨x0, x1, x2, x3⟩ := (K3.out.blk 1 rfl).c4
  have hltp := (K3.out.blk 1 rfl).lt
  obtain ⟨y0, y1, y2, y3⟩ := (K3.out.blk 0 rfl).c4
  have hltt := (K3.out.blk 0 rfl).lt
  cases hw : xs.all (wholeAt t.x)
  case false =>
   have HE : Hid (rtreeB p xs t = false) := rtree_bad HW0.out (.inr (HKD.out.symm.trans HK.out)) (.inr hw)
   clear hw
   go_wp2_with fail
   go_ret
   exact ⟨by rw [HE.out]; rfl, K3.out.2⟩
  have HWH := Hd hw
  clear hw
  have HE3 : Hid (rtreeB p xs t = (xs.all (rayOk t) && rgoesB p t.ray)) := rtree_3 HW0.out (HKD.out.symm.trans HK.out) HFI.out HWH.out
  go_wp2_with fail
  clear x0 x1 x2 x3 hltp y0 y1 y2 y3 hltt
  go_loopw [41] (fun vi wr => ∃ i : Nat, i ≤ xs.length ∧ vi = .int .i64 (i : Int) ∧ (∀ (j : Nat) (x : Int), j < i → xs[j]? = some x → rayOk t x = true) ∧ HS w [(w.heap.size + 1, 30, #[.int .i64 kd, .slice B1 t.x.length d1, .slice B2 t.ray.length d2, .slice B3 t.cases.length d3]), (w.heap.size, 26, #[.int .i64 vars, .slice A1 p.free.length c1, .slice A2 p.goal.length c2, .slice A3 p.rows.length c3])] wr) (fun vi _ => xs.length - (intOf vi).toNat)
  case atStart => exact ⟨0, Nat.zero_le _, rfl, fun j _ h => absurd h (Nat.not_lt_zero _), K3.out⟩
  case round =>
   obtain ⟨i, hi, rfl, hall, hs⟩ := hrel
   have HA := Hd hall
   have KK := Hd hs
   clear hall hs K3 K2 K1
   obtain ⟨x0, x1, x2, x3⟩ := (KK.out.blk 1 rfl).c4
   have hltp := (KK.out.blk 1 rfl).lt
   obtain ⟨y0, y1, y2, y3⟩ := (KK.out.blk 0 rfl).c4
   have hltt := (KK.out.blk 0 rfl).lt
   by_cases hlt : i < xs.length
   ·obtain ⟨x, hx⟩ : ∃ x, xs[i]? = some x := ⟨xs[i], List.getElem?_eq_getElem hlt⟩
    obtain ⟨gx, ox, rfl, hgx, k0⟩ := IL.at1 (HX.out.below EI.stays KK.out.2) hx
    have HX1 := Hd hx
    have hxr : 0 ≤ x := by
     have := HD.out
     unfold distinctB at this
     exact ((of_decide_eq_true this).1 x (List.mem_of_getElem? hx)).1
    obtain ⟨n, rfl⟩ : ∃ n : Nat, x = n := ⟨x.toNat, by omega⟩
    have m1 : (i : Int) < (xs.length : Int) := by omega
    have m3 : (i : Int).toNat = i := by omega
    have m5 : (n : Int).toNat = n := by omega
    have m4 : (0 : Int) ≤ (i : Int) := by omega
    have m6 : (0 : Int) ≤ (n : Int) := by omega
    clear hx hxr
    by_cases r1 : t.ray.length ≤ n
    ·have r2 : decide ((t.ray.length : Int) ≤ (n : Int)) = true := decide_eq_true (by omega)
     have r3 : (t.ray.length : Int) ≤ (n : Int) := by omega
     have r4 : decide (t.ray.length ≤ n) = true := decide_eq_true r1
     have HE : Hid (rtreeB p xs t = false) := by
      unfold Hid
      rw [HE3.out, ray_no HX1.out (by unfold rayOk; rw [decide_eq_false (by omega)]; rfl)]
      rfl
     clear r1
     go_wp2_with fail
     go_ret
     exact ⟨by rw [HE.out]; rfl, KK.out.2⟩
    have r2 : decide ((t.ray.length : Int) ≤ (n : Int)) = false := decide_eq_false (by omega)
    have r3 : (n : Int) < (t.ray.length : Int) := by omega
    have r4 : ¬ ((t.ray.length : Int) ≤ (n : Int)) := by omega
    have r5 : decide (t.ray.length ≤ n) = false := decide_eq_false r1
    obtain ⟨fr, hfr⟩ : ∃ f, t.ray[n]? = some f := ⟨t.ray[n]'(by omega), List.getElem?_eq_getElem _⟩
    obtain ⟨gy, oy, C1, n1, e1, C2, n2, e2, rfl, hgy, j0, j1, j2, HFR⟩ := FL.at3 (HTR.out.below EF.stays KK.out.2) hfr
    have HRA := Hd (atQ_at hfr)
    clear hfr r1
    go_wp2_with fail
    refine (rsign_calls _ _ fr HFR.out).mono ?_
    rintro e w9 ⟨rfl, hb⟩
    have K9 := Hd (KK.out.step hb)
    clear hb j0 j1 j2 k0 hgx hgy x0 x1 x2 x3 hltp y0 y1 y2 y3 hltt
    by_cases r6 : signQ (fixQ fr) = 0
    ·have r7 : (signQ (fixQ fr) != 0) = false := beqI r6
     have HNX : Hid (∀ (j : Nat) (x : Int), j < i + 1 → xs[j]? = some x → rayOk t x = true) := ray_next HA.out HX1.out (by unfold rayOk; rw [decide_eq_true r3, HRA.out, r6]; rfl)
     clear r6
     go_wp2_with fail
     go_roundw
     case rel => exact ⟨i + 1, by omega, by go_num, HNX.out, K9.out⟩
     case measure => simp [intOf]; omega
    ·have r7 : (signQ (fixQ fr) != 0) = true := bneI r6
     have HE : Hid (rtreeB p xs t = false) := by
      unfold Hid
      rw [HE3.out, ray_no HX1.out (by unfold rayOk; rw [HRA.out, decide_eq_false r6]; simp)]
      rfl
     clear r6
     go_wp2_with fail
     go_ret
     exact ⟨by rw [HE.out]; rfl, K9.out.2⟩
   ·obtain rfl : i = xs.length := by omega
    have HE : Hid (rtreeB p xs t = rgoesB p t.ray) := by
     unfold Hid
     rw [HE3.out, ray_all HA.out]
     rfl
    go_wp2_with fail
    clear x0 x1 x2 x3 hltp y0 y1 y2 y3 hltt
    refine (rgoes_calls _ _ _ p t.ray (HP.out.of_below KK.out.2) (HTR.out.below EF.stays KK.out.2) HR0.out).mono ?_
    rintro e w9 ⟨rfl, hb⟩
    have K9 := Hd (KK.out.step hb)
    clear hb
    go_wp2_with fail
    go_ret
    exact ⟨by rw [HE.out]; rfl, K9.out.2⟩
 by_cases k2 : kd = 2
 case pos =>
  have HK := Hd k2
  have v1 : (kd == 1) = false := bneI' k1
  have v2 : (kd == 2) = true := beqI' k2
  have v3 : (kd == 3) = false := bneI' k3
  clear k1 k2 k3
  by_cases hc0 : t.cases.length = 0
  ·have g0 : ((t.cases.length : Int) == 0) = true := beqI' (by omega)
   have HE : Hid (rtreeB p xs t = false) := by unfold Hid; rw [rtree_2 HW0.out (HKD.out.symm.trans HK.out), if_pos hc0]
   clear hc0
   go_wp2_with fail
   go_ret
   exact ⟨by rw [HE.out]; rfl, K1.out.2⟩
  have g0 : ((t.cases.length : Int) == 0) = false := bneI' (by omega)
  have HE : Hid (rtreeB p xs t = (provesR p xs t t.cases.length 0 [] [] t.cases.length).2) := by unfold Hid; rw [rtree_2 HW0.out (HKD.out.symm.trans HK.out), if_neg hc0]
  have hat : 0 < t.cases.length := by omega
  clear hc0
  go_wp2_with fail
  clear x0 x1 x2 x3 hltp y0 y1 y2 y3 hltt
  refine (rproves_calls p xs t hxl HR0.out HD.out (by omega) HLC.out t.cases.length _ _ _ _ _ _ 0 [] [] t.cases.length (Nat.le_refl _) (HP.out.of_below K1.out.2) (HX.out.below EI.stays K1.out.2) (HT.out.of_below K1.out.2) (nil_il _) (nil_il _) hat (fun x h => absurd h (by simp)) (fun x h => absurd h (by simp)) (by simp; omega) (by simp; omega)).mono ?_
  rintro e w9 ⟨rfl, hb⟩
  have K9 := Hd (K1.out.step hb)
  clear hb
  go_wp2_with fail
  go_ret
  exact ⟨by rw [HE.out]; rfl, K9.out.2⟩
 have v1 : (kd == 1) = false := bneI' k1
 have v2 : (kd == 2) = false := bneI' k2
 have v3 : (kd == 3) = false := bneI' k3
 have HE : Hid (rtreeB p xs t = false) := rtree_0 HW0.out (by rw [← HKD.out]; exact ⟨k1, k2, k3⟩)
 clear k1 k2 k3
 go_wp2_with fail
 go_ret
 exact ⟨by rw [HE.out]; rfl, K1.out.2⟩
theorem word_raw {n : Nat} {q : Rat} (h : FitQ n q) : wordF n (rawQ q) = true := by
 unfold wordF rawQ
 simp only [Bool.and_eq_true, decide_eq_true_eq]
 exact h
theorem fit_one : FitQ 1 1 := by unfold FitQ; decide +kernel
theorem fit_nil : FitQ 1 0 := by unfold FitQ; decide +kernel
theorem fit_unit (n : Nat) (v : Int) : ∀ q ∈ unitL n v, FitQ 1 q := fun q hq => by
 unfold unitL at hq
 obtain ⟨i, _, rfl⟩ := List.mem_map.1 hq
 split
 ·exact fit_one
 ·exact fit_nil
theorem words_raw {n : Nat} {l : List Rat} (h : ∀ q ∈ l, FitQ n q) : wordsB (l.map rawQ) n = true := by
 unfold wordsB
 rw [List.all_eq_true]
 intro f hf
 obtain ⟨q, hq, rfl⟩ := List.mem_map.1 hf
 exact word_raw (h q hq)
theorem rowIn_mk {vars : Nat} {r : RowQ} (hl : r.a.length ≤ vars) (ha : ∀ q ∈ r.a, FitQ 6 q) (hb : FitQ 6 r.b) : rowIn vars (rawR r) = true := by
 unfold rowIn
 have h1 : decide ((rawR r).a.length ≤ vars) = true := decide_eq_true (by show (r.a.map rawQ).length ≤ vars; rw [List.length_map]; exact hl)
 have h2 : wordsB (rawR r).a 6 = true := words_raw ha
 have h3 : wordsB [(rawR r).b] 6 = true := by
  unfold wordsB
  rw [List.all_eq_true]
  intro f hf
  rw [List.mem_singleton] at hf
  rw [hf]
  exact word_raw hb
 rw [h1, h2, h3]
 rfl
theorem within_node {p : ProgF} {wh vars bits : List Int} (hp : withinB p 8 12 = true) (h : wh.length + vars.length ≤ 12) (hb : bitsB bits = true) : withinB (rawP (nodeQ p wh vars bits)) 20 30 = true := by
 obtain ⟨h1, h2, h3, h4, h5, h6⟩ := withinB_ok hp
 have hv : p.vars ≤ 8 := h1
 have hn : p.vars.toNat ≤ 20 := by omega
 have clean : ∀ r ∈ p.rows.map cleanR, rowIn 20 (rawR r) = true := fun r hr => by
  obtain ⟨x, hx, rfl⟩ := List.mem_map.1 hr
  obtain ⟨a, b, c⟩ := h6 x hx
  refine rowIn_mk (by show (x.a.map fixQ).length ≤ 20; rw [List.length_map]; omega) (fit_list b (by decide)) (fit_words c (by decide))
 have unit : ∀ (v s b : Int), (b = 0 ∨ b = 1) → rowIn 20 (rawR (unitQ p.vars.toNat v s b)) = true := fun v s b hb => by
  refine rowIn_mk (by rw [unit_len]; exact hn) (fun q hq => fit_mono (fit_unit _ _ q hq) (by decide)) ?_
  rcases hb with rfl | rfl
  ·exact fit_mono (show FitQ 1 (((0 : Int) : Rat)) from fit_nil) (by decide)
  ·exact fit_mono (show FitQ 1 (((1 : Int) : Rat)) from fit_one) (by decide)
 unfold withinB
 have g1 : decide ((rawP (nodeQ p wh vars bits)).vars ≤ ((20 : Nat) : Int)) = true := decide_eq_true (by show p.vars ≤ 20; omega)
 have g2 : decide ((rawP (nodeQ p wh vars bits)).rows.length ≤ 30) = true := decide_eq_true (by
  show ((nodeQ p wh vars bits).rows.map rawR).length ≤ 30
  rw [List.length_map]
  show ((boundedQ p wh).rows ++ fixRows p.vars.toNat vars bits).length ≤ 30
  rw [List.length_append, len_bounded]
  unfold fixRows
  rw [List.length_map]
  have := zip_le vars bits
  omega)
 have g3 : decide ((rawP (nodeQ p wh vars bits)).free.length ≤ 20) = true := decide_eq_true (by show p.free.length ≤ 20; omega)
 have g4 : decide ((rawP (nodeQ p wh vars bits)).goal.length ≤ 20) = true := decide_eq_true (by show ((p.goal.map fixQ).map rawQ).length ≤ 20; rw [List.length_map, List.length_map]; omega)
 have g5 : wordsB (rawP (nodeQ p wh vars bits)).goal 6 = true := words_raw (fit_list h5 (by decide))
 have g6 : (rawP (nodeQ p wh vars bits)).rows.all (rowIn 20) = true := by
  rw [List.all_eq_true]
  intro r hr
  obtain ⟨x, hx, rfl⟩ := List.mem_map.1 hr
  rcases List.mem_append.1 hx with hx | hx
  ·rcases List.mem_append.1 hx with hx | hx
   ·exact clean x hx
   ·obtain ⟨v, _, rfl⟩ := List.mem_map.1 hx
    exact unit v (-1) 1 (.inr rfl)
  ·obtain ⟨y, hy, rfl⟩ := List.mem_map.1 hx
   unfold bitsB at hb
   exact unit _ _ _ (of_decide_eq_true (List.all_eq_true.1 hb y.2 (List.of_mem_zip hy).2))
 rw [g1, g2, g3, g4, g5, g6]
 rfl
theorem within_more {p : ProgF} (hp : withinB p 8 12 = true) : withinB p 20 30 = true := by
 obtain ⟨h1, h2, h3, h4, h5, h6⟩ := withinB_ok hp
 have h1' : p.vars ≤ 8 := h1
 unfold withinB
 rw [decide_eq_true (show p.vars ≤ ((20 : Nat) : Int) by omega), decide_eq_true (show p.rows.length ≤ 30 by omega), decide_eq_true (show p.free.length ≤ 20 by omega), decide_eq_true (show p.goal.length ≤ 20 by omega), h5]
 have : p.rows.all (rowIn 20) = true := by
  rw [List.all_eq_true]
  intro r hr
  obtain ⟨a, b, c⟩ := h6 r hr
  unfold rowIn
  rw [decide_eq_true (show r.a.length ≤ 20 by omega), b]
  unfold wordsB
  simp [c]
 rw [this]
 rfl
theorem value_node {p : ProgF} {wh vars bits : List Int} (hr : rightP p = 0) (hn : rightP (rawP (nodeQ p wh vars bits)) = 0) (x : List RawF) : valueP (rawP (nodeQ p wh vars bits)) x = valueP p x := by
 have e : (rawP (nodeQ p wh vars bits)).goal.map fixQ = p.goal.map fixQ := fix_raws (small_bounded p wh).1
 unfold valueP
 rw [hr, hn, e]
 rfl
theorem leaf_same {p : ProgF} {wh : List Int} {t : TreeF} {lim : Option Rat} (hp : withinB p 8 12 = true) (hw : wh.length ≤ 6) (ht : treeIn t = true) (hr : rightP p = 0) (hd : distinctB p.vars wh = true)
  (hlim : (t.kind = 2 ∧ lim = none) ∨ (t.kind = 1 ∧ lim = some (valueP p t.x))) (vars bits op : List Int) (c : CaseF) (hc : c ∈ t.cases) (hi : NInv wh vars bits op) : leafB (nodeQ p wh vars bits) c.cert lim = leafR p wh t vars bits c.cert := by
 obtain ⟨_, ht1, ht2⟩ := treeIn_ok ht
 have hrows := (withinB_ok hp).2.1
 have hfit := hi.fit
 have h0 : nodeC p wh vars bits = 0 := node_ok hr hd (by omega) hi
 have hn : rightP (rawP (nodeQ p wh vars bits)) = 0 := right_node hr (by omega)
 have hj := judge_same (c := c.cert) (within_node (wh := wh) (vars := vars) hp (by omega) hi.bit) (ht2 c hc)
 obtain ⟨_, hx, _, _⟩ := certB_ok (ht2 c hc)
 obtain ⟨_, hx2, _, _⟩ := certB_ok ht1
 have v1 : valueP (rawP (nodeQ p wh vars bits)) c.cert.x = rvalueP p c.cert.x := (value_node hr hn _).trans (value_same hp hx (by decide) (by decide))
 have v2 : valueP p t.x = rvalueP p t.x := value_same hp hx2 (by decide) (by decide)
 unfold leafR
 rw [h0, node_eq h0, ← hj, decide_eq_true rfl, Bool.true_and]
 rcases hlim with ⟨hk, rfl⟩ | ⟨hk, rfl⟩
 ·show (_ && _) = _
  rw [hk]
  simp
 ·show (_ && (_ || (_ && decide (ordQ (valueP (rawP (nodeQ p wh vars bits)) c.cert.x) (valueP p t.x) ≤ 0)))) = _
  rw [hk, v1, v2]
  simp
theorem bad_same (t : TreeF) (v : Int) : wholeBad t v = (!wholeAt t.x v || (decide (t.kind = 3) && !rayOk t v)) := by
 unfold wholeBad wholeAt rayOk
 rw [signQ_ord (atQ t.x v)]
 by_cases a : ordQ (atQ t.x v) 0 = 0 <;> by_cases b : ordQ (atQ t.x v) 1 = 0 <;> by_cases c : t.kind = 3 <;> by_cases d : v < (t.ray.length : Int) <;> by_cases e : signQ (atQ t.ray v) = 0 <;> simp [a, b, c, d, e] <;> omega
theorem any_same (t : TreeF) (xs : List Int) : xs.any (wholeBad t) = !(xs.all (wholeAt t.x) && (!decide (t.kind = 3) || xs.all (rayOk t))) := by
 induction xs with
 | nil => simp
 | cons v l ih =>
  rw [List.any_cons, List.all_cons, List.all_cons, ih, bad_same]
  cases wholeAt t.x v <;> cases decide (t.kind = 3) <;> cases rayOk t v <;> cases l.all (wholeAt t.x) <;> cases l.all (rayOk t) <;> rfl
theorem trees_same {p : ProgF} {wh : List Int} {t : TreeF} (hp : withinB p 8 12 = true) (hw : wh.length ≤ 6) (ht : treeIn t = true) : treeB p wh t = rtreeB p wh t := by
 by_cases h0 : wholesP p wh = 0
 case neg =>
  unfold treeB rtreeB
  rw [if_pos h0, if_pos h0]
 obtain ⟨hr, hd⟩ := wholesP_ok h0
 have hrows := (withinB_ok hp).2.1
 obtain ⟨_, ht1, _⟩ := treeIn_ok ht
 obtain ⟨_, hx, _, hry⟩ := certB_ok ht1
 have hx' : wordsB t.x 12 = true := hx
 have hf : fitsB p t.x = rfitsP p t.x := by
  have := fits_same (x := t.x) (k := 12) hp hx' (by decide) (by decide)
  unfold fitsP at this
  rw [decide_eq_true hr, Bool.true_and] at this
  exact this
 have hi : NInv wh [] [] wh := ⟨rfl, fun v h => absurd h (by simp), List.nodup_nil, rfl, by
  have : (fun y => !hasB [] y) = fun (_ : Int) => true := by funext y; rfl
  rw [this]; exact (List.filter_eq_self.2 fun _ _ => rfl).symm, by simp⟩
 have pv : ∀ lim, ((t.kind = 2 ∧ lim = none) ∨ (t.kind = 1 ∧ lim = some (valueP p t.x))) → (provesM t.cases lim (t.cases.length + 1) (boundedQ p wh) 0 wh t.cases.length).1 = if t.cases.length = 0 then false else (provesR p wh t t.cases.length 0 [] [] t.cases.length).2 := by
  intro lim hlim
  by_cases hz : t.cases.length = 0
  ·rw [if_pos hz]
   unfold provesM
   rw [if_pos (.inr (.inl (by omega)))]
  ·rw [if_neg hz, ← node_nil p wh]
   exact (proves_same hr hd (by omega) (leaf_same hp hw ht hr hd hlim) t.cases.length (t.cases.length + 1) 0 [] [] wh t.cases.length (Nat.le_refl _) (Nat.lt_succ_self _) (Int.le_refl _) (by omega) hi).1
 by_cases k2 : t.kind = 2
 ·rw [rtree_2 h0 k2]
  unfold treeB
  rw [if_neg (by simp [h0]), if_pos k2]
  exact pv none (.inl ⟨k2, rfl⟩)
 by_cases k13 : t.kind ≠ 1 ∧ t.kind ≠ 3
 ·rw [rtree_0 h0 ⟨k13.1, k2, k13.2⟩]
  unfold treeB
  rw [if_neg (by simp [h0]), if_neg k2, if_pos k13]
 have k13' : t.kind = 1 ∨ t.kind = 3 := by omega
 have et : treeB p wh t = if rfitsP p t.x = false then false else if wh.any (wholeBad t) = true then false else if t.kind = 3 then goesB p t.ray else (provesM t.cases (some (valueP p t.x)) (t.cases.length + 1) (boundedQ p wh) 0 wh t.cases.length).1 := by
  unfold treeB
  rw [if_neg (by simp [h0]), if_neg k2, if_neg k13, hf]
 rw [et]
 cases hfi : rfitsP p t.x
 case false => rw [if_pos rfl, rtree_bad h0 k13' (.inl hfi)]
 rw [if_neg (by simp), any_same]
 cases hwa : wh.all (wholeAt t.x)
 case false => rw [rtree_bad h0 k13' (.inr hwa)]; simp
 rcases k13' with k1 | k3
 ·rw [rtree_1 h0 k1 hfi hwa, if_neg (by simp [k1]), if_neg (by omega)]
  exact pv _ (.inr ⟨k1, rfl⟩)
 ·rw [rtree_3 h0 k3 hfi hwa]
  have hg : goesB p t.ray = rgoesB p t.ray := goes_same (c := ⟨0, t.x, [], t.ray⟩) (within_more hp) ht1
  rw [hg, decide_eq_true k3, if_pos k3]
  cases wh.all (rayOk t) <;> simp
set_option maxHeartbeats 32000000 in
set_option maxRecDepth 100000 in
theorem trees_calls (w : World) (v vx v2 : Value) (p : ProgF) (xs : List Int) (t : TreeF) (h : PG0 w v p) (hx : IL w vx xs) (h2 : TG0 w v2 t) (hxi : ∀ x ∈ xs, I64 x) : Calls Tryz.prog 3 #[v, vx, v2] w fun e w' => BPost w true e w' := by
 have HP := Hd h
 have HX := Hd hx
 have HT := Hd h2
 have HXI := Hd hxi
 obtain ⟨X1, xc, rfl, _⟩ := hx.slice
 obtain ⟨A1, c1, A2, c2, A3, c3, rfl, HI, H1, H2, H3⟩ := h.opened
 obtain ⟨B1, d1, B2, d2, B3, d3, rfl, HTX, HTR, HTC⟩ := h2.opened
 clear h hx h2 hxi
 obtain ⟨vars, hv⟩ : ∃ n, n = p.vars := ⟨_, rfl⟩
 rw [← hv] at HP ⊢
 obtain ⟨kd, hkd⟩ : ∃ n, n = t.kind := ⟨_, rfl⟩
 rw [← hkd] at HT ⊢
 clear hv hkd
 go_enter Tryz.func3, Tryz.ntmps3
 go_wp2_with fail
 have K0 := Hd (HS.two (w := w) #[.int .i64 vars, .slice A1 p.free.length c1, .slice A2 p.goal.length c2, .slice A3 p.rows.length c3] #[.int .i64 kd, .slice B1 t.x.length d1, .slice B2 t.ray.length d2, .slice B3 t.cases.length d3] 26 30)
 generalize (w.alloc (.cells #[.int .i64 vars, .slice A1 p.free.length c1, .slice A2 p.goal.length c2, .slice A3 p.rows.length c3] 26)).alloc (.cells #[.int .i64 kd, .slice B1 t.x.length d1, .slice B2 t.ray.length d2, .slice B3 t.cases.length d3] 30) = W0 at *
 refine (within_calls W0 _ p 8 12 (HP.out.of_below K0.out.2) (by decide) (by decide)).mono ?_
 rintro e w1 ⟨rfl, hb⟩
 have K1 := Hd (K0.out.step hb)
 clear hb K0
 obtain ⟨x0, x1, x2, x3⟩ := (K1.out.blk 1 rfl).c4
 have hltp := (K1.out.blk 1 rfl).lt
 obtain ⟨y0, y1, y2, y3⟩ := (K1.out.blk 0 rfl).c4
 have hltt := (K1.out.blk 0 rfl).lt
 cases hw : withinB p 8 12
 case false =>
  clear hw
  go_wp2_with fail
  go_ret
  exact ⟨rfl, K1.out.2⟩
 have HW := Hd hw
 clear hw
 by_cases a1 : 6 < xs.length
 ·have b1 : (6 : Int) < (xs.length : Int) := by omega
  have b2 : decide ((6 : Int) < (xs.length : Int)) = true := decide_eq_true b1
  clear a1
  go_wp2_with fail
  go_ret
  exact ⟨rfl, K1.out.2⟩
 have b1 : ¬ ((6 : Int) < (xs.length : Int)) := by omega
 have b2 : decide ((6 : Int) < (xs.length : Int)) = false := decide_eq_false b1
 have hx6 : xs.length ≤ 6 := by omega
 clear a1
 go_wp2_with fail
 clear x0 x1 x2 x3 hltp y0 y1 y2 y3 hltt
 refine (treein_calls _ _ t (HT.out.of_below K1.out.2)).mono ?_
 rintro e w2 ⟨rfl, hb⟩
 have K2 := Hd (K1.out.step hb)
 clear hb K1
 cases ht : treeIn t
 case false =>
  clear ht
  go_wp2_with fail
  go_ret
  exact ⟨rfl, K2.out.2⟩
 have HPF := Hd (HP.out.full HW.out)
 have HTF := Hd (HT.out.full ht)
 have HJ := Hd (trees_same HW.out hx6 ht)
 have hok := treeIn_ok ht
 have HLC : Hid (∀ c ∈ t.cases, c.cert.x.length ≤ 100000 ∧ c.cert.y.length ≤ 100000 ∧ c.cert.ray.length ≤ 100000) := fun c hc => by
  have := (certB_ok (hok.2.2 c hc)).1
  omega
 have hl9 := (certB_ok hok.2.1).1
 have hlx : t.x.length ≤ 100000 := by have : t.x.length ≤ 41 := hl9.1; omega
 have hly : t.ray.length ≤ 100000 := by have : t.ray.length ≤ 41 := hl9.2.2; omega
 have hcl1 : t.cases.length ≤ 900000 := by omega
 have hcl2 : t.cases.length ≤ 1000000 := by omega
 have hrw : p.rows.length ≤ 10000 := by have := (withinB_ok HW.out).2.1; omega
 have hx7 : xs.length ≤ 10000 := by omega
 have HCELLS : Hid (∀ W, HS w [(w.heap.size + 1, 30, #[.int .i64 kd, .slice B1 t.x.length d1, .slice B2 t.ray.length d2, .slice B3 t.cases.length d3]), (w.heap.size, 26, #[.int .i64 vars, .slice A1 p.free.length c1, .slice A2 p.goal.length c2, .slice A3 p.rows.length c3])] W → (W.cell? ⟨w.heap.size, 0, none⟩ = some (.int .i64 vars) ∧ W.cell? ⟨w.heap.size, 1, none⟩ = some (.slice A1 p.free.length c1) ∧ W.cell? ⟨w.heap.size, 2, none⟩ = some (.slice A2 p.goal.length c2) ∧ W.cell? ⟨w.heap.size, 3, none⟩ = some (.slice A3 p.rows.length c3) ∧ W.cell? ⟨w.heap.size + 1, 0, none⟩ = some (.int .i64 kd) ∧ W.cell? ⟨w.heap.size + 1, 1, none⟩ = some (.slice B1 t.x.length d1) ∧ W.cell? ⟨w.heap.size + 1, 2, none⟩ = some (.slice B2 t.ray.length d2) ∧ W.cell? ⟨w.heap.size + 1, 3, none⟩ = some (.slice B3 t.cases.length d3))) := fun W h => by
  obtain ⟨a, b, c, d⟩ := (h.blk 1 rfl).c4
  obtain ⟨e, f, g, i⟩ := (h.blk 0 rfl).c4
  exact ⟨a, b, c, d, e, f, g, i⟩
 clear ht hok hl9
 go_wp2_with fail
 go_region_held3 (fun W => (W.cell? ⟨w.heap.size, 0, none⟩ = some (.int .i64 vars) ∧ W.cell? ⟨w.heap.size, 1, none⟩ = some (.slice A1 p.free.length c1) ∧ W.cell? ⟨w.heap.size, 2, none⟩ = some (.slice A2 p.goal.length c2) ∧ W.cell? ⟨w.heap.size, 3, none⟩ = some (.slice A3 p.rows.length c3) ∧ W.cell? ⟨w.heap.size + 1, 0, none⟩ = some (.int .i64 kd) ∧ W.cell? ⟨w.heap.size + 1, 1, none⟩ = some (.slice B1 t.x.length d1) ∧ W.cell? ⟨w.heap.size + 1, 2, none⟩ = some (.slice B2 t.ray.length d2) ∧ W.cell? ⟨w.heap.size + 1, 3, none⟩ = some (.slice B3 t.cases.length d3)) ∧ HS w [(w.heap.size + 1, 30, #[.int .i64 kd, .slice B1 t.x.length d1, .slice B2 t.ray.length d2, .slice B3 t.cases.length d3]), (w.heap.size, 26, #[.int .i64 vars, .slice A1 p.free.length c1, .slice A2 p.goal.length c2, .slice A3 p.rows.length c3])] W)
  (first
   | exact ⟨HCELLS.out _ K2.out.drew, K2.out.drew⟩
   | (have hk9 := HS.step (And.right ‹_ ∧ HS _ _ _›) ‹_›; exact ⟨HCELLS.out _ hk9, hk9⟩))
  (first
   | (go_at_call 9; refine (tree_calls _ _ _ _ p xs t (HPF.out.of_below (And.right ‹_ ∧ HS _ _ _›).2) (HX.out.below EI.stays (And.right ‹_ ∧ HS _ _ _›).2) (HTF.out.of_below (And.right ‹_ ∧ HS _ _ _›).2) hx7 HXI.out hrw hcl2 hlx hly HLC.out).mono ?_; rintro e w' ⟨rfl, hb⟩)
   | (go_at_call 10; refine (rtree_calls _ _ _ _ p xs t (HPF.out.of_below (And.right ‹_ ∧ HS _ _ _›).2) (HX.out.below EI.stays (And.right ‹_ ∧ HS _ _ _›).2) (HTF.out.of_below (And.right ‹_ ∧ HS _ _ _›).2) hx7 HXI.out hcl1 HLC.out).mono ?_; rintro e w' ⟨rfl, hb⟩; have hb7 := (HS.step (And.right ‹_ ∧ HS _ _ _›) hb).2))
 have hff : (treeB p xs t == rtreeB p xs t) = true := by rw [HJ.out]; simp
 go_wp2_with fail
 go_ret
 exact ⟨congrArg (fun b => Ending.returned (.bool b)) hff, hb7⟩
end Go.Proofs.YtfhambfgjigneaaGreat

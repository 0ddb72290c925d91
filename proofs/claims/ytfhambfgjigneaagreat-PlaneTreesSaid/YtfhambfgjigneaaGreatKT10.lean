/- Contracts of Go functions that the statement reaches, proved by walking their text, and plain laws over them (texts put together). -/
import Derived.Test.YtfhambfgjigneaaGreatKT9
import Derived.Test.YtfhambfgjigneaaGreatKT8
import Derived.Test.YtfhambfgjigneaaGreatKT5
set_option linter.unusedVariables false
set_option linter.unusedSimpArgs false
namespace Go.Proofs.YtfhambfgjigneaaGreat
open Go.RowKit
structure TreeF where
 kind : Int
 x : List RawF
 ray : List RawF
 cases : List CaseF
def TR (w : World) (v : Value) (t : TreeF) : Prop := ∃ v1 v2 v3, v = .agg #[.int .i64 t.kind, v1, v2, v3] ∧ I64 t.kind ∧ FL w v1 t.x ∧ FL w v2 t.ray ∧ CL w v3 t.cases
theorem TR.of_below {w w1 : World} {v : Value} {t : TreeF} (h : TR w v t) (hb : Below w.heap.size w w1) : TR w1 v t := by
 obtain ⟨v1, v2, v3, e, hi, h1, h2, h3⟩ := h
 exact ⟨v1, v2, v3, e, hi, h1.below EF.stays hb, h2.below EF.stays hb, SL.below ECase.stays h3 hb⟩
theorem TR.opened {w : World} {v : Value} {t : TreeF} (h : TR w v t) : ∃ A1 c1 A2 c2 A3 c3, v = .agg #[.int .i64 t.kind, .slice A1 t.x.length c1, .slice A2 t.ray.length c2, .slice A3 t.cases.length c3] ∧ Hid (FL w (.slice A1 t.x.length c1) t.x) ∧ Hid (FL w (.slice A2 t.ray.length c2) t.ray) ∧ Hid (CL w (.slice A3 t.cases.length c3) t.cases) := by
 obtain ⟨v1, v2, v3, rfl, hi, h1, h2, h3⟩ := h
 obtain ⟨A1, c1, rfl, _⟩ := h1.slice
 obtain ⟨A2, c2, rfl, _⟩ := h2.slice
 obtain ⟨A3, c3, rfl, _⟩ := h3.slice
 exact ⟨A1, c1, A2, c2, A3, c3, rfl, h1, h2, h3⟩
noncomputable def atQ (l : List RawF) (v : Int) : Rat := (l.map fixQ).getD v.toNat 0
noncomputable def wholeBad (t : TreeF) (v : Int) : Bool := (decide (signQ (atQ t.x v) ≠ 0) && decide (ordQ (atQ t.x v) 1 ≠ 0)) || (decide (t.kind = 3) && (decide ((t.ray.length : Int) ≤ v) || decide (signQ (atQ t.ray v) ≠ 0)))
noncomputable def treeB (p : ProgF) (whole : List Int) (t : TreeF) : Bool :=
 if wholesP p whole ≠ 0 then false
 else if t.kind = 2 then (provesM t.cases none (t.cases.length + 1) (boundedQ p whole) 0 whole t.cases.length).1
 else if t.kind ≠ 1 ∧ t.kind ≠ 3 then false
 else if fitsB p t.x = false then false
 else if whole.any (wholeBad t) = true then false
 else if t.kind = 3 then goesB p t.ray
 else (provesM t.cases (some (valueP p t.x)) (t.cases.length + 1) (boundedQ p whole) 0 whole t.cases.length).1
theorem Rep.lim {Wr w : World} {AC : Option Addr} {nc cc left : Nat} {LIM : Value} {q : Rat} (h : Rep Wr AC nc cc (.pointer none) none left w) (hl : LimOK w LIM (some q)) : Rep Wr AC nc cc LIM (some q) left (w.setCell ⟨Wr.heap.size, 2, none⟩ LIM) := by
 have hw : ∀ u ∈ #[Value.slice AC nc cc, .int .i64 (left : Int), .pointer none], notWord u = true := by
  intro u hu
  simp only [List.mem_toArray, List.mem_cons, List.not_mem_nil, or_false] at hu
  rcases hu with rfl | rfl | rfl <;> rfl
 have hc := chg_put1 (base := Wr.heap.size) (j := 2) h.2.1 (Nat.le_refl _) hw LIM
 exact ⟨h.1.other1 (g := Wr.heap.size) (Nat.le_refl _) (by simp) 2 _, h.2.1.put 2 _, hl.chg hc (by decide)⟩
theorem wholesP_ok {p : ProgF} {l : List Int} (h : wholesP p l = 0) : rightP p = 0 ∧ distinctB p.vars l = true := by
 unfold wholesP at h
 split at h
 ·rename_i h1; exact absurd h h1
 ·rename_i h1
  split at h
  ·omega
  ·rename_i h2
   exact ⟨by omega, by simpa using h2⟩
theorem small_bounded (p : ProgF) (l : List Int) : SmallP (boundedQ p l) := by
 refine ⟨(small_clean p).1, fun r hr => ?_⟩
 rcases List.mem_append.1 hr with hr | hr
 ·exact (small_clean p).2 r hr
 ·obtain ⟨v, _, rfl⟩ := List.mem_map.1 hr
  exact small_unit _ _ _ _ (.inr rfl)
theorem PO.ofC {b0 b : Nat} {w : World} {v1 v2 v3 : Value} {p : ProgQ} (hf : FrO 0 w v1 p.free) (hq : QO b w v2 p.goal) (hr : RO b w v3 p.rows) (hi : I64 p.vars) (hb : b0 ≤ b) : PO b0 w (.agg #[.int .i64 p.vars, v1, v2, v3]) p :=
 ⟨v1, v2, v3, rfl, hi, hf.raise (Nat.zero_le _), hq.lower hb, RO.lower hr hb⟩
theorem I64.of_bounded {p : ProgF} {q : Prop} {r : Prop} {s : Prop} (h : q ∧ r ∧ 1 ≤ p.vars ∧ p.vars ≤ 160 ∧ s) : I64 p.vars := by unfold I64; have := h.2.2.1; have := h.2.2.2.1; omega
theorem IO.old {Wr w : World} {v : Value} {l : List Int} (h : IL Wr v l) (hb : Below Wr.heap.size Wr w) : IO Wr.heap.size w v l := by
 refine ⟨SL.below EI.stays h hb, fun g hg hl => .inl ?_⟩
 obtain ⟨A, c, rfl, _, hr⟩ := h
 obtain ⟨g', o, rfl, hg', _⟩ := hr hl
 simp only [Value.ownBlock] at hg
 by_cases ho : o = 0
 ·subst ho
  simp at hg
  omega
 ·simp [ho] at hg
  omega
theorem distinct_in {p : ProgF} {l : List Int} (h : distinctB p.vars l = true) : ∀ x ∈ l, 0 ≤ x ∧ x < (boundedQ p l).vars := by
 unfold distinctB at h
 exact (of_decide_eq_true h).1
theorem len_bounded (p : ProgF) (l : List Int) : (boundedQ p l).rows.length = p.rows.length + l.length := by
 show (_ ++ _ : List RowQ).length = _
 rw [List.length_append, List.length_map, List.length_map]
theorem good_next {t : TreeF} {xs : List Int} {i : Nat} {y : Int} (h : ∀ (j : Nat) (x : Int), j < i → xs[j]? = some x → wholeBad t x = false) (hy : xs[i]? = some y) (hb : wholeBad t y = false) : ∀ (j : Nat) (x : Int), j < i + 1 → xs[j]? = some x → wholeBad t x = false := fun j x hj hx => by
 by_cases hji : j = i
 ·rw [hji, hy] at hx
  injection hx with e
  rw [← e]
  exact hb
 ·exact h j x (by omega) hx
theorem all_good {t : TreeF} {xs : List Int} (h : ∀ (j : Nat) (x : Int), j < xs.length → xs[j]? = some x → wholeBad t x = false) : xs.any (wholeBad t) = false := by
 rw [List.any_eq_false]
 intro x hx
 obtain ⟨j, hj⟩ := List.getElem?_of_mem hx
 rw [h j x (List.getElem?_eq_some_iff.1 hj).1 hj]
 simp
theorem atQ_at {l : List RawF} {n : Nat} {f : RawF} (h : l[n]? = some f) : atQ l (n : Int) = fixQ f := by
 unfold atQ
 rw [Int.toNat_natCast, List.getD_eq_getElem?_getD, List.getElem?_map, h]
 rfl
set_option maxHeartbeats 64000000 in
set_option maxRecDepth 100000 in
theorem tree_calls (w : World) (v vx v2 : Value) (p : ProgF) (xs : List Int) (t : TreeF) (h : PR w v p) (hx : IL w vx xs) (h2 : TR w v2 t) (hxl : xs.length ≤ 10000) (hxi : ∀ x ∈ xs, I64 x) (hrl : p.rows.length ≤ 10000) (hcl : t.cases.length ≤ 1000000) (hxx : t.x.length ≤ 100000) (hry : t.ray.length ≤ 100000)
  (hlc : ∀ c ∈ t.cases, c.cert.x.length ≤ 100000 ∧ c.cert.y.length ≤ 100000 ∧ c.cert.ray.length ≤ 100000) : Calls Tryz.prog 9 #[v, vx, v2] w fun e w' => BPost w (treeB p xs t) e w' := by
 have HP := Hd h
 have HX := Hd hx
 have HT := Hd h2
 have HXI := Hd hxi
 have HLC := Hd hlc
 obtain ⟨X1, xc, rfl, _⟩ := hx.slice
 obtain ⟨A1, c1, A2, c2, A3, c3, rfl, HI, H1, H2, H3⟩ := h.opened
 obtain ⟨B1, d1, B2, d2, B3, d3, rfl, HTX, HTR, HTC⟩ := h2.opened
 clear h hx h2 hxi hlc
 obtain ⟨vars, hv⟩ : ∃ n, n = p.vars := ⟨_, rfl⟩
 rw [← hv] at HP ⊢
 have HV := Hd hv
 obtain ⟨kd, hkd⟩ : ∃ n, n = t.kind := ⟨_, rfl⟩
 rw [← hkd] at HT ⊢
 have HKD := Hd hkd
 clear hv hkd
 go_enter Tryz.func9, Tryz.ntmps9
 go_wp2_with fail
 have K0 := Hd (HS.two (w := w) #[.int .i64 vars, .slice A1 p.free.length c1, .slice A2 p.goal.length c2, .slice A3 p.rows.length c3] #[.int .i64 kd, .slice B1 t.x.length d1, .slice B2 t.ray.length d2, .slice B3 t.cases.length d3] 26 30)
 generalize (w.alloc (.cells #[.int .i64 vars, .slice A1 p.free.length c1, .slice A2 p.goal.length c2, .slice A3 p.rows.length c3] 26)).alloc (.cells #[.int .i64 kd, .slice B1 t.x.length d1, .slice B2 t.ray.length d2, .slice B3 t.cases.length d3] 30) = W0 at *
 refine (wholes_calls W0 _ _ p xs (HP.out.of_below K0.out.2) (HX.out.below EI.stays K0.out.2) (by omega) HXI.out).mono ?_
 rintro e w1 ⟨rfl, hb⟩
 have K1 := Hd (K0.out.step hb)
 clear hb K0
 obtain ⟨x0, x1, x2, x3⟩ := (K1.out.blk 1 rfl).c4
 have hlt1 := (K1.out.blk 1 rfl).lt
 obtain ⟨y0, y1, y2, y3⟩ := (K1.out.blk 0 rfl).c4
 have hlt0 := (K1.out.blk 0 rfl).lt
 by_cases q1 : wholesP p xs = 0
 case neg =>
  have u1 : (wholesP p xs != 0) = true := bneI q1
  have HE : Hid (treeB p xs t = false) := by unfold Hid treeB; rw [if_pos q1]
  clear q1
  go_wp2_with fail
  go_ret
  exact ⟨by rw [HE.out]; rfl, K1.out.2⟩
 have u1 : (wholesP p xs != 0) = false := beqI q1
 have HR0 := Hd (wholesP_ok q1).1
 have HD := Hd (wholesP_ok q1).2
 have HPV := Hd (rightP_len (wholesP_ok q1).1)
 have HE0 : Hid (treeB p xs t = if t.kind = 2 then (provesM t.cases none (t.cases.length + 1) (boundedQ p xs) 0 xs t.cases.length).1 else if t.kind ≠ 1 ∧ t.kind ≠ 3 then false else if fitsB p t.x = false then false else if xs.any (wholeBad t) = true then false else if t.kind = 3 then goesB p t.ray else (provesM t.cases (some (valueP p t.x)) (t.cases.length + 1) (boundedQ p xs) 0 xs t.cases.length).1) := by
  unfold Hid treeB; rw [if_neg (by simp [q1])]
 rw [← HKD.out] at HE0
 clear q1
 by_cases k2 : kd = 2
 case pos =>
  have v2 : (kd == 2) = true := beqI' k2
  have HE1 : Hid (treeB p xs t = (provesM t.cases none (t.cases.length + 1) (boundedQ p xs) 0 xs t.cases.length).1) := by unfold Hid; rw [HE0.out, if_pos k2]
  clear k2
  go_wp2_with fail
  have hbn := below_new w1 (.cells #[.slice B3 t.cases.length d3, .int .i64 (t.cases.length : Int), .pointer none] 78)
  have HRP := Hd (show Rep w1 B3 t.cases.length d3 (.pointer none) none t.cases.length (w1.alloc (.cells #[.slice B3 t.cases.length d3, .int .i64 (t.cases.length : Int), .pointer none] 78)) from ⟨(HS.nil w1).step hbn, Blk.new w1 78 #[.slice B3 t.cases.length d3, .int .i64 (t.cases.length : Int), .pointer none], rfl⟩)
  have K2 := Hd (K1.out.step hbn)
  clear hbn x0 x1 x2 x3 y0 y1 y2 y3 hlt1 hlt0
  refine (bounded_calls _ _ _ p xs (HP.out.of_below K2.out.2) (HX.out.below EI.stays K2.out.2) (by omega) HR0.out HD.out).mono ?_
  rintro e w2 ⟨v4, v5, v6, rfl, hfo, hqo, hro, hb⟩
  have HRP2 := Hd (HRP.out.below hb)
  have HPB := Hd (PO.ofC hfo hqo hro (I64.of_bounded HPV.out) HRP.out.1.2.size)
  have HXB := Hd (HX.out.below EI.stays (K2.out.step hb).2)
  have HXO := Hd (IO.old (HX.out.below EI.stays K1.out.2) HRP2.out.1.2)
  clear hfo hqo hro hb
  go_wp2_with fail
  refine (proves_calls (SL.below ECase.stays HTC.out K1.out.2) HLC.out hcl (t.cases.length + 1) _ _ _ (boundedQ p xs) 0 xs t.cases.length HRP2.out HPB.out (small_bounded p xs) HXO.out (by omega) (distinct_in HD.out) (by rw [len_bounded]; omega) hcl).mono ?_
  rintro e w3 ⟨rfl, hrz, _, _⟩
  have HRZ := Hd hrz
  clear hrz
  go_wp2_with fail
  go_ret
  exact ⟨by rw [HE1.out]; rfl, below_next K1.out.2 HRZ.out.1.2⟩
 have v2 : (kd == 2) = false := bneI' k2
 have hbn := below_new w1 (.cells #[.slice B3 t.cases.length d3, .int .i64 (t.cases.length : Int), .pointer none] 78)
 have HRP := Hd (show Rep w1 B3 t.cases.length d3 (.pointer none) none t.cases.length (w1.alloc (.cells #[.slice B3 t.cases.length d3, .int .i64 (t.cases.length : Int), .pointer none] 78)) from ⟨(HS.nil w1).step hbn, Blk.new w1 78 #[.slice B3 t.cases.length d3, .int .i64 (t.cases.length : Int), .pointer none], rfl⟩)
 have K2 := Hd (K1.out.step hbn)
 have HZ1 := Hd (rfl : w1.heap.size = w1.heap.size)
 clear hbn
 by_cases k13 : kd ≠ 1 ∧ kd ≠ 3
 case pos =>
  have v1 : (kd != 1) = true := bneI k13.1
  have v3 : (kd != 3) = true := bneI k13.2
  have HE1 : Hid (treeB p xs t = false) := by unfold Hid; rw [HE0.out, if_neg k2, if_pos k13]
  clear k2 k13
  go_wp2_with fail
  go_ret
  exact ⟨by rw [HE1.out]; rfl, K2.out.2⟩
 have HE1 : Hid (treeB p xs t = if fitsB p t.x = false then false else if xs.any (wholeBad t) = true then false else if kd = 3 then goesB p t.ray else (provesM t.cases (some (valueP p t.x)) (t.cases.length + 1) (boundedQ p xs) 0 xs t.cases.length).1) := by unfold Hid; rw [HE0.out, if_neg k2, if_neg k13]
 have HK13 : Hid ((kd = 1 ∧ (kd == 3) = false) ∨ (kd = 3 ∧ (kd == 3) = true)) := by
  by_cases h3 : kd = 3
  ·exact .inr ⟨h3, beqI' h3⟩
  ·exact .inl ⟨Classical.byContradiction fun h1 => k13 ⟨h1, h3⟩, bneI' h3⟩
 have HK3 : Hid (((kd != 1) && (kd != 3)) = false) := by
  rcases HK13.out with ⟨h, _⟩ | ⟨h, _⟩ <;> rw [h] <;> rfl
 clear k2 k13 HE0
 have HX2 := Hd (HX.out.below EI.stays K1.out.2)
 rcases HK13.out with ⟨k1, w3⟩ | ⟨k1, w3⟩
 ·have v1 : (kd != 1) = false := beqI k1
  have HKI := Hd k1
  clear k1
  go_wp2_with fail
  clear x0 x1 x2 x3 hlt1 y0 y1 y2 y3 hlt0
  refine (fits_calls _ _ _ p t.x (HP.out.of_below K2.out.2) (HTX.out.below EF.stays K2.out.2) HR0.out).mono ?_
  rintro e w2 ⟨rfl, hb⟩
  have HRP3 := Hd (HRP.out.below hb)
  clear hb
  obtain ⟨x0, x1, x2, x3⟩ := ((K1.out.step HRP3.out.1.2).blk 1 rfl).c4
  have hlt1 := ((K1.out.step HRP3.out.1.2).blk 1 rfl).lt
  obtain ⟨y0, y1, y2, y3⟩ := ((K1.out.step HRP3.out.1.2).blk 0 rfl).c4
  have hlt0 := ((K1.out.step HRP3.out.1.2).blk 0 rfl).lt
  cases hf : fitsB p t.x
  case false =>
   have HE : Hid (treeB p xs t = false) := by unfold Hid; rw [HE1.out, if_pos hf]
   clear hf
   go_wp2_with fail
   go_ret
   exact ⟨by rw [HE.out]; rfl, (below_next K1.out.2 HRP3.out.1.2)⟩
  have HE2 : Hid (treeB p xs t = if xs.any (wholeBad t) = true then false else if kd = 3 then goesB p t.ray else (provesM t.cases (some (valueP p t.x)) (t.cases.length + 1) (boundedQ p xs) 0 xs t.cases.length).1) := by unfold Hid; rw [HE1.out, if_neg (by rw [hf]; simp)]
  have HXLN : Hid ((t.x.length : Int) = p.vars) := by
   unfold fitsB at hf
   simp only [Bool.and_eq_true, decide_eq_true_eq] at hf
   exact hf.1.1
  clear hf
  go_wp2_with fail
  clear x0 x1 x2 x3 hlt1 y0 y1 y2 y3 hlt0
  go_loopw [48] (fun vi wr => ∃ i : Nat, i ≤ xs.length ∧ vi = .int .i64 (i : Int) ∧ (∀ (j : Nat) (x : Int), j < i → xs[j]? = some x → wholeBad t x = false) ∧ Rep w1 B3 t.cases.length d3 (.pointer none) none t.cases.length wr) (fun vi _ => xs.length - (intOf vi).toNat)
  case atStart => exact ⟨0, Nat.zero_le _, rfl, fun j _ h => absurd h (Nat.not_lt_zero _), HRP3.out⟩
  case round =>
   obtain ⟨i, hi, rfl, hall, hrw⟩ := hrel
   have HA := Hd hall
   have HRw := Hd hrw
   clear hall hrw HRP3
   obtain ⟨x0, x1, x2, x3⟩ := ((K1.out.step HRw.out.1.2).blk 1 rfl).c4
   have hlt1 := ((K1.out.step HRw.out.1.2).blk 1 rfl).lt
   obtain ⟨y0, y1, y2, y3⟩ := ((K1.out.step HRw.out.1.2).blk 0 rfl).c4
   have hlt0 := ((K1.out.step HRw.out.1.2).blk 0 rfl).lt
   by_cases hlt : i < xs.length
   ·obtain ⟨x, hx⟩ : ∃ x, xs[i]? = some x := ⟨xs[i], List.getElem?_eq_getElem hlt⟩
    obtain ⟨gx, ox, rfl, hgx, k0⟩ := IL.at1 (HX2.out.below EI.stays HRw.out.1.2) hx
    have HX1 := Hd hx
    have hxr : 0 ≤ x ∧ x < p.vars := by
     have := HD.out
     unfold distinctB at this
     exact (of_decide_eq_true this).1 x (List.mem_of_getElem? hx)
    obtain ⟨n, rfl⟩ : ∃ n : Nat, x = n := ⟨x.toNat, by omega⟩
    have hnl : n < t.x.length := by have := HXLN.out; omega
    obtain ⟨f, hf⟩ : ∃ f, t.x[n]? = some f := ⟨t.x[n], List.getElem?_eq_getElem hnl⟩
    obtain ⟨gf, of, C1, n1, e1, C2, n2, e2, rfl, hgf, j0, j1, j2, HFF⟩ := FL.at3 (HTX.out.below EF.stays (below_next K1.out.2 HRw.out.1.2)) hf
    have HF1 := Hd hf
    have m1 : (i : Int) < (xs.length : Int) := by omega
    have m2 : (n : Int) < (t.x.length : Int) := by omega
    have m3 : (i : Int).toNat = i := by omega
    have m5 : (n : Int).toNat = n := by omega
    have m4 : (0 : Int) ≤ (i : Int) := by omega
    have m6 : (0 : Int) ≤ (n : Int) := by omega
    clear hx hf hxr
    go_wp2_with fail
    refine wp_chainS (S := Below wr.heap.size wr) [([0, 1, 2, 3, 4], 5), ([6, 7, 8, 9, 10, 11, 12], 13), ([], 14)] [15, 16] (by kernel_rfl) (by kernel_rfl) (by kernel_rfl) rfl (Below.drew (Below.refl _ _)) ?_
    refine ⟨?_, _, ?_, rfl, ?_⟩
    rotate_left
    ·(iterate 5 ((refine ⟨_, ?_, rfl, Or.inl ⟨by rfl, ?_⟩, ?_⟩; rotate_left; focus (intro W hW; replace hW := (bcell hW).1; go_simp; try with_reducible rfl)); (try simp only [SQ])))
     exact rfl
    have D0 : Hid (Below wr.heap.size wr wr.drew) := Below.drew (Below.refl _ _)
    go_wp2_with fail
    refine (sgn_calls _ _ f (HFF.out.of_below D0.out)).mono ?_
    rintro e w4 ⟨rfl, hb⟩
    have D2 := Hd (below_next D0.out hb)
    clear hb
    by_cases z1 : signQ (fixQ f) = 0
    ·have z2 : (signQ (fixQ f) != 0) = false := beqI z1
     have HFI : Hid ((decide (signQ (fixQ f) ≠ 0) && decide (ordQ (fixQ f) 1 ≠ 0)) = false) := by unfold Hid; rw [z1]; rfl
     clear z1
     go_wp2_with fail
     refine And.intro D2.out ⟨?_, _, ?_, rfl, ?_⟩
     rotate_left
     ·(iterate 2 ((refine ⟨_, ?_, rfl, Or.inl ⟨by rfl, ?_⟩, ?_⟩; rotate_left; focus (intro W hW; replace hW := (bcell hW).1; go_simp; try with_reducible rfl)); (try simp only [SQ]))); (iterate 5 ((refine ⟨_, undef, rfl, Or.inr ⟨by kernel_rfl, rfl⟩, ?_⟩); (try simp only [SQ])))
      exact rfl
     refine chain_skip (by kernel_rfl) (And.intro D2.out ?_)
     (try simp only [SQ])
     refine ⟨_, _, rfl, rfl, ?_⟩
     refine chain_skip (by kernel_rfl) (And.intro D2.out ?_)
     (try simp only [SQ])
     refine ⟨?_, ?_, ?_⟩
     rotate_left
     ·((refine ⟨_, undef, rfl, Or.inr ⟨by kernel_rfl, rfl⟩, ?_⟩); (try simp only [SQ])); ((refine ⟨_, ?_, rfl, Or.inl ⟨by rfl, ?_⟩, ?_⟩; rotate_left; focus (intro W hW; replace hW := (bcell hW).1; go_simp; try with_reducible rfl)); (try simp only [SQ]))
      exact rfl
     refine NoPanic.normal ?_
     have HR4 := Hd (HRw.out.below D2.out)
     clear j0 j1 j2 k0 hgf hgx x0 x1 x2 x3 hlt1 y0 y1 y2 y3 hlt0
     have HNX : Hid (∀ (j : Nat) (x : Int), j < i + 1 → xs[j]? = some x → wholeBad t x = false) := good_next HA.out HX1.out (by unfold wholeBad; rw [atQ_at HF1.out, HFI.out, ← HKD.out, HKI.out]; rfl)
     obtain ⟨x0, x1, x2, x3⟩ := ((K1.out.step HR4.out.1.2).blk 1 rfl).c4
     have hlt1 := ((K1.out.step HR4.out.1.2).blk 1 rfl).lt
     obtain ⟨y0, y1, y2, y3⟩ := ((K1.out.step HR4.out.1.2).blk 0 rfl).c4
     have hlt0 := ((K1.out.step HR4.out.1.2).blk 0 rfl).lt
     go_wp2_with fail
     go_roundw
     case rel => exact ⟨i + 1, by omega, by go_num, HNX.out, HR4.out⟩
     case measure => simp [intOf]; omega
    have z2 : (signQ (fixQ f) != 0) = true := bneI z1
    have HZ1 := Hd z1
    clear z1
    go_wp2_with fail
    refine And.intro D2.out ⟨?_, _, ?_, rfl, ?_⟩
    rotate_left
    ·(iterate 7 ((refine ⟨_, ?_, rfl, Or.inl ⟨by rfl, ?_⟩, ?_⟩; rotate_left; focus (intro W hW; replace hW := (bcell hW).1; go_simp; try with_reducible rfl)); (try simp only [SQ])))
     exact rfl
    go_wp2_with fail
    refine (number_calls _ 1 (by omega) (by omega)).mono ?_
    rintro e w5 ⟨v, rfl, hv, hb⟩
    obtain ⟨E1, h1, i1, E2, h2, i2, rfl, HV5⟩ := hv.opened
    have D3 := Hd (below_next D2.out hb)
    clear hv hb
    go_wp2_with fail
    refine And.intro D3.out ⟨_, _, rfl, rfl, ?_⟩
    go_wp2_with fail
    refine (fcmp_calls _ _ _ f (rawQ 1) (HFF.out.of_below D3.out) (FR.of_fq HV5.out small_one)).mono ?_
    rintro e w6 ⟨rfl, hb⟩
    rw [fixQ_raw _ small_one]
    have D4 := Hd (below_next D3.out hb)
    have HR4 := Hd (HRw.out.below D4.out)
    clear hb
    by_cases z3 : ordQ (fixQ f) 1 = 0
    ·have z4 : (ordQ (fixQ f) 1 != 0) = false := beqI z3
     have HFI : Hid ((decide (signQ (fixQ f) ≠ 0) && decide (ordQ (fixQ f) 1 ≠ 0)) = false) := by unfold Hid; rw [z3]; simp
     clear z3
     go_wp2_with fail
     refine And.intro D4.out ?_
     refine ⟨?_, ?_, ?_⟩
     rotate_left
     ·(iterate 2 ((refine ⟨_, ?_, rfl, Or.inl ⟨by rfl, ?_⟩, ?_⟩; rotate_left; focus (intro W hW; replace hW := (bcell hW).1; go_simp; try with_reducible rfl)); (try simp only [SQ])))
      exact rfl
     refine NoPanic.normal ?_
     clear j0 j1 j2 k0 hgf hgx x0 x1 x2 x3 hlt1 y0 y1 y2 y3 hlt0
     have HNX : Hid (∀ (j : Nat) (x : Int), j < i + 1 → xs[j]? = some x → wholeBad t x = false) := good_next HA.out HX1.out (by unfold wholeBad; rw [atQ_at HF1.out, HFI.out, ← HKD.out, HKI.out]; rfl)
     obtain ⟨x0, x1, x2, x3⟩ := ((K1.out.step HR4.out.1.2).blk 1 rfl).c4
     have hlt1 := ((K1.out.step HR4.out.1.2).blk 1 rfl).lt
     obtain ⟨y0, y1, y2, y3⟩ := ((K1.out.step HR4.out.1.2).blk 0 rfl).c4
     have hlt0 := ((K1.out.step HR4.out.1.2).blk 0 rfl).lt
     go_wp2_with fail
     go_roundw
     case rel => exact ⟨i + 1, by omega, by go_num, HNX.out, HR4.out⟩
     case measure => simp [intOf]; omega
    have z4 : (ordQ (fixQ f) 1 != 0) = true := bneI z3
    have HBD : Hid (wholeBad t (n : Int) = true) := by unfold Hid wholeBad; rw [atQ_at HF1.out, decide_eq_true HZ1.out, decide_eq_true z3]; rfl
    clear z3
    go_wp2_with fail
    refine And.intro D4.out ?_
    refine ⟨?_, ?_, ?_⟩
    rotate_left
    ·(iterate 2 ((refine ⟨_, ?_, rfl, Or.inl ⟨by rfl, ?_⟩, ?_⟩; rotate_left; focus (intro W hW; replace hW := (bcell hW).1; go_simp; try with_reducible rfl)); (try simp only [SQ])))
     exact rfl
    refine NoPanic.normal ?_
    have HE3 : Hid (treeB p xs t = false) := by unfold Hid; rw [HE2.out, if_pos (List.any_eq_true.2 ⟨_, List.mem_of_getElem? HX1.out, HBD.out⟩)]
    go_wp2_with fail
    go_ret
    exact ⟨by rw [HE3.out]; rfl, (below_next K1.out.2 HR4.out.1.2)⟩
   ·obtain rfl : i = xs.length := by omega
    have HAF : Hid (xs.any (wholeBad t) = false) := all_good HA.out
    go_wp2_with fail
    refine (value_calls _ _ _ p t.x (HP.out.of_below (below_next K1.out.2 HRw.out.1.2)) (HTX.out.below EF.stays (below_next K1.out.2 HRw.out.1.2))).mono ?_
    rintro e w5 ⟨v, rfl, hv, hb⟩
    obtain ⟨E1, h1, i1, E2, h2, i2, rfl, HV5⟩ := hv.opened
    have HR5 := Hd (HRw.out.below hb)
    clear hv hb x0 x1 x2 x3 hlt1 y0 y1 y2 y3 hlt0
    obtain ⟨x0, x1, x2, x3⟩ := ((K1.out.step HR5.out.1.2).blk 1 rfl).c4
    have hlt1 := ((K1.out.step HR5.out.1.2).blk 1 rfl).lt
    obtain ⟨y0, y1, y2, y3⟩ := ((K1.out.step HR5.out.1.2).blk 0 rfl).c4
    have hlt0 := ((K1.out.step HR5.out.1.2).blk 0 rfl).lt
    obtain ⟨r0, r1, r2⟩ := HR5.out.2.1.c3
    obtain ⟨f0, f1, f2⟩ := HR5.out.2.1.f3
    have hltr := HR5.out.2.1.lt
    have hne1 : w.heap.size ≠ w1.heap.size := Nat.ne_of_lt (K1.out.blk 1 rfl).lt
    have hne0 : w.heap.size + 1 ≠ w1.heap.size := Nat.ne_of_lt (K1.out.blk 0 rfl).lt
    go_wp2_with fail
    have hww : ∀ u ∈ #[Value.slice B3 t.cases.length d3, .int .i64 (t.cases.length : Int), .pointer none], notWord u = true := by
     intro u hu
     simp only [List.mem_toArray, List.mem_cons, List.not_mem_nil, or_false] at hu
     rcases hu with rfl | rfl | rfl <;> rfl
    have hcp := chg_put1 (base := w1.heap.size) (j := 2) HR5.out.2.1 (Nat.le_refl _) hww (.pointer (some ⟨w5.heap.size, 0, none⟩))
    have hbn := below_new (w5.setCell ⟨w1.heap.size, 2, none⟩ (.pointer (some ⟨w5.heap.size, 0, none⟩))) (.cells #[.bool (negQ (valueP p t.x)), .slice E1 h1 i1, .slice E2 h2 i2] 46)
    have HRP2 := Hd (show Rep w1 B3 t.cases.length d3 (.pointer (some ⟨w5.heap.size, 0, none⟩)) (some (valueP p t.x)) t.cases.length ((w5.setCell ⟨w1.heap.size, 2, none⟩ (.pointer (some ⟨w5.heap.size, 0, none⟩))).alloc (.cells #[.bool (negQ (valueP p t.x)), .slice E1 h1 i1, .slice E2 h2 i2] 46)) from ⟨(HR5.out.1.other1 (g := w1.heap.size) (Nat.le_refl _) (by simp) 2 _).step hbn, (HR5.out.2.1.put 2 _).below hbn (HR5.out.2.1.put 2 _).lt, value_small p t.x, w5.heap.size, E1, h1, i1, E2, h2, i2, rfl, Blk.newAt (by simp), (HV5.out.keeps hcp.1).of_below hbn⟩)
    clear hww hcp hbn r0 r1 r2 f0 f1 f2 hltr hne1 hne0 x0 x1 x2 x3 hlt1 y0 y1 y2 y3 hlt0
    generalize (w5.setCell ⟨w1.heap.size, 2, none⟩ (.pointer (some ⟨w5.heap.size, 0, none⟩))).alloc (.cells #[.bool (negQ (valueP p t.x)), .slice E1 h1 i1, .slice E2 h2 i2] 46) = W6 at *
    refine (bounded_calls _ _ _ p xs (HP.out.of_below (below_next K1.out.2 HRP2.out.1.2)) (HX2.out.below EI.stays HRP2.out.1.2) (by omega) HR0.out HD.out).mono ?_
    rintro e w8 ⟨v4, v5, v6, rfl, hfo, hqo, hro, hb⟩
    have HRP4 := Hd (HRP2.out.below hb)
    have HPB := Hd (PO.ofC hfo hqo hro (I64.of_bounded HPV.out) HRP2.out.1.2.size)
    have HXO := Hd (IO.old HX2.out HRP4.out.1.2)
    clear hfo hqo hro hb
    go_wp2_with fail
    refine (proves_calls (SL.below ECase.stays HTC.out K1.out.2) HLC.out hcl (t.cases.length + 1) _ _ _ (boundedQ p xs) 0 xs t.cases.length HRP4.out HPB.out (small_bounded p xs) HXO.out (by omega) (distinct_in HD.out) (by rw [len_bounded]; omega) hcl).mono ?_
    rintro e w9 ⟨rfl, hrz, _, _⟩
    have HRZ := Hd hrz
    clear hrz
    have HE3 : Hid (treeB p xs t = (provesM t.cases (some (valueP p t.x)) (t.cases.length + 1) (boundedQ p xs) 0 xs t.cases.length).1) := by unfold Hid; rw [HE2.out, if_neg (by rw [HAF.out]; simp), if_neg (by rw [HKI.out]; decide)]
    go_wp2_with fail
    go_ret
    exact ⟨by rw [HE3.out]; rfl, (below_next K1.out.2 HRZ.out.1.2)⟩
 ·have v1 : (kd != 1) = true := bneI (by omega)
  have v3 : (kd != 3) = false := beqI k1
  have HKI := Hd k1
  clear k1
  go_wp2_with fail
  clear x0 x1 x2 x3 hlt1 y0 y1 y2 y3 hlt0
  refine (fits_calls _ _ _ p t.x (HP.out.of_below K2.out.2) (HTX.out.below EF.stays K2.out.2) HR0.out).mono ?_
  rintro e w2 ⟨rfl, hb⟩
  have HRP3 := Hd (HRP.out.below hb)
  clear hb
  obtain ⟨x0, x1, x2, x3⟩ := ((K1.out.step HRP3.out.1.2).blk 1 rfl).c4
  have hlt1 := ((K1.out.step HRP3.out.1.2).blk 1 rfl).lt
  obtain ⟨y0, y1, y2, y3⟩ := ((K1.out.step HRP3.out.1.2).blk 0 rfl).c4
  have hlt0 := ((K1.out.step HRP3.out.1.2).blk 0 rfl).lt
  cases hf : fitsB p t.x
  case false =>
   have HE : Hid (treeB p xs t = false) := by unfold Hid; rw [HE1.out, if_pos hf]
   clear hf
   go_wp2_with fail
   go_ret
   exact ⟨by rw [HE.out]; rfl, (below_next K1.out.2 HRP3.out.1.2)⟩
  have HE2 : Hid (treeB p xs t = if xs.any (wholeBad t) = true then false else if kd = 3 then goesB p t.ray else (provesM t.cases (some (valueP p t.x)) (t.cases.length + 1) (boundedQ p xs) 0 xs t.cases.length).1) := by unfold Hid; rw [HE1.out, if_neg (by rw [hf]; simp)]
  have HXLN : Hid ((t.x.length : Int) = p.vars) := by
   unfold fitsB at hf
   simp only [Bool.and_eq_true, decide_eq_true_eq] at hf
   exact hf.1.1
  clear hf
  go_wp2_with fail
  clear x0 x1 x2 x3 hlt1 y0 y1 y2 y3 hlt0
  go_loopw [48] (fun vi wr => ∃ i : Nat, i ≤ xs.length ∧ vi = .int .i64 (i : Int) ∧ (∀ (j : Nat) (x : Int), j < i → xs[j]? = some x → wholeBad t x = false) ∧ Rep w1 B3 t.cases.length d3 (.pointer none) none t.cases.length wr) (fun vi _ => xs.length - (intOf vi).toNat)
  case atStart => exact ⟨0, Nat.zero_le _, rfl, fun j _ h => absurd h (Nat.not_lt_zero _), HRP3.out⟩
  case round =>
   obtain ⟨i, hi, rfl, hall, hrw⟩ := hrel
   have HA := Hd hall
   have HRw := Hd hrw
   clear hall hrw HRP3
   obtain ⟨x0, x1, x2, x3⟩ := ((K1.out.step HRw.out.1.2).blk 1 rfl).c4
   have hlt1 := ((K1.out.step HRw.out.1.2).blk 1 rfl).lt
   obtain ⟨y0, y1, y2, y3⟩ := ((K1.out.step HRw.out.1.2).blk 0 rfl).c4
   have hlt0 := ((K1.out.step HRw.out.1.2).blk 0 rfl).lt
   by_cases hlt : i < xs.length
   ·obtain ⟨x, hx⟩ : ∃ x, xs[i]? = some x := ⟨xs[i], List.getElem?_eq_getElem hlt⟩
    obtain ⟨gx, ox, rfl, hgx, k0⟩ := IL.at1 (HX2.out.below EI.stays HRw.out.1.2) hx
    have HX1 := Hd hx
    have hxr : 0 ≤ x ∧ x < p.vars := by
     have := HD.out
     unfold distinctB at this
     exact (of_decide_eq_true this).1 x (List.mem_of_getElem? hx)
    obtain ⟨n, rfl⟩ : ∃ n : Nat, x = n := ⟨x.toNat, by omega⟩
    have hnl : n < t.x.length := by have := HXLN.out; omega
    obtain ⟨f, hf⟩ : ∃ f, t.x[n]? = some f := ⟨t.x[n], List.getElem?_eq_getElem hnl⟩
    obtain ⟨gf, of, C1, n1, e1, C2, n2, e2, rfl, hgf, j0, j1, j2, HFF⟩ := FL.at3 (HTX.out.below EF.stays (below_next K1.out.2 HRw.out.1.2)) hf
    have HF1 := Hd hf
    have m1 : (i : Int) < (xs.length : Int) := by omega
    have m2 : (n : Int) < (t.x.length : Int) := by omega
    have m3 : (i : Int).toNat = i := by omega
    have m5 : (n : Int).toNat = n := by omega
    have m4 : (0 : Int) ≤ (i : Int) := by omega
    have m6 : (0 : Int) ≤ (n : Int) := by omega
    clear hx hf hxr
    go_wp2_with fail
    refine wp_chainS (S := Below wr.heap.size wr) [([0, 1, 2, 3, 4], 5), ([6, 7, 8, 9, 10, 11, 12], 13), ([], 14)] [15, 16] (by kernel_rfl) (by kernel_rfl) (by kernel_rfl) rfl (Below.drew (Below.refl _ _)) ?_
    refine ⟨?_, _, ?_, rfl, ?_⟩
    rotate_left
    ·(iterate 5 ((refine ⟨_, ?_, rfl, Or.inl ⟨by rfl, ?_⟩, ?_⟩; rotate_left; focus (intro W hW; replace hW := (bcell hW).1; go_simp; try with_reducible rfl)); (try simp only [SQ])))
     exact rfl
    have D0 : Hid (Below wr.heap.size wr wr.drew) := Below.drew (Below.refl _ _)
    go_wp2_with fail
    refine (sgn_calls _ _ f (HFF.out.of_below D0.out)).mono ?_
    rintro e w4 ⟨rfl, hb⟩
    have D2 := Hd (below_next D0.out hb)
    clear hb
    by_cases z1 : signQ (fixQ f) = 0
    ·have z2 : (signQ (fixQ f) != 0) = false := beqI z1
     have HFI : Hid ((decide (signQ (fixQ f) ≠ 0) && decide (ordQ (fixQ f) 1 ≠ 0)) = false) := by unfold Hid; rw [z1]; rfl
     clear z1
     go_wp2_with fail
     refine And.intro D2.out ⟨?_, _, ?_, rfl, ?_⟩
     rotate_left
     ·(iterate 2 ((refine ⟨_, ?_, rfl, Or.inl ⟨by rfl, ?_⟩, ?_⟩; rotate_left; focus (intro W hW; replace hW := (bcell hW).1; go_simp; try with_reducible rfl)); (try simp only [SQ]))); (iterate 5 ((refine ⟨_, undef, rfl, Or.inr ⟨by kernel_rfl, rfl⟩, ?_⟩); (try simp only [SQ])))
      exact rfl
     refine chain_skip (by kernel_rfl) (And.intro D2.out ?_)
     (try simp only [SQ])
     refine ⟨_, _, rfl, rfl, ?_⟩
     refine chain_skip (by kernel_rfl) (And.intro D2.out ?_)
     (try simp only [SQ])
     refine ⟨?_, ?_, ?_⟩
     rotate_left
     ·((refine ⟨_, undef, rfl, Or.inr ⟨by kernel_rfl, rfl⟩, ?_⟩); (try simp only [SQ])); ((refine ⟨_, ?_, rfl, Or.inl ⟨by rfl, ?_⟩, ?_⟩; rotate_left; focus (intro W hW; replace hW := (bcell hW).1; go_simp; try with_reducible rfl)); (try simp only [SQ]))
      exact rfl
     refine NoPanic.normal ?_
     have HR4 := Hd (HRw.out.below D2.out)
     clear j0 j1 j2 k0 hgf hgx x0 x1 x2 x3 hlt1 y0 y1 y2 y3 hlt0
     obtain ⟨x0, x1, x2, x3⟩ := ((K1.out.step HR4.out.1.2).blk 1 rfl).c4
     have hlt1 := ((K1.out.step HR4.out.1.2).blk 1 rfl).lt
     obtain ⟨y0, y1, y2, y3⟩ := ((K1.out.step HR4.out.1.2).blk 0 rfl).c4
     have hlt0 := ((K1.out.step HR4.out.1.2).blk 0 rfl).lt
     have HBF : Hid (wholeBad t (n : Int) = (decide ((t.ray.length : Int) ≤ (n : Int)) || decide (signQ (atQ t.ray (n : Int)) ≠ 0))) := by unfold Hid wholeBad; rw [atQ_at HF1.out, HFI.out, ← HKD.out, HKI.out]; rfl
     by_cases r1 : t.ray.length ≤ n
     ·have r2 : decide (t.ray.length ≤ n) = true := decide_eq_true r1
      have r3 : (t.ray.length : Int) ≤ (n : Int) := by omega
      have HBD : Hid (wholeBad t (n : Int) = true) := by unfold Hid; rw [HBF.out, decide_eq_true r3]; rfl
      have HE3 : Hid (treeB p xs t = false) := by unfold Hid; rw [HE2.out, if_pos (List.any_eq_true.2 ⟨_, List.mem_of_getElem? HX1.out, HBD.out⟩)]
      go_wp2_with fail
      go_ret
      exact ⟨by rw [HE3.out]; rfl, (below_next K1.out.2 HR4.out.1.2)⟩
     have r2 : decide (t.ray.length ≤ n) = false := decide_eq_false r1
     have r3 : (n : Int) < (t.ray.length : Int) := by omega
     have r4 : ¬ ((t.ray.length : Int) ≤ (n : Int)) := by omega
     obtain ⟨fr, hfr⟩ : ∃ f, t.ray[n]? = some f := ⟨t.ray[n]'(by omega), List.getElem?_eq_getElem _⟩
     obtain ⟨gy, oy, D1, n1, e1, D2, n2, e2, rfl, hgy, j0, j1, j2, HFR⟩ := FL.at3 (HTR.out.below EF.stays (below_next K1.out.2 HR4.out.1.2)) hfr
     have HRA := Hd (atQ_at hfr)
     clear hfr
     go_wp2_with fail
     refine (sgn_calls _ _ fr HFR.out).mono ?_
     rintro e w9 ⟨rfl, hb⟩
     have HR9 := Hd (HR4.out.below hb)
     clear hb j0 j1 j2 x0 x1 x2 x3 hlt1 y0 y1 y2 y3 hlt0
     by_cases r5 : signQ (fixQ fr) = 0
     ·have r6 : (signQ (fixQ fr) != 0) = false := beqI r5
      have HNX : Hid (∀ (j : Nat) (x : Int), j < i + 1 → xs[j]? = some x → wholeBad t x = false) := good_next HA.out HX1.out (by rw [HBF.out, HRA.out, decide_eq_false (by omega), r5]; rfl)
      clear r5
      go_wp2_with fail
      go_roundw
      case rel => exact ⟨i + 1, by omega, by go_num, HNX.out, HR9.out⟩
      case measure => simp [intOf]; omega
     ·have r6 : (signQ (fixQ fr) != 0) = true := bneI r5
      have HBD : Hid (wholeBad t (n : Int) = true) := by unfold Hid; rw [HBF.out, HRA.out, decide_eq_true r5]; simp
      clear r5
      have HE3 : Hid (treeB p xs t = false) := by unfold Hid; rw [HE2.out, if_pos (List.any_eq_true.2 ⟨_, List.mem_of_getElem? HX1.out, HBD.out⟩)]
      go_wp2_with fail
      go_ret
      exact ⟨by rw [HE3.out]; rfl, (below_next K1.out.2 HR9.out.1.2)⟩
    have z2 : (signQ (fixQ f) != 0) = true := bneI z1
    have HZ1 := Hd z1
    clear z1
    go_wp2_with fail
    refine And.intro D2.out ⟨?_, _, ?_, rfl, ?_⟩
    rotate_left
    ·(iterate 7 ((refine ⟨_, ?_, rfl, Or.inl ⟨by rfl, ?_⟩, ?_⟩; rotate_left; focus (intro W hW; replace hW := (bcell hW).1; go_simp; try with_reducible rfl)); (try simp only [SQ])))
     exact rfl
    go_wp2_with fail
    refine (number_calls _ 1 (by omega) (by omega)).mono ?_
    rintro e w5 ⟨v, rfl, hv, hb⟩
    obtain ⟨E1, h1, i1, E2, h2, i2, rfl, HV5⟩ := hv.opened
    have D3 := Hd (below_next D2.out hb)
    clear hv hb
    go_wp2_with fail
    refine And.intro D3.out ⟨_, _, rfl, rfl, ?_⟩
    go_wp2_with fail
    refine (fcmp_calls _ _ _ f (rawQ 1) (HFF.out.of_below D3.out) (FR.of_fq HV5.out small_one)).mono ?_
    rintro e w6 ⟨rfl, hb⟩
    rw [fixQ_raw _ small_one]
    have D4 := Hd (below_next D3.out hb)
    have HR4 := Hd (HRw.out.below D4.out)
    clear hb
    by_cases z3 : ordQ (fixQ f) 1 = 0
    ·have z4 : (ordQ (fixQ f) 1 != 0) = false := beqI z3
     have HFI : Hid ((decide (signQ (fixQ f) ≠ 0) && decide (ordQ (fixQ f) 1 ≠ 0)) = false) := by unfold Hid; rw [z3]; simp
     clear z3
     go_wp2_with fail
     refine And.intro D4.out ?_
     refine ⟨?_, ?_, ?_⟩
     rotate_left
     ·(iterate 2 ((refine ⟨_, ?_, rfl, Or.inl ⟨by rfl, ?_⟩, ?_⟩; rotate_left; focus (intro W hW; replace hW := (bcell hW).1; go_simp; try with_reducible rfl)); (try simp only [SQ])))
      exact rfl
     refine NoPanic.normal ?_
     clear j0 j1 j2 k0 hgf hgx x0 x1 x2 x3 hlt1 y0 y1 y2 y3 hlt0
     obtain ⟨x0, x1, x2, x3⟩ := ((K1.out.step HR4.out.1.2).blk 1 rfl).c4
     have hlt1 := ((K1.out.step HR4.out.1.2).blk 1 rfl).lt
     obtain ⟨y0, y1, y2, y3⟩ := ((K1.out.step HR4.out.1.2).blk 0 rfl).c4
     have hlt0 := ((K1.out.step HR4.out.1.2).blk 0 rfl).lt
     have HBF : Hid (wholeBad t (n : Int) = (decide ((t.ray.length : Int) ≤ (n : Int)) || decide (signQ (atQ t.ray (n : Int)) ≠ 0))) := by unfold Hid wholeBad; rw [atQ_at HF1.out, HFI.out, ← HKD.out, HKI.out]; rfl
     by_cases r1 : t.ray.length ≤ n
     ·have r2 : decide (t.ray.length ≤ n) = true := decide_eq_true r1
      have r3 : (t.ray.length : Int) ≤ (n : Int) := by omega
      have HBD : Hid (wholeBad t (n : Int) = true) := by unfold Hid; rw [HBF.out, decide_eq_true r3]; rfl
      have HE3 : Hid (treeB p xs t = false) := by unfold Hid; rw [HE2.out, if_pos (List.any_eq_true.2 ⟨_, List.mem_of_getElem? HX1.out, HBD.out⟩)]
      go_wp2_with fail
      go_ret
      exact ⟨by rw [HE3.out]; rfl, (below_next K1.out.2 HR4.out.1.2)⟩
     have r2 : decide (t.ray.length ≤ n) = false := decide_eq_false r1
     have r3 : (n : Int) < (t.ray.length : Int) := by omega
     have r4 : ¬ ((t.ray.length : Int) ≤ (n : Int)) := by omega
     obtain ⟨fr, hfr⟩ : ∃ f, t.ray[n]? = some f := ⟨t.ray[n]'(by omega), List.getElem?_eq_getElem _⟩
     obtain ⟨gy, oy, D1, n1, e1, D2, n2, e2, rfl, hgy, j0, j1, j2, HFR⟩ := FL.at3 (HTR.out.below EF.stays (below_next K1.out.2 HR4.out.1.2)) hfr
     have HRA := Hd (atQ_at hfr)
     clear hfr
     go_wp2_with fail
     refine (sgn_calls _ _ fr HFR.out).mono ?_
     rintro e w9 ⟨rfl, hb⟩
     have HR9 := Hd (HR4.out.below hb)
     clear hb j0 j1 j2 x0 x1 x2 x3 hlt1 y0 y1 y2 y3 hlt0
     by_cases r5 : signQ (fixQ fr) = 0
     ·have r6 : (signQ (fixQ fr) != 0) = false := beqI r5
      have HNX : Hid (∀ (j : Nat) (x : Int), j < i + 1 → xs[j]? = some x → wholeBad t x = false) := good_next HA.out HX1.out (by rw [HBF.out, HRA.out, decide_eq_false (by omega), r5]; rfl)
      clear r5
      go_wp2_with fail
      go_roundw
      case rel => exact ⟨i + 1, by omega, by go_num, HNX.out, HR9.out⟩
      case measure => simp [intOf]; omega
     ·have r6 : (signQ (fixQ fr) != 0) = true := bneI r5
      have HBD : Hid (wholeBad t (n : Int) = true) := by unfold Hid; rw [HBF.out, HRA.out, decide_eq_true r5]; simp
      clear r5
      have HE3 : Hid (treeB p xs t = false) := by unfold Hid; rw [HE2.out, if_pos (List.any_eq_true.2 ⟨_, List.mem_of_getElem? HX1.out, HBD.out⟩)]
      go_wp2_with fail
      go_ret
      exact ⟨by rw [HE3.out]; rfl, (below_next K1.out.2 HR9.out.1.2)⟩
    have z4 : (ordQ (fixQ f) 1 != 0) = true := bneI z3
    have HBD : Hid (wholeBad t (n : Int) = true) := by unfold Hid wholeBad; rw [atQ_at HF1.out, decide_eq_true HZ1.out, decide_eq_true z3]; rfl
    clear z3
    go_wp2_with fail
    refine And.intro D4.out ?_
    refine ⟨?_, ?_, ?_⟩
    rotate_left
    ·(iterate 2 ((refine ⟨_, ?_, rfl, Or.inl ⟨by rfl, ?_⟩, ?_⟩; rotate_left; focus (intro W hW; replace hW := (bcell hW).1; go_simp; try with_reducible rfl)); (try simp only [SQ])))
     exact rfl
    refine NoPanic.normal ?_
    have HE3 : Hid (treeB p xs t = false) := by unfold Hid; rw [HE2.out, if_pos (List.any_eq_true.2 ⟨_, List.mem_of_getElem? HX1.out, HBD.out⟩)]
    go_wp2_with fail
    go_ret
    exact ⟨by rw [HE3.out]; rfl, (below_next K1.out.2 HR4.out.1.2)⟩
   ·obtain rfl : i = xs.length := by omega
    have HAF : Hid (xs.any (wholeBad t) = false) := all_good HA.out
    go_wp2_with fail
    refine (goes_calls _ _ _ p t.ray (HP.out.of_below (below_next K1.out.2 HRw.out.1.2)) (HTR.out.below EF.stays (below_next K1.out.2 HRw.out.1.2)) HR0.out).mono ?_
    rintro e w9 ⟨rfl, hb⟩
    have HR9 := Hd (HRw.out.below hb)
    clear hb
    have HE3 : Hid (treeB p xs t = goesB p t.ray) := by unfold Hid; rw [HE2.out, if_neg (by rw [HAF.out]; simp), if_pos HKI.out]
    go_wp2_with fail
    go_ret
    exact ⟨by rw [HE3.out]; rfl, (below_next K1.out.2 HR9.out.1.2)⟩
def ER0 (w : World) (vs : Array Value) (r : RowF) : Prop := r.a.length ≤ 9223372036854775807 ∧ ∃ v A1 n1 c1 A2 n2 c2, vs = #[v, .int .i64 r.s, .bool r.b.neg, .slice A1 n1 c1, .slice A2 n2 c2] ∧ I64 r.s ∧ FL0 w v r.a ∧ FR0 w (.agg #[.bool r.b.neg, .slice A1 n1 c1, .slice A2 n2 c2]) r.b
abbrev RL0 (w : World) (v : Value) (rs : List RowF) : Prop := SL 5 ER0 w v rs
def PG0 (w : World) (v : Value) (p : ProgF) : Prop := (p.free.length ≤ 9223372036854775807 ∧ p.goal.length ≤ 9223372036854775807 ∧ p.rows.length ≤ 9223372036854775807) ∧ ∃ v1 v2 v3, v = .agg #[.int .i64 p.vars, v1, v2, v3] ∧ I64 p.vars ∧ BL w v1 p.free ∧ FL0 w v2 p.goal ∧ RL0 w v3 p.rows
theorem ER0.stays : Stays ER0 := fun _ _ _ _ h hb => by
 obtain ⟨hl, v, A1, n1, c1, A2, n2, c2, e, hs, h1, h2⟩ := h
 exact ⟨hl, v, A1, n1, c1, A2, n2, c2, e, hs, h1.below EF0.stays hb, h2.of_below hb⟩
theorem PG0.of_below {w w1 : World} {v : Value} {p : ProgF} (h : PG0 w v p) (hb : Below w.heap.size w w1) : PG0 w1 v p := by
 obtain ⟨hl, v1, v2, v3, e, hv, h1, h2, h3⟩ := h
 exact ⟨hl, v1, v2, v3, e, hv, h1.below EB.stays hb, h2.below EF0.stays hb, h3.below ER0.stays hb⟩
theorem PG0.opened {w : World} {v : Value} {p : ProgF} (h : PG0 w v p) : ∃ A1 c1 A2 c2 A3 c3, v = .agg #[.int .i64 p.vars, .slice A1 p.free.length c1, .slice A2 p.goal.length c2, .slice A3 p.rows.length c3] ∧ Hid (I64 p.vars) ∧ Hid (BL w (.slice A1 p.free.length c1) p.free) ∧ Hid (FL0 w (.slice A2 p.goal.length c2) p.goal) ∧ Hid (RL0 w (.slice A3 p.rows.length c3) p.rows) := by
 obtain ⟨_, v1, v2, v3, rfl, hv, h1, h2, h3⟩ := h
 obtain ⟨A1, c1, rfl, _⟩ := h1.slice
 obtain ⟨A2, c2, rfl, _⟩ := h2.slice
 obtain ⟨A3, c3, rfl, _⟩ := h3.slice
 exact ⟨A1, c1, A2, c2, A3, c3, rfl, hv, h1, h2, h3⟩
theorem RL0.at5 {w : World} {A : Option Addr} {n c : Nat} {rs : List RowF} (h : RL0 w (.slice A n c) rs) {j : Nat} {r : RowF} (hj : rs[j]? = some r) :
  ∃ g o A1 c1 A2 c2 A3 c3, A = some ⟨g, o, none⟩ ∧ g < w.heap.size ∧ w.cell? ⟨g, o + j * 5, none⟩ = some (.slice A1 r.a.length c1) ∧ w.cell? ⟨g, o + j * 5 + 1, none⟩ = some (.int .i64 r.s) ∧ w.cell? ⟨g, o + j * 5 + 2, none⟩ = some (.bool r.b.neg) ∧
   w.cell? ⟨g, o + j * 5 + 3, none⟩ = some (.slice A2 r.b.num.length c2) ∧ w.cell? ⟨g, o + j * 5 + 4, none⟩ = some (.slice A3 r.b.den.length c3) ∧ Hid (r.a.length ≤ 9223372036854775807) ∧ Hid (I64 r.s) ∧ Hid (FL0 w (.slice A1 r.a.length c1) r.a) ∧ Hid (FR0 w (.agg #[.bool r.b.neg, .slice A2 r.b.num.length c2, .slice A3 r.b.den.length c3]) r.b) := by
 obtain ⟨g, o, vs, hA, hg, hs, hc, hl, v, A2, n2, c2, A3, n3, c3, rfl, hI, h1, h2⟩ := h.at_ hj
 obtain ⟨A1, c1, rfl, _⟩ := h1.slice
 obtain ⟨B1, d1, B2, d2, e, h2'⟩ := h2.opened
 have e' : (A2 = B1 ∧ n2 = r.b.num.length ∧ c2 = d1) ∧ A3 = B2 ∧ n3 = r.b.den.length ∧ c3 = d2 := by simpa using e
 obtain ⟨⟨rfl, rfl, rfl⟩, rfl, rfl, rfl⟩ := e'
 exact ⟨g, o, A1, c1, A2, c2, A3, c3, hA, hg, hc 0 _ rfl, hc 1 _ rfl, hc 2 _ rfl, hc 3 _ rfl, hc 4 _ rfl, hl, hI, h1, h2⟩
def rowIn (vars : Nat) (r : RowF) : Bool := decide (r.a.length ≤ vars) && (wordsB r.a 6 && wordsB [r.b] 6)
def withinB (p : ProgF) (vars rows : Nat) : Bool := decide (p.vars ≤ (vars : Int)) && (decide (p.rows.length ≤ rows) && (decide (p.free.length ≤ vars) && (decide (p.goal.length ≤ vars) && (wordsB p.goal 6 && p.rows.all (rowIn vars)))))
theorem withinB_ok {p : ProgF} {vars rows : Nat} (h : withinB p vars rows = true) : p.vars ≤ vars ∧ p.rows.length ≤ rows ∧ p.free.length ≤ vars ∧ p.goal.length ≤ vars ∧ wordsB p.goal 6 = true ∧ ∀ r ∈ p.rows, r.a.length ≤ vars ∧ wordsB r.a 6 = true ∧ wordF 6 r.b = true := by
 unfold withinB at h
 simp only [Bool.and_eq_true, decide_eq_true_eq] at h
 obtain ⟨h1, h2, h3, h4, h5, h6⟩ := h
 refine ⟨h1, h2, h3, h4, h5, fun r hr => ?_⟩
 have := List.all_eq_true.1 h6 r hr
 unfold rowIn at this
 simp only [Bool.and_eq_true, decide_eq_true_eq] at this
 obtain ⟨a, b, c⟩ := this
 refine ⟨a, b, ?_⟩
 unfold wordsB at c
 simpa using c
theorem PG0.full {w : World} {v : Value} {p : ProgF} (h : PG0 w v p) {vars rows : Nat} (hw : withinB p vars rows = true) : PR w v p := by
 obtain ⟨_, v1, v2, v3, e, hv, h1, h2, h3⟩ := h
 obtain ⟨_, _, _, _, h5, h6⟩ := withinB_ok hw
 refine ⟨v1, v2, v3, e, hv, h1, h2.full (by decide) h5, ?_⟩
 obtain ⟨A, c, e, hc, hr⟩ := h3
 refine ⟨A, c, e, hc, fun hp => ?_⟩
 obtain ⟨g, o, hA, hg, he⟩ := hr hp
 refine ⟨g, o, hA, hg, fun j x hx => ?_⟩
 obtain ⟨vs, g1, g2, _, v, A1, n1, c1, A2, n2, c2, e, hI, g3, g4⟩ := he j x hx
 obtain ⟨_, b, c⟩ := h6 x (List.mem_of_getElem? hx)
 have := wordF_ok c
 exact ⟨vs, g1, g2, v, A1, n1, c1, A2, n2, c2, e, hI, g3.full (by decide) b, g4.full ⟨by omega, by omega⟩⟩
theorem FL0.one {w : World} {x y z : Value} {f : RawF} (h : FR0 w (.agg #[x, y, z]) f) (t : Nat) : FL0 (w.alloc (.cells #[x, y, z] t)) (.slice (some ⟨w.heap.size, 0, none⟩) 1 1) [f] := by
 refine ⟨_, _, rfl, Nat.le_refl _, fun _ => ⟨w.heap.size, 0, rfl, (Blk.new w t #[x, y, z]).lt, fun j f' hj => ?_⟩⟩
 obtain ⟨hlt, e⟩ := List.getElem?_eq_some_iff.1 hj
 obtain rfl : j = 0 := by simpa using hlt
 obtain rfl : f = f' := by simpa using e
 refine ⟨#[x, y, z], rfl, fun i v hv => ?_, h.of_below (below_new w _)⟩
 have := (Blk.new w t #[x, y, z]).cell hv
 simpa using this
set_option maxHeartbeats 16000000 in
set_option maxRecDepth 100000 in
theorem within_calls (w : World) (v : Value) (p : ProgF) (vars rows : Nat) (h : PG0 w v p) (hv1 : vars ≤ 1000) (hr1 : rows ≤ 1000) : Calls Tryz.prog 7 #[v, .int .i64 (vars : Int), .int .i64 (rows : Int)] w fun e w' => BPost w (withinB p vars rows) e w' := by
 have hl := h.1
 obtain ⟨A1, c1, A2, c2, A3, c3, rfl, HI, H1, H2, H3⟩ := h.opened
 have hl1 := hl.1
 have hl2 := hl.2.1
 have hl3 := hl.2.2
 clear h hl
 obtain ⟨pv, hv⟩ : ∃ n, n = p.vars := ⟨_, rfl⟩
 rw [← hv]
 have HV := Hd hv
 clear hv
 go_enter Tryz.func7, Tryz.ntmps7
 by_cases a1 : pv > (vars : Int)
 ·have t1 : decide (pv > (vars : Int)) = true := decide_eq_true a1
  have HR : Hid (withinB p vars rows = false) := by unfold Hid withinB; rw [← HV.out, decide_eq_false (by omega)]; rfl
  clear a1
  go_wp2_with fail
  go_ret
  exact ⟨by rw [HR.out]; rfl, below_new w _⟩
 have t1 : decide (pv > (vars : Int)) = false := decide_eq_false a1
 by_cases a2 : p.rows.length > rows
 ·have t2 : decide (rows < p.rows.length) = true := decide_eq_true (by omega)
  have HR : Hid (withinB p vars rows = false) := by unfold Hid withinB; rw [decide_eq_false (show ¬ p.rows.length ≤ rows by omega), Bool.false_and, Bool.and_false]
  clear a1 a2
  go_wp2_with fail
  go_ret
  exact ⟨by rw [HR.out]; rfl, below_new w _⟩
 have t2 : decide (rows < p.rows.length) = false := decide_eq_false (by omega)
 by_cases a3 : p.free.length > vars
 ·have t3 : decide (vars < p.free.length) = true := decide_eq_true (by omega)
  have HR : Hid (withinB p vars rows = false) := by unfold Hid withinB; rw [decide_eq_false (show ¬ p.free.length ≤ vars by omega), Bool.false_and, Bool.and_false, Bool.and_false]
  clear a1 a2 a3
  go_wp2_with fail
  go_ret
  exact ⟨by rw [HR.out]; rfl, below_new w _⟩
 have t3 : decide (vars < p.free.length) = false := decide_eq_false (by omega)
 by_cases a4 : p.goal.length > vars
 ·have t4 : decide (vars < p.goal.length) = true := decide_eq_true (by omega)
  have HR : Hid (withinB p vars rows = false) := by unfold Hid withinB; rw [decide_eq_false (show ¬ p.goal.length ≤ vars by omega), Bool.false_and, Bool.and_false, Bool.and_false, Bool.and_false]
  clear a1 a2 a3 a4
  go_wp2_with fail
  go_ret
  exact ⟨by rw [HR.out]; rfl, below_new w _⟩
 have t4 : decide (vars < p.goal.length) = false := decide_eq_false (by omega)
 have HHEAD : Hid (withinB p vars rows = (wordsB p.goal 6 && p.rows.all (rowIn vars))) := by
  unfold Hid withinB
  rw [← HV.out, decide_eq_true (show pv ≤ (vars : Int) by omega), decide_eq_true (show p.rows.length ≤ rows by omega), decide_eq_true (show p.free.length ≤ vars by omega), decide_eq_true (show p.goal.length ≤ vars by omega)]
  rfl
 clear a1 a2 a3 a4
 go_wp2_with fail
 have H0 := Hd (HS.one (w := w) #[.int .i64 pv, .slice A1 p.free.length c1, .slice A2 p.goal.length c2, .slice A3 p.rows.length c3] 26)
 generalize w.alloc (.cells #[.int .i64 pv, .slice A1 p.free.length c1, .slice A2 p.goal.length c2, .slice A3 p.rows.length c3] 26) = W0 at *
 refine (words_calls W0 _ p.goal 6 (H2.out.below EF0.stays H0.out.2) hl2 (by decide)).mono ?_
 rintro e w1 ⟨rfl, hb⟩
 have H1' := Hd (H0.out.step hb)
 obtain ⟨x0, x1, x2, x3⟩ := H1'.out.c4 0 rfl
 clear hb
 cases hg : wordsB p.goal 6 with
 | false =>
  have HR : Hid (withinB p vars rows = false) := by unfold Hid; rw [HHEAD.out, hg]; rfl
  clear hg
  go_wp2_with fail
  go_ret
  exact ⟨by rw [HR.out]; rfl, H1'.out.2⟩
 | true =>
  have HE : Hid (withinB p vars rows = p.rows.all (rowIn vars)) := by unfold Hid; rw [HHEAD.out, hg]; rfl
  clear hg
  go_wp2_with fail
  clear x0 x1 x2 x3
  go_loopw [43] (fun vi wr => ∃ i : Nat, i ≤ p.rows.length ∧ vi = .int .i64 (i : Int) ∧ (∀ (j : Nat) (r : RowF), j < i → p.rows[j]? = some r → rowIn vars r = true) ∧ HS w [(w.heap.size, 26, #[.int .i64 pv, .slice A1 p.free.length c1, .slice A2 p.goal.length c2, .slice A3 p.rows.length c3])] wr) (fun vi _ => p.rows.length - (intOf vi).toNat)
  case atStart => exact ⟨0, Nat.zero_le _, rfl, fun j _ h => absurd h (Nat.not_lt_zero _), H1'.out⟩
  case round =>
   obtain ⟨i, hi, rfl, hall, hk⟩ := hrel
   have HA := Hd hall
   have HK := Hd hk
   clear hall hk
   by_cases hlt : i < p.rows.length
   ·obtain ⟨r, hr⟩ : ∃ r, p.rows[i]? = some r := ⟨p.rows[i], List.getElem?_eq_getElem hlt⟩
    obtain ⟨g, o, B1, d1, B2, d2, B3, d3, rfl, hg, k0, k1, k2, k3, k4, hla, HI', HA', HB'⟩ := RL0.at5 (H3.out.below ER0.stays HK.out.2) hr
    have hrl := hla.out
    have HRR := Hd hr
    clear hr hla
    have m1 : (i : Int) < (p.rows.length : Int) := by omega
    have m3 : (i : Int).toNat = i := by omega
    have m4 : (0 : Int) ≤ (i : Int) := by omega
    obtain ⟨s, hs⟩ : ∃ s, s = r.s := ⟨_, rfl⟩
    rw [← hs] at k1
    obtain ⟨la, hla⟩ : ∃ l, l = r.a.length := ⟨_, rfl⟩
    rw [← hla] at hrl HA' k0
    have HLA := Hd hla
    obtain ⟨lb1, hlb1⟩ : ∃ l, l = r.b.num.length := ⟨_, rfl⟩
    obtain ⟨lb2, hlb2⟩ : ∃ l, l = r.b.den.length := ⟨_, rfl⟩
    rw [← hlb1] at HB' k3
    rw [← hlb2] at HB' k4
    clear hs hla hlb1 hlb2
    by_cases q1 : la > vars
    ·have u1 : decide (vars < la) = true := decide_eq_true (by omega)
     have HR : Hid (withinB p vars rows = false) := by
      unfold Hid
      rw [HE.out]
      refine all_false HRR.out ?_
      unfold rowIn
      rw [← HLA.out, decide_eq_false (by omega)]
      rfl
     clear q1
     go_wp2_with fail
     go_ret
     exact ⟨by rw [HR.out]; rfl, (HK.out.step (below_new _ _)).2⟩
    have u1 : decide (vars < la) = false := decide_eq_false (by omega)
    have HLE : Hid (la ≤ vars) := Nat.le_of_not_lt q1
    clear q1
    go_wp2_with fail
    have HB1 := Hd (below_new wr (.cells #[.slice B1 la d1, .int .i64 s, .bool r.b.neg, .slice B2 lb1 d2, .slice B3 lb2 d3] 73))
    have HKB1 := Hd (Blk.new wr 73 #[.slice B1 la d1, .int .i64 s, .bool r.b.neg, .slice B2 lb1 d2, .slice B3 lb2 d3])
    generalize wr.alloc (.cells #[.slice B1 la d1, .int .i64 s, .bool r.b.neg, .slice B2 lb1 d2, .slice B3 lb2 d3] 73) = W1 at *
    refine (words_calls W1 _ r.a 6 (HA'.out.below EF0.stays HB1.out) (by rw [← HLA.out]; exact hrl) (by decide)).mono ?_
    rintro e w2 ⟨rfl, hb⟩
    have HB2 := Hd (below_next HB1.out hb)
    have HKB2 := Hd (HKB1.out.below hb HKB1.out.lt)
    have z2 := HKB2.out.cell (j := 2) rfl
    have z3 := HKB2.out.cell (j := 3) rfl
    have z4 := HKB2.out.cell (j := 4) rfl
    have hz := HKB2.out.lt
    clear hb
    cases hwa : wordsB r.a 6 with
    | false =>
     have HR : Hid (withinB p vars rows = false) := by
      unfold Hid
      rw [HE.out]
      refine all_false HRR.out ?_
      unfold rowIn
      rw [hwa, Bool.false_and, Bool.and_false]
     clear hwa
     go_wp2_with fail
     go_ret
     exact ⟨by rw [HR.out]; rfl, (HK.out.step HB2.out).2⟩
    | true =>
     have HWA := Hd hwa
     clear hwa
     go_wp2_with fail
     refine (words_calls _ _ [r.b] 6 (FL0.one (HB'.out.of_below HB2.out) 46) (by simp) (by decide)).mono ?_
     rintro e w3 ⟨rfl, hb⟩
     have HB3 := Hd (below_next (below_next HB2.out (below_new w2 _)) hb)
     clear hb
     cases hwb : wordsB [r.b] 6 with
     | false =>
      have HR : Hid (withinB p vars rows = false) := by
       unfold Hid
       rw [HE.out]
       refine all_false HRR.out ?_
       unfold rowIn
       rw [hwb, Bool.and_false, Bool.and_false]
      clear hwb
      go_wp2_with fail
      go_ret
      exact ⟨by rw [HR.out]; rfl, (HK.out.step HB3.out).2⟩
     | true =>
      have HG : Hid (rowIn vars r = true) := by
       unfold Hid rowIn
       rw [← HLA.out, HWA.out, hwb, decide_eq_true HLE.out]
       rfl
      clear hwb
      go_wp2_with fail
      go_roundw
      case rel =>
       refine ⟨i + 1, by omega, by go_num, fun j r' hj hr' => ?_, HK.out.step HB3.out⟩
       by_cases hji : j = i
       ·rw [hji, HRR.out] at hr'
        injection hr' with e
        rw [← e]
        exact HG.out
       ·exact HA.out j r' (by omega) hr'
      case measure => simp [intOf]; omega
   ·obtain rfl : i = p.rows.length := by omega
    have HE2 : Hid (withinB p vars rows = true) := by unfold Hid; rw [HE.out]; exact all_true fun j r hr => HA.out j r (List.getElem?_eq_some_iff.1 hr).1 hr
    go_wp2_with fail
    go_ret
    exact ⟨by rw [HE2.out]; rfl, HK.out.2⟩
noncomputable def rrowHolds (x : List Rat) (r : RowF) : Bool := rholdsB r.s (rdotQ (r.a.map fixQ) x) (fixQ r.b)
noncomputable def rfitsB (p : ProgF) (x : List RawF) : Bool := decide ((x.length : Int) = p.vars) && (signedB p.free (x.map fixQ) && p.rows.all (rrowHolds (x.map fixQ)))
noncomputable def rfitsP (p : ProgF) (x : List RawF) : Bool := decide (rightP p = 0) && rfitsB p x
theorem rdotQ_size (a b : List Rat) : sizeQ (rdotQ a b) ≤ 4096 := by
 have h := rdot_cap (List.zipWith (· * ·) a b) 0 capQ_zero
 unfold rdotQ
 rw [← h]
 exact capQ_size _
theorem fix_rdot (a b : List Rat) : fixQ (rawQ (rdotQ a b)) = rdotQ a b := fixQ_raw _ (rdotQ_size a b)
set_option maxHeartbeats 16000000 in
set_option maxRecDepth 100000 in
theorem rfits_calls (w : World) (v v2 : Value) (p : ProgF) (x : List RawF) (h : PR w v p) (h2 : FL w v2 x) : Calls Tryz.prog 47 #[v, v2] w fun e w' => BPost w (rfitsP p x) e w' := by
 have HP := Hd h
 obtain ⟨A1, c1, A2, c2, A3, c3, rfl, HI, H1, H2, H3⟩ := h.opened
 obtain ⟨A4, c4, rfl, hc4⟩ := h2.slice
 have HX := Hd h2
 clear h h2
 obtain ⟨vars, hv⟩ : ∃ n, n = p.vars := ⟨_, rfl⟩
 rw [← hv] at HP ⊢
 have HV := Hd hv
 clear hv
 go_enter Tryz.func47, Tryz.ntmps47
 go_wp2_with fail
 have H0 := Hd (HS.one (w := w) #[.int .i64 vars, .slice A1 p.free.length c1, .slice A2 p.goal.length c2, .slice A3 p.rows.length c3] 26)
 generalize w.alloc (.cells #[.int .i64 vars, .slice A1 p.free.length c1, .slice A2 p.goal.length c2, .slice A3 p.rows.length c3] 26) = W0 at *
 refine (r2right_calls W0 _ p (HP.out.of_below H0.out.2)).mono ?_
 rintro e w1 ⟨rfl, hb⟩
 have H1' := Hd (H0.out.step hb)
 obtain ⟨x0, x1, x2, x3⟩ := H1'.out.c4 0 rfl
 clear hb
 by_cases q1 : rightP p = 0
 case neg =>
  have u1 : (rightP p != 0) = true := bneI q1
  have HE : Hid (rfitsP p x = false) := by unfold Hid rfitsP; rw [decide_eq_false q1]; rfl
  clear q1
  go_wp2_with fail
  go_ret
  exact ⟨by rw [HE.out]; rfl, H1'.out.2⟩
 have u1 : (rightP p != 0) = false := beqI q1
 have hrl := rightP_len q1
 have HE0 : Hid (rfitsP p x = rfitsB p x) := by unfold Hid rfitsP; rw [decide_eq_true q1]; rfl
 clear q1
 have hfl : (p.free.length : Int) = vars := by rw [HV.out]; exact hrl.1
 have hvl : vars ≤ 160 := by rw [HV.out]; exact hrl.2.2.2.1
 have hrw : p.rows.length ≤ 400 := hrl.2.2.2.2.1
 have HROW : Hid (∀ (r : RowF), r ∈ p.rows → (r.a.length : Int) = vars) := by unfold Hid; rw [HV.out]; exact fun r hm => (hrl.2.2.2.2.2 r hm).1
 clear hrl
 by_cases q2 : (x.length : Int) = vars
 case neg =>
  have u2 : ((x.length : Int) != vars) = true := bneI q2
  have HE : Hid (rfitsP p x = false) := by unfold Hid; rw [HE0.out]; unfold rfitsB; rw [decide_eq_false (by rw [← HV.out]; exact q2)]; rfl
  clear q2 hfl
  go_wp2_with fail
  go_ret
  exact ⟨by rw [HE.out]; rfl, H1'.out.2⟩
 have u2 : ((x.length : Int) != vars) = false := beqI q2
 have HE1 : Hid (rfitsP p x = (signedB p.free (x.map fixQ) && p.rows.all (rrowHolds (x.map fixQ)))) := by unfold Hid; rw [HE0.out]; unfold rfitsB; rw [decide_eq_true (by rw [← HV.out]; exact q2)]; rfl
 have hxl : x.length ≤ 100000 := by omega
 have hl : x.length = p.free.length := by omega
 have HXF := Hd hl
 clear q2 hfl hl
 go_wp2_with fail
 clear x0 x1 x2 x3
 go_loopw [21] (fun vi wr => ∃ i : Nat, i ≤ x.length ∧ vi = .int .i64 (i : Int) ∧ (∀ (j : Nat) (b : Bool) (q : Rat), j < i → p.free[j]? = some b → (x.map fixQ)[j]? = some q → (b || !decide (signQ q < 0)) = true) ∧ HS w [(w.heap.size, 26, #[.int .i64 vars, .slice A1 p.free.length c1, .slice A2 p.goal.length c2, .slice A3 p.rows.length c3])] wr) (fun vi _ => x.length - (intOf vi).toNat)
 case atStart => exact ⟨0, Nat.zero_le _, rfl, fun j _ _ h => absurd h (Nat.not_lt_zero _), H1'.out⟩
 case round =>
  obtain ⟨i, hi, rfl, hall, hk⟩ := hrel
  have HA := Hd hall
  have HK := Hd hk
  clear hall hk
  by_cases hlt : i < x.length
  ·obtain ⟨f, hf⟩ : ∃ f, x[i]? = some f := ⟨x[i], List.getElem?_eq_getElem hlt⟩
   obtain ⟨b, hbf⟩ : ∃ b, p.free[i]? = some b := ⟨p.free[i], List.getElem?_eq_getElem (by have := HXF.out; omega)⟩
   obtain ⟨g, o, B1, n1, d1, B2, n2, d2, rfl, hg, k0, k1, k2, HE⟩ := FL.at3 (HX.out.below EF.stays HK.out.2) hf
   obtain ⟨g2, o2, rfl, hg2, kb⟩ := BL.at1 (H1.out.below EB.stays HK.out.2) hbf
   have HXI : Hid ((x.map fixQ)[i]? = some (fixQ f)) := by unfold Hid; rw [List.getElem?_map, hf]; rfl
   have HFI := Hd hbf
   clear hf hbf
   have m1 : (i : Int) < (x.length : Int) := by omega
   have m2 : (i : Int) < (p.free.length : Int) := by have := HXF.out; omega
   have m3 : (i : Int).toNat = i := by omega
   have m4 : (0 : Int) ≤ (i : Int) := by omega
   obtain ⟨x0, x1, x2, x3⟩ := HK.out.c4 0 rfl
   have hz := (HK.out.blk 0 rfl).lt
   have fin : ∀ wz, Below wr.heap.size wr wz → (b || !decide (signQ (fixQ f) < 0)) = true → (∃ i', i' ≤ x.length ∧ Value.int .i64 ((i : Int) + 1) = .int .i64 (i' : Int) ∧ (∀ (j : Nat) (b : Bool) (q : Rat), j < i' → p.free[j]? = some b → (x.map fixQ)[j]? = some q → (b || !decide (signQ q < 0)) = true) ∧ HS w [(w.heap.size, 26, #[.int .i64 vars, .slice (some ⟨g2, o2, none⟩) p.free.length c1, .slice A2 p.goal.length c2, .slice A3 p.rows.length c3])] wz) := fun wz hbz hgood => by
    refine ⟨i + 1, by omega, by go_num, fun j b' q' hj hb' hq' => ?_, HK.out.step hbz⟩
    by_cases hji : j = i
    ·subst hji
     rw [HFI.out] at hb'
     rw [HXI.out] at hq'
     injection hb' with e1
     injection hq' with e2
     rw [← e1, ← e2]
     exact hgood
    ·exact HA.out j b' q' (by omega) hb' hq'
   have HFin := Hd fin
   clear fin
   cases b with
   | true =>
    go_wp2_with fail
    go_roundw
    case rel => exact HFin.out _ (below_new _ _) rfl
    case measure => simp [intOf]; omega
   | false =>
    go_wp2_with fail
    have hb1 := below_new wr (.cells #[.bool f.neg, .slice B1 n1 d1, .slice B2 n2 d2] 46)
    refine (rsign_calls _ _ f (HE.out.of_below hb1)).mono ?_
    rintro e w2 ⟨rfl, hb2⟩
    have HB := Hd (below_next hb1 hb2)
    clear hb1 hb2
    by_cases q1 : signQ (fixQ f) < 0
    ·have u1 : decide (signQ (fixQ f) < 0) = true := decide_eq_true q1
     have HE2 : Hid (rfitsP p x = false) := by unfold Hid; rw [HE1.out, signedB_false HFI.out HXI.out (by rw [decide_eq_true q1]; rfl)]; rfl
     clear q1
     go_wp2_with fail
     go_ret
     exact ⟨by rw [HE2.out]; rfl, (HK.out.step HB.out).2⟩
    ·have u1 : decide (signQ (fixQ f) < 0) = false := decide_eq_false q1
     have HG : Hid ((false || !decide (signQ (fixQ f) < 0)) = true) := by unfold Hid; rw [decide_eq_false q1]; rfl
     clear q1
     go_wp2_with fail
     go_roundw
     case rel => exact HFin.out _ HB.out HG.out
     case measure => simp [intOf]; omega
  ·obtain rfl : i = x.length := by omega
   have HE2 : Hid (rfitsP p x = p.rows.all (rrowHolds (x.map fixQ))) := by unfold Hid; rw [HE1.out, signedB_true (free := p.free) (x := x.map fixQ) fun j b q h1 h2 => HA.out j b q (by have := (List.getElem?_eq_some_iff.1 h2).1; simpa using this) h1 h2]; rfl
   obtain ⟨wo, hwo⟩ : ∃ wo, wo = wr := ⟨_, rfl⟩
   rw [← hwo] at HK ⊢
   obtain ⟨x0, x1, x2, x3⟩ := HK.out.c4 0 rfl
   clear hwo HA H0 H1'
   go_wp2_with fail
   clear x0 x1 x2 x3
   go_loopw [41] (fun vi wr => ∃ i : Nat, i ≤ p.rows.length ∧ vi = .int .i64 (i : Int) ∧ (∀ (j : Nat) (r : RowF), j < i → p.rows[j]? = some r → rrowHolds (x.map fixQ) r = true) ∧ HS w [(w.heap.size, 26, #[.int .i64 vars, .slice A1 p.free.length c1, .slice A2 p.goal.length c2, .slice A3 p.rows.length c3])] wr) (fun vi _ => p.rows.length - (intOf vi).toNat)
   case atStart => exact ⟨0, Nat.zero_le _, rfl, fun j _ h => absurd h (Nat.not_lt_zero _), HK.out⟩
   case round =>
    obtain ⟨i, hi, rfl, hall, hk⟩ := hrel
    have HA := Hd hall
    have HK := Hd hk
    clear hall hk
    by_cases hlt : i < p.rows.length
    ·obtain ⟨r, hr⟩ : ∃ r, p.rows[i]? = some r := ⟨p.rows[i], List.getElem?_eq_getElem hlt⟩
     obtain ⟨g, o, B1, d1, B2, n2, d2, B3, n3, d3, rfl, hg, k0, k1, k2, k3, k4, HI', HA', HB'⟩ := RL.at5 (H3.out.below ER.stays HK.out.2) hr
     have hrl : r.a.length ≤ 100000 := by have := HROW.out r (List.mem_of_getElem? hr); omega
     have HRR := Hd hr
     clear hr
     have m1 : (i : Int) < (p.rows.length : Int) := by omega
     have m3 : (i : Int).toNat = i := by omega
     have m4 : (0 : Int) ≤ (i : Int) := by omega
     obtain ⟨s, hs⟩ : ∃ s, s = r.s := ⟨_, rfl⟩
     rw [← hs] at k1
     have HSE := Hd hs
     clear hs
     go_wp2_with fail
     have hb1 := below_new wr (.cells #[.slice B1 r.a.length d1, .int .i64 s, .bool r.b.neg, .slice B2 n2 d2, .slice B3 n3 d3] 73)
     have hk1 := Blk.new wr 73 #[.slice B1 r.a.length d1, .int .i64 s, .bool r.b.neg, .slice B2 n2 d2, .slice B3 n3 d3]
     have HB1 := Hd hb1
     have z0 := hk1.cell (j := 0) rfl
     have z1 := hk1.cell (j := 1) rfl
     have z2 := hk1.cell (j := 2) rfl
     have z3 := hk1.cell (j := 3) rfl
     have z4 := hk1.cell (j := 4) rfl
     have hz := hk1.lt
     generalize wr.alloc (.cells #[.slice B1 r.a.length d1, .int .i64 s, .bool r.b.neg, .slice B2 n2 d2, .slice B3 n3 d3] 73) = W1 at *
     clear hk1 hb1
     refine wp_chainS (S := Below W1.heap.size W1) [([0, 1, 2, 4, 5, 6, 7], 3), ([], 8)] [9] (by kernel_rfl) (by kernel_rfl) (by kernel_rfl) rfl (Below.drew (Below.refl _ _)) ?_
     refine ⟨?_, _, ?_, rfl, ?_⟩
     rotate_left
     ·repeat (refine ⟨_, ?_, rfl, Or.inl ⟨by rfl, ?_⟩, ?_⟩; rotate_left; focus (intro W hW; replace hW := (bcell hW).1; go_simp; try with_reducible rfl); (try simp only [SQ]))
      exact rfl
     have hbd : Below W1.heap.size W1 W1.drew := Below.drew (Below.refl _ _)
     have hbx := below_next HB1.out hbd
     have HBX := Hd hbx
     go_wp2_with fail
     refine (rdot_calls _ _ _ r.a x (HA'.out.below EF.stays HBX.out) (HX.out.below EF.stays (HK.out.step HBX.out).2) hrl hxl).mono ?_
     rintro e w7 ⟨v, rfl, hv, hb⟩
     obtain ⟨A5, n5, c5, A6, n6, c6, rfl, HV5⟩ := hv.opened
     have HB7 := Hd (below_next hbd hb)
     have HB17 := Hd (below_next HB1.out HB7.out)
     clear hv hb hbd hbx
     go_wp2_with fail
     refine And.intro HB7.out ⟨_, _, rfl, rfl, ?_⟩
     go_wp2_with fail
     refine (rholds_calls _ s _ _ _ r.b (FR.of_fq HV5.out (rdotQ_size _ _)) (HB'.out.of_below HB17.out)).mono ?_
     rintro e w8 ⟨rfl, hb⟩
     have HB8 := Hd (below_next HB7.out hb)
     have HB18 := Hd (below_next HB1.out HB8.out)
     have HH : Hid (rholdsB s (fixQ (rawQ (rdotQ (r.a.map fixQ) (x.map fixQ)))) (fixQ r.b) = rrowHolds (x.map fixQ) r) := by unfold Hid rrowHolds; rw [fix_rdot, HSE.out]
     rw [HH.out]
     clear hb
     go_wp2_with fail
     refine And.intro HB8.out ⟨?_, ?_, ?_⟩
     rotate_left
     ·repeat (refine ⟨_, ?_, rfl, Or.inl ⟨by rfl, ?_⟩, ?_⟩; rotate_left; focus (intro W hW; replace hW := (bcell hW).1; go_simp; try with_reducible rfl); (try simp only [SQ]))
      exact rfl
     refine NoPanic.normal ?_
     cases hb : rrowHolds (x.map fixQ) r with
     | false =>
      have HE3 : Hid (rfitsP p x = false) := by unfold Hid; rw [HE2.out]; exact all_false HRR.out hb
      clear hb
      go_wp2_with fail
      go_ret
      exact ⟨by rw [HE3.out]; rfl, (HK.out.step HB18.out).2⟩
     | true =>
      have HG := Hd hb
      clear hb
      go_wp2_with fail
      go_roundw
      case rel =>
       refine ⟨i + 1, by omega, by go_num, fun j r' hj hr' => ?_, HK.out.step HB18.out⟩
       by_cases hji : j = i
       ·rw [hji, HRR.out] at hr'
        injection hr' with e
        rw [← e]
        exact HG.out
       ·exact HA.out j r' (by omega) hr'
      case measure => simp [intOf]; omega
    ·obtain rfl : i = p.rows.length := by omega
     have HE3 : Hid (rfitsP p x = true) := by unfold Hid; rw [HE2.out]; exact all_true fun j r hr => HA.out j r (List.getElem?_eq_some_iff.1 hr).1 hr
     go_wp2_with fail
     go_ret
     exact ⟨by rw [HE3.out]; rfl, HK.out.2⟩
theorem fit_words {n : Nat} {f : RawF} (h : wordF n f = true) (hn : 1 ≤ n) : FitQ n (fixQ f) := by
 obtain ⟨h1, h2⟩ := wordF_ok h
 by_cases hr : RightF f
 ·have h3 := right_raw hr
  have e1 : f.num = dg (fixQ f).num.natAbs := congrArg RawF.num h3
  have e2 : f.den = dg (fixQ f).den := congrArg RawF.den h3
  exact ⟨by unfold wlen; rw [← e1]; exact h1, by unfold wlen; rw [← e2]; exact h2⟩
 ·rw [fixQ_wrong hr]
  exact fit_mono fit_zero hn
theorem fold_fits (k : Nat) : ∀ (l : List Rat) (c : Nat) (a : Rat), FitQ c a → (∀ q ∈ l, FitQ k q) → 2 * (l.length * (k + 1) + c) ≤ 4096 → l.foldl dotStep a = l.foldl (· + ·) a
 | [], _, _, _, _, _ => rfl
 | q :: l, c, a, ha, h, hk => by
  rw [List.length_cons, Nat.add_mul] at hk
  have hq := h q (by simp)
  have hs := fit_add ha hq (Nat.le_refl _)
  have e : dotStep a q = a + q := by
   unfold dotStep
   rw [capQ_fits (Nat.le_trans hq.size (by omega)), capQ_fits (Nat.le_trans hs.size (by omega))]
  rw [List.foldl_cons, List.foldl_cons, e]
  exact fold_fits k l _ _ hs (fun x hx => h x (List.mem_cons_of_mem _ hx)) (by omega)
theorem fit_zip {k1 k2 : Nat} : ∀ (a b : List Rat), (∀ q ∈ a, FitQ k1 q) → (∀ q ∈ b, FitQ k2 q) → ∀ q ∈ List.zipWith (· * ·) a b, FitQ (k1 + k2) q
 | [], _, _, _, q, hq => by simp at hq
 | _ :: _, [], _, _, q, hq => by simp at hq
 | x :: a, y :: b, ha, hb, q, hq => by
  rw [List.zipWith_cons_cons, List.mem_cons] at hq
  rcases hq with rfl | hq
  ·exact fit_mul (ha x (by simp)) (hb y (by simp)) (Nat.le_refl _)
  ·exact fit_zip a b (fun z hz => ha z (List.mem_cons_of_mem _ hz)) (fun z hz => hb z (List.mem_cons_of_mem _ hz)) q hq
theorem rdotQ_fits {k1 k2 n : Nat} {a b : List Rat} (ha : ∀ q ∈ a, FitQ k1 q) (hb : ∀ q ∈ b, FitQ k2 q) (hn : a.length ≤ n) (hk : 2 * (n * (k1 + k2 + 1) + 1) ≤ 4096) : rdotQ a b = dotQ a b := by
 unfold rdotQ dotQ sumQ
 refine fold_fits (k1 + k2) _ 1 0 fit_zero (fit_zip a b ha hb) ?_
 have h1 : (List.zipWith (· * ·) a b).length ≤ n := by rw [List.length_zipWith]; omega
 have h2 := Nat.mul_le_mul_right (k1 + k2 + 1) h1
 omega
theorem dotQ_fits {k1 k2 n : Nat} {a b : List Rat} (ha : ∀ q ∈ a, FitQ k1 q) (hb : ∀ q ∈ b, FitQ k2 q) (hn : a.length ≤ n) : FitQ (n * (k1 + k2 + 1) + 1) (dotQ a b) := by
 have h1 : (List.zipWith (· * ·) a b).length ≤ n := by rw [List.length_zipWith]; omega
 have h2 := Nat.mul_le_mul_right (k1 + k2 + 1) h1
 exact fit_mono (fit_sum (List.zipWith (· * ·) a b) (k1 + k2) (fit_zip a b ha hb)) (by omega)
theorem cap_dotQ {k1 k2 n : Nat} {a b : List Rat} (ha : ∀ q ∈ a, FitQ k1 q) (hb : ∀ q ∈ b, FitQ k2 q) (hn : a.length ≤ n) (hk : 2 * (n * (k1 + k2 + 1) + 1) ≤ 4096) : capQ (dotQ a b) = dotQ a b :=
 capQ_fits (Nat.le_trans (dotQ_fits ha hb hn).size hk)
theorem fit_list {n : Nat} {fs : List RawF} (h : wordsB fs n = true) (hn : 1 ≤ n) : ∀ q ∈ fs.map fixQ, FitQ n q := fun q hq => by
 obtain ⟨f, hf, rfl⟩ := List.mem_map.1 hq
 exact fit_words (List.all_eq_true.1 h f hf) hn
theorem holds_same (s : Int) (a b : Rat) : holdsB s a b = rholdsB s a b := by
 unfold holdsB rholdsB
 by_cases h : s = 0
 ·subst h
  cases decide (ordQ a b = 0) <;> rfl
 ·rw [decide_eq_true (show s ≠ 0 from h), Bool.true_and]
theorem all_congr {α : Type} {l : List α} {f g : α → Bool} (h : ∀ a ∈ l, f a = g a) : l.all f = l.all g := by
 induction l with
 | nil => rfl
 | cons a l ih => rw [List.all_cons, List.all_cons, h a (by simp), ih fun b hb => h b (List.mem_cons_of_mem _ hb)]
theorem value_same {p : ProgF} {x : List RawF} {vars rows k : Nat} (hp : withinB p vars rows = true) (hx : wordsB x k = true) (hk1 : 1 ≤ k) (hk : 2 * (vars * (6 + k + 1) + 1) ≤ 4096) : valueP p x = rvalueP p x := by
 obtain ⟨_, _, _, hg, hgw, _⟩ := withinB_ok hp
 have h1 := fit_list hgw (by decide)
 have h2 := fit_list hx hk1
 unfold valueP rvalueP
 split
 ·rfl
 ·rw [cap_dotQ h1 h2 (by rw [List.length_map]; exact hg) hk, rdotQ_fits h1 h2 (by rw [List.length_map]; exact hg) hk]
theorem fits_same {p : ProgF} {x : List RawF} {vars rows k : Nat} (hp : withinB p vars rows = true) (hx : wordsB x k = true) (hk1 : 1 ≤ k) (hk : 2 * (vars * (6 + k + 1) + 1) ≤ 4096) : fitsP p x = rfitsP p x := by
 obtain ⟨_, _, _, _, _, hr⟩ := withinB_ok hp
 have h2 := fit_list hx hk1
 have e : p.rows.all (rowHolds (x.map fixQ)) = p.rows.all (rrowHolds (x.map fixQ)) := all_congr fun r hm => by
  obtain ⟨h3, h4, _⟩ := hr r hm
  have h1 := fit_list h4 (by decide)
  unfold rowHolds rrowHolds
  rw [cap_dotQ h1 h2 (by rw [List.length_map]; exact h3) hk, rdotQ_fits h1 h2 (by rw [List.length_map]; exact h3) hk, holds_same]
 unfold fitsP rfitsP fitsB rfitsB
 rw [e, Bool.and_assoc]
noncomputable def rsignsB (p : ProgF) (y : List RawF) : Bool := decide (y.length = p.rows.length) && signsB p.rows (y.map fixQ)
noncomputable def covOk (p : ProgF) (y : List Rat) (least : List RawF) (v : Nat) : Bool := !(decide (ordQ (colQ p.rows y v) (fixQ (nthF least v)) < 0) || (freeAt p v && decide (ordQ (colQ p.rows y v) (fixQ (nthF least v)) ≠ 0)))
noncomputable def coversB (p : ProgF) (y : List RawF) (least : List RawF) : Bool := (List.range p.vars.toNat).all (covOk p (y.map fixQ) least)
noncomputable def worL (rows : List RowF) (y : List Rat) : List Rat := List.zipWith (fun r q => q * fixQ r.b) rows y
noncomputable def worthQ (p : ProgF) (y : List RawF) : Rat := (worL p.rows (y.map fixQ)).foldl dotStep 0
theorem worthQ_size (p : ProgF) (y : List RawF) : sizeQ (worthQ p y) ≤ 4096 := by
 have h := rdot_cap (worL p.rows (y.map fixQ)) 0 capQ_zero
 unfold worthQ
 rw [← h]
 exact capQ_size _
set_option maxHeartbeats 32000000 in
set_option maxRecDepth 100000 in
theorem rsigns_calls (w : World) (v v2 : Value) (p : ProgF) (y : List RawF) (h : PR w v p) (h2 : FL w v2 y) (hr : rightP p = 0) (hy : y.length ≤ 100000) : Calls Tryz.prog 57 #[v, v2] w fun e w' => BPost w (rsignsB p y) e w' := by
 have hrl := rightP_len hr
 clear hr
 obtain ⟨A1, c1, A2, c2, A3, c3, rfl, HI, H1, H2, H3⟩ := h.opened
 obtain ⟨A4, c4, rfl, hc4⟩ := h2.slice
 have HY := Hd h2
 clear h h2
 obtain ⟨vars, hv⟩ : ∃ n, n = p.vars := ⟨_, rfl⟩
 rw [← hv]
 have HV := Hd hv
 have hfl : (p.free.length : Int) = vars := by rw [hv]; exact hrl.1
 have hv1 : 1 ≤ vars := by rw [hv]; exact hrl.2.2.1
 have hvl : vars ≤ 160 := by rw [hv]; exact hrl.2.2.2.1
 have hrw : p.rows.length ≤ 400 := hrl.2.2.2.2.1
 have HROW : Hid (∀ (r : RowF), r ∈ p.rows → (r.a.length : Int) = vars) := by unfold Hid; rw [hv]; exact fun r hm => (hrl.2.2.2.2.2 r hm).1
 clear hv hrl
 obtain ⟨n, hn⟩ : ∃ n : Nat, vars = (n : Int) := ⟨vars.toNat, by omega⟩
 subst hn
 have hn1 : 1 ≤ n := by omega
 have hn2 : n ≤ 160 := by omega
 have HFL : Hid (p.free.length = n) := by unfold Hid; omega
 have HVN : Hid (p.vars.toNat = n) := by unfold Hid; rw [← HV.out]; omega
 obtain ⟨ys, hys⟩ : ∃ ys, ys = y.map fixQ := ⟨_, rfl⟩
 have HYS := Hd hys
 clear hfl hv1 hvl hys
 go_enter Tryz.func57, Tryz.ntmps57
 by_cases q1 : y.length = p.rows.length
 case neg =>
  have u1 : ((y.length : Int) != (p.rows.length : Int)) = true := bneI (by omega)
  have HE : Hid (rsignsB p y = false) := by unfold Hid rsignsB; rw [decide_eq_false q1]; rfl
  clear q1
  go_wp2_with fail
  go_ret
  exact ⟨by rw [HE.out]; rfl, below_new w _⟩
 have HE0 : Hid (rsignsB p y = signsB p.rows ys) := by unfold Hid rsignsB; rw [decide_eq_true q1, HYS.out]; rfl
 have HLEN := Hd q1
 clear q1
 have hlr : p.rows.length = y.length := HLEN.out.symm
 have u1 : ((y.length : Int) != (p.rows.length : Int)) = false := beqI (by omega)
 clear hlr
 go_wp2_with fail
 have H0 := Hd (HS.one (w := w) #[.int .i64 (n : Int), .slice A1 p.free.length c1, .slice A2 p.goal.length c2, .slice A3 p.rows.length c3] 26)
 generalize w.alloc (.cells #[.int .i64 (n : Int), .slice A1 p.free.length c1, .slice A2 p.goal.length c2, .slice A3 p.rows.length c3] 26) = W0 at *
 clear u1
 go_loopw [17] (fun vi wr => ∃ i : Nat, i ≤ p.rows.length ∧ vi = .int .i64 (i : Int) ∧ (∀ (j : Nat) (r : RowF) (q : Rat), j < i → p.rows[j]? = some r → ys[j]? = some q → badSign r.s q = false) ∧ HS w [(w.heap.size, 26, #[.int .i64 (n : Int), .slice A1 p.free.length c1, .slice A2 p.goal.length c2, .slice A3 p.rows.length c3])] wr) (fun vi _ => p.rows.length - (intOf vi).toNat)
 case atStart => exact ⟨0, Nat.zero_le _, rfl, fun j _ _ h => absurd h (Nat.not_lt_zero _), H0.out⟩
 case round =>
  obtain ⟨i, hi, rfl, hall, hk⟩ := hrel
  have HA := Hd hall
  have HK := Hd hk
  clear hall hk
  by_cases hlt : i < p.rows.length
  ·obtain ⟨r, hr⟩ : ∃ r, p.rows[i]? = some r := ⟨p.rows[i], List.getElem?_eq_getElem hlt⟩
   have hly := HLEN.out
   obtain ⟨f, hf⟩ : ∃ f, y[i]? = some f := ⟨y[i]'(by omega), List.getElem?_eq_getElem _⟩
   obtain ⟨g1, o1, B1, d1, B2, n2, d2, B3, n3, d3, rfl, hg, k0, k1, k2, k3, k4, _, _, _⟩ := RL.at5 (H3.out.below ER.stays HK.out.2) hr
   obtain ⟨g2, o2, C1, l1, e1, C2, l2, e2, rfl, hg2, j0, j1, j2, HFE⟩ := FL.at3 (HY.out.below EF.stays HK.out.2) hf
   have HYI : Hid (ys[i]? = some (fixQ f)) := by unfold Hid; rw [HYS.out, List.getElem?_map, hf]; rfl
   have HRR := Hd hr
   have m1 : (i : Int) < (p.rows.length : Int) := by omega
   have m2 : (i : Int) < (y.length : Int) := by omega
   have m3 : (i : Int).toNat = i := by omega
   have m4 : (0 : Int) ≤ (i : Int) := by omega
   obtain ⟨s, hs⟩ : ∃ s, s = r.s := ⟨_, rfl⟩
   rw [← hs] at k1
   have HSE := Hd hs
   have hz0 := (HK.out.blk 0 rfl).lt
   clear hr hf hs hly
   go_wp2_with fail
   have HB1 := Hd (below_new wr (.cells #[.slice B1 r.a.length d1, .int .i64 s, .bool r.b.neg, .slice B2 n2 d2, .slice B3 n3 d3] 73))
   have HKB1 := Hd (Blk.new wr 73 #[.slice B1 r.a.length d1, .int .i64 s, .bool r.b.neg, .slice B2 n2 d2, .slice B3 n3 d3])
   generalize wr.alloc (.cells #[.slice B1 r.a.length d1, .int .i64 s, .bool r.b.neg, .slice B2 n2 d2, .slice B3 n3 d3] 73) = W1 at *
   refine (rsign_calls W1 _ f (HFE.out.of_below HB1.out)).mono ?_
   rintro e w2 ⟨rfl, hb⟩
   have HB2 := Hd (below_next HB1.out hb)
   have z1 := (HKB1.out.below hb HKB1.out.lt).cell (j := 1) rfl
   clear hb
   obtain ⟨c, hc⟩ : ∃ c, c = signQ (fixQ f) := ⟨_, rfl⟩
   have HBAD : Hid (badSign r.s (fixQ f) = ((decide (s = -1) && decide (c < 0)) || (decide (s = 1) && decide (c > 0)))) := by unfold Hid badSign; rw [← HSE.out, ← hc]
   rw [← hc]
   clear hc
   have fin : ∀ wz, Below wr.heap.size wr wz → badSign r.s (fixQ f) = false → (∃ i', i' ≤ p.rows.length ∧ Value.int .i64 ((i : Int) + 1) = .int .i64 (i' : Int) ∧ (∀ (j : Nat) (r : RowF) (q : Rat), j < i' → p.rows[j]? = some r → ys[j]? = some q → badSign r.s q = false) ∧ HS w [(w.heap.size, 26, #[.int .i64 (n : Int), .slice A1 p.free.length c1, .slice A2 p.goal.length c2, .slice (some ⟨g1, o1, none⟩) p.rows.length c3])] wz) := fun wz hbz hgood => by
    refine ⟨i + 1, by omega, by go_num, fun j r' q' hj hr' hq' => ?_, HK.out.step hbz⟩
    by_cases hji : j = i
    ·subst hji
     rw [HRR.out] at hr'
     rw [HYI.out] at hq'
     injection hr' with e1
     injection hq' with e2
     rw [← e1, ← e2]
     exact hgood
    ·exact HA.out j r' q' (by omega) hr' hq'
   have HFin := Hd fin
   have bad : badSign r.s (fixQ f) = true → rsignsB p y = false := fun h => by
    rw [HE0.out]
    exact zip_all_false HRR.out HYI.out (by rw [h]; rfl)
   have HBadR := Hd bad
   clear fin bad
   by_cases s1 : s = -1
   ·have t1 : (s == -1) = true := beqI' s1
    by_cases s2 : c < 0
    ·have t2 : decide (c < 0) = true := decide_eq_true s2
     have HE2 := Hd (HBadR.out (by rw [HBAD.out, decide_eq_true s1, t2]; rfl))
     clear s1 s2
     go_wp2_with fail
     go_ret
     exact ⟨by rw [HE2.out]; rfl, (HK.out.step HB2.out).2⟩
    ·have t2 : decide (c < 0) = false := decide_eq_false s2
     have t3 : (s == 1) = false := bneI' (by omega)
     have HG : Hid (badSign r.s (fixQ f) = false) := by unfold Hid; rw [HBAD.out, t2, decide_eq_false (show ¬ s = 1 by omega)]; simp
     clear s1 s2
     go_wp2_with fail
     go_roundw
     case rel => exact HFin.out _ HB2.out HG.out
     case measure => simp [intOf]; omega
   ·have t1 : (s == -1) = false := bneI' s1
    by_cases s3 : s = 1
    ·have t3 : (s == 1) = true := beqI' s3
     by_cases s2 : c > 0
     ·have t2 : decide (c > 0) = true := decide_eq_true s2
      have HE2 := Hd (HBadR.out (by rw [HBAD.out, decide_eq_true s3, t2]; simp))
      clear s1 s2 s3
      go_wp2_with fail
      go_ret
      exact ⟨by rw [HE2.out]; rfl, (HK.out.step HB2.out).2⟩
     ·have t2 : decide (c > 0) = false := decide_eq_false s2
      have HG : Hid (badSign r.s (fixQ f) = false) := by unfold Hid; rw [HBAD.out, t2, decide_eq_false s1]; simp
      clear s1 s2 s3
      go_wp2_with fail
      go_roundw
      case rel => exact HFin.out _ HB2.out HG.out
      case measure => simp [intOf]; omega
    ·have t3 : (s == 1) = false := bneI' s3
     have HG : Hid (badSign r.s (fixQ f) = false) := by unfold Hid; rw [HBAD.out, decide_eq_false s1, decide_eq_false s3]; simp
     clear s1 s3
     go_wp2_with fail
     go_roundw
     case rel => exact HFin.out _ HB2.out HG.out
     case measure => simp [intOf]; omega
  ·obtain rfl : i = p.rows.length := by omega
   have HE1 : Hid (rsignsB p y = true) := by
    unfold Hid
    rw [HE0.out]
    exact zip_all_true fun j r q h1 h2 => by
     rw [HA.out j r q (List.getElem?_eq_some_iff.1 h1).1 h1 h2]; rfl
   go_wp2_with fail
   go_ret
   exact ⟨by rw [HE1.out]; rfl, HK.out.2⟩
set_option maxHeartbeats 32000000 in
set_option maxRecDepth 100000 in
theorem rcovers_calls (w : World) (v v2 : Value) (p : ProgF) (y : List RawF) (h : PR w v p) (h2 : FL w v2 y) (v3 : Value) (g : List RawF) (hg3 : FL w v3 g) (hgl : (g.length : Int) = p.vars) (hr : rightP p = 0) (hy : y.length ≤ 100000) (hly0 : y.length = p.rows.length) : Calls Tryz.prog 58 #[v, v2, v3] w fun e w' => BPost w (coversB p y g) e w' := by
 have hrl := rightP_len hr
 clear hr
 obtain ⟨A1, c1, A2, c2, A3, c3, rfl, HI, H1, H2, H3⟩ := h.opened
 obtain ⟨A4, c4, rfl, hc4⟩ := h2.slice
 have HY := Hd h2
 obtain ⟨A6, c6, rfl, hc6⟩ := hg3.slice
 have HG := Hd hg3
 clear hg3
 clear h h2
 obtain ⟨vars, hv⟩ : ∃ n, n = p.vars := ⟨_, rfl⟩
 rw [← hv]
 have HV := Hd hv
 have hfl : (p.free.length : Int) = vars := by rw [hv]; exact hrl.1
 have hv1 : 1 ≤ vars := by rw [hv]; exact hrl.2.2.1
 have hvl : vars ≤ 160 := by rw [hv]; exact hrl.2.2.2.1
 have hrw : p.rows.length ≤ 400 := hrl.2.2.2.2.1
 have HROW : Hid (∀ (r : RowF), r ∈ p.rows → (r.a.length : Int) = vars) := by unfold Hid; rw [hv]; exact fun r hm => (hrl.2.2.2.2.2 r hm).1
 have hgv : (g.length : Int) = vars := by rw [hv]; exact hgl
 have HGV := Hd hgv
 clear hgv hgl
 clear hv hrl
 obtain ⟨n, hn⟩ : ∃ n : Nat, vars = (n : Int) := ⟨vars.toNat, by omega⟩
 subst hn
 have hn1 : 1 ≤ n := by omega
 have hn2 : n ≤ 160 := by omega
 have HFL : Hid (p.free.length = n) := by unfold Hid; omega
 have HVN : Hid (p.vars.toNat = n) := by unfold Hid; rw [← HV.out]; omega
 obtain ⟨ys, hys⟩ : ∃ ys, ys = y.map fixQ := ⟨_, rfl⟩
 have HYS := Hd hys
 clear hfl hv1 hvl hys
 have HLEN := Hd hly0
 have HE1 : Hid (coversB p y g = (List.range n).all (covOk p ys g)) := by unfold Hid coversB; rw [HYS.out, HVN.out]
 clear hly0
 go_enter Tryz.func58, Tryz.ntmps58
 go_wp2_with fail
 have H0 := Hd (HS.one (w := w) #[.int .i64 (n : Int), .slice A1 p.free.length c1, .slice A2 p.goal.length c2, .slice A3 p.rows.length c3] 26)
 generalize w.alloc (.cells #[.int .i64 (n : Int), .slice A1 p.free.length c1, .slice A2 p.goal.length c2, .slice A3 p.rows.length c3] 26) = W0 at *
 go_loopw [7] (fun vi wr => ∃ i : Nat, i ≤ n ∧ vi = .int .i64 (i : Int) ∧ (∀ (j : Nat), j < i → covOk p ys g j = true) ∧ HS w [(w.heap.size, 26, #[.int .i64 (n : Int), .slice A1 p.free.length c1, .slice A2 p.goal.length c2, .slice A3 p.rows.length c3])] wr) (fun vi _ => n - (intOf vi).toNat)
 case atStart => exact ⟨0, Nat.zero_le _, rfl, fun j h => absurd h (Nat.not_lt_zero _), H0.out⟩
 case round =>
  obtain ⟨i, hi, rfl, hall, hk⟩ := hrel
  have HA := Hd hall
  have HK2 := Hd hk
  obtain ⟨x0, x1, x2, x3⟩ := HK2.out.c4 0 rfl
  have hltp := (HK2.out.blk 0 rfl).lt
  clear hall hk H0
  by_cases hlt : i < n
  case neg =>
   obtain rfl : i = n := by omega
   have HE2 : Hid (coversB p y g = true) := by unfold Hid; rw [HE1.out]; exact range_all_true HA.out
   go_wp2_with fail
   go_ret
   exact ⟨by rw [HE2.out]; rfl, HK2.out.2⟩
  have m1 : (i : Int) < (n : Int) := by omega
  go_wp2_with fail
  refine (rwhole0_calls wr).mono ?_
  rintro e w1 ⟨v, rfl, hv, hb⟩
  obtain ⟨D5, n5, d5, D6, n6, d6, rfl, HVZ⟩ := hv.opened
  have HK3 := Hd (HK2.out.step hb)
  obtain ⟨x0, x1, x2, x3⟩ := HK3.out.c4 0 rfl
  have hlt2 := (HK3.out.blk 0 rfl).lt
  clear hv hb
  go_wp2_with fail
  clear x0 x1 x2 x3
  have HK4 := Hd (HK3.out.more (.cells #[.bool (negQ 0), .slice D5 n5 d5, .slice D6 n6 d6] 46))
  have HA0 := Hd (show AccF (w1.alloc (.cells #[.bool (negQ 0), .slice D5 n5 d5, .slice D6 n6 d6] 46)) w1.heap.size 0 from ⟨D5, n5, d5, D6, n6, d6, Blk.new _ _ _, HVZ.out.of_below (below_new _ _)⟩)
  obtain ⟨gz, hgz⟩ : ∃ gz, gz = w1.heap.size := ⟨_, rfl⟩
  rw [← hgz] at HA0
  have hzne : w.heap.size < gz := by omega
  generalize w1.alloc (.cells #[.bool (negQ 0), .slice D5 n5 d5, .slice D6 n6 d6] 46) = W2 at *
  rw [← hgz]
  clear hgz
  obtain ⟨ds, hds⟩ : ∃ ds, ds = colL p.rows ys i := ⟨_, rfl⟩
  have HDS := Hd hds
  clear hds hlt2
  go_loopw [22] (fun vj wr => ∃ j : Nat, j ≤ p.rows.length ∧ vj = .int .i64 (j : Int) ∧ AccF wr gz ((ds.take j).foldl dotStep 0) ∧ HS w [(w.heap.size, 26, #[.int .i64 (n : Int), .slice A1 p.free.length c1, .slice A2 p.goal.length c2, .slice A3 p.rows.length c3])] wr) (fun vj _ => p.rows.length - (intOf vj).toNat)
  case atStart => exact ⟨0, Nat.zero_le _, rfl, HA0.out, HK4.out⟩
  case round =>
   obtain ⟨j, hj, rfl, hacc, hk⟩ := hrel
   have HA5 := Hd hacc
   have HK5 := Hd hk
   have hcap : capQ ((ds.take j).foldl dotStep 0) = (ds.take j).foldl dotStep 0 := rdot_cap _ _ capQ_zero
   obtain ⟨sm, hsm⟩ : ∃ s, s = (ds.take j).foldl dotStep 0 := ⟨_, rfl⟩
   rw [← hsm] at hcap HA5
   have HSM := Hd hsm
   have HCAP := Hd hcap
   clear hacc hk hsm hcap HA0 HK4 HK3
   by_cases hjlt : j < p.rows.length
   ·obtain ⟨r, hr⟩ : ∃ r, p.rows[j]? = some r := ⟨p.rows[j], List.getElem?_eq_getElem hjlt⟩
    have hly := HLEN.out
    have hra := HROW.out r (List.mem_of_getElem? hr)
    obtain ⟨f, hf⟩ : ∃ f, y[j]? = some f := ⟨y[j]'(by omega), List.getElem?_eq_getElem _⟩
    obtain ⟨av, hav⟩ : ∃ f, r.a[i]? = some f := ⟨r.a[i]'(by omega), List.getElem?_eq_getElem _⟩
    obtain ⟨g1, o1, B1, d1, B2, n2, d2, B3, n3, d3, rfl, hg, k0, k1, k2, k3, k4, _, HRA, _⟩ := RL.at5 (H3.out.below ER.stays HK5.out.2) hr
    obtain ⟨g2, o2, C1, l1, e1, C2, l2, e2, rfl, hg2, j0, j1, j2, HFE⟩ := FL.at3 (HY.out.below EF.stays HK5.out.2) hf
    obtain ⟨g3, o3, C3, l3, e3, C4, l4, e4, rfl, hg3, q0, q1, q2, HAE⟩ := FL.at3 HRA.out hav
    have hdj : ds[j]? = some (fixQ f * fixQ av) := by rw [HDS.out, HYS.out]; unfold colL; simp [List.getElem?_zipWith, hr, hf, nthF_get hav]
    obtain ⟨pr, hpr⟩ : ∃ q, q = fixQ f * fixQ av := ⟨_, rfl⟩
    rw [← hpr] at hdj
    have HPR := Hd hpr
    have HNX : Hid ((ds.take (j + 1)).foldl dotStep 0 = dotStep sm pr) := by
     unfold Hid
     rw [List.take_add_one, hdj]
     rw [show ds.take j ++ (some pr).toList = ds.take j ++ [pr] from rfl, fold_snoc, ← HSM.out]
    have n1 : (j : Int) < (p.rows.length : Int) := by omega
    have n2' : (j : Int) < (y.length : Int) := by omega
    have n3' : (j : Int).toNat = j := by omega
    have n4' : (0 : Int) ≤ (j : Int) := by omega
    have n5' : (i : Int) < (r.a.length : Int) := by omega
    have n6' : (i : Int).toNat = i := by omega
    have n7' : (0 : Int) ≤ (i : Int) := by omega
    obtain ⟨s, hs⟩ : ∃ s, s = r.s := ⟨_, rfl⟩
    rw [← hs] at k1
    have hz0 := (HK5.out.blk 0 rfl).lt
    clear hr hf hs hly hav hdj hpr hra
    go_wp2_with fail
    have HB1 := Hd (below_new wr (.cells #[.slice (some ⟨g3, o3, none⟩) r.a.length d1, .int .i64 s, .bool r.b.neg, .slice B2 n2 d2, .slice B3 n3 d3] 73))
    have HKB1 := Hd (Blk.new wr 73 #[.slice (some ⟨g3, o3, none⟩) r.a.length d1, .int .i64 s, .bool r.b.neg, .slice B2 n2 d2, .slice B3 n3 d3])
    obtain ⟨gr, hgr⟩ : ∃ gr, gr = wr.heap.size := ⟨_, rfl⟩
    rw [← hgr] at HKB1
    generalize wr.alloc (.cells #[.slice (some ⟨g3, o3, none⟩) r.a.length d1, .int .i64 s, .bool r.b.neg, .slice B2 n2 d2, .slice B3 n3 d3] 73) = W1 at *
    rw [← hgr]
    clear hgr
    have hkb2 := HKB1.out
    have z0 := hkb2.cell (j := 0) rfl
    have hzl := hkb2.lt
    clear hkb2
    have HB2 := HB1
    obtain ⟨w2, hw2⟩ : ∃ w2, w2 = W1 := ⟨_, rfl⟩
    rw [← hw2] at HB2 HB1 HKB1 z0 hzl ⊢
    clear hw2
    have HRound : Hid (∀ wz, AccF wz gz (dotStep sm pr) → HS w [(w.heap.size, 26, #[.int .i64 (n : Int), .slice A1 p.free.length c1, .slice A2 p.goal.length c2, .slice (some ⟨g1, o1, none⟩) p.rows.length c3])] wz → ∃ j', j' ≤ p.rows.length ∧ Value.int .i64 ((j : Int) + 1) = .int .i64 (j' : Int) ∧ AccF wz gz ((ds.take j').foldl dotStep 0) ∧ HS w [(w.heap.size, 26, #[.int .i64 (n : Int), .slice A1 p.free.length c1, .slice A2 p.goal.length c2, .slice (some ⟨g1, o1, none⟩) p.rows.length c3])] wz) := by
     intro wz h1 h2
     exact ⟨j + 1, by omega, by go_num, by rw [HNX.out]; exact h1, h2⟩
    have HA6 := Hd (HA5.out.step HB2.out)
    have hb2c := (bcell HB2.out).1
    obtain ⟨E5, k5, f5, E6, k6, f6, hk, hR⟩ := HA6.out
    have HR1 := Hd hR
    obtain ⟨a0, a1, a2⟩ := hk.c3
    obtain ⟨b0, b1, b2⟩ := hk.f3
    have hlt3 := hk.lt
    have HFE2 := Hd (HFE.out.of_below HB2.out)
    have HAE2 := Hd (HAE.out.of_below HB2.out)
    have HK6 := Hd (HK5.out.step HB2.out)
    have j0' := (hb2c g2 _ hg2).trans j0
    have j1' := (hb2c g2 _ hg2).trans j1
    have j2' := (hb2c g2 _ hg2).trans j2
    have q0' := (hb2c g3 _ hg3).trans q0
    have q1' := (hb2c g3 _ hg3).trans q1
    have q2' := (hb2c g3 _ hg3).trans q2
    have hg2' : g2 < w2.heap.size := Nat.lt_of_lt_of_le hg2 HB2.out.size
    have hg3' : g3 < w2.heap.size := Nat.lt_of_lt_of_le hg3 HB2.out.size
    clear hR hk hb2c j0 j1 j2 q0 q1 q2 k0 k1 k2 k3 k4
    refine wp_chain (S := Below w2.heap.size w2) 12 [([0, 1, 2, 3, 4, 5, 6, 7, 8, 9], 10), ([], 11), ([], 12)] (by kernel_rfl) (by kernel_rfl) (by kernel_rfl) rfl (Below.drew (Below.refl _ _)) ?_
    refine ⟨?_, _, ?_, rfl, ?_⟩
    rotate_left
    ·repeat (refine ⟨_, ?_, rfl, Or.inl ⟨by rfl, ?_⟩, ?_⟩; rotate_left; focus (intro W hW; replace hW := (bcell hW).1; go_simp; try with_reducible rfl); (try simp only [SQ]))
     exact rfl
    go_wp2_with fail
    refine (rmul_calls _ _ _ f av (HFE2.out.of_below (Below.drew (Below.refl _ _))) (HAE2.out.of_below (Below.drew (Below.refl _ _)))).mono ?_
    rintro e w7 ⟨v, rfl, hv, hb⟩
    rw [← HPR.out] at hv
    obtain ⟨A7, n7, c7, A8, n8, c8, rfl, HV5⟩ := hv.opened
    have HB7 := Hd (below_next (Below.drew (Below.refl w2.heap.size w2)) hb)
    clear hv hb
    go_wp2_with fail
    refine And.intro HB7.out ⟨_, _, rfl, rfl, ?_⟩
    go_wp2_with fail
    refine (radd_calls _ _ _ _ _ (FR.of_fq (HR1.out.of_below HB7.out) (by rw [← HCAP.out]; exact capQ_size _)) (FR.of_fq HV5.out (capQ_size _))).mono ?_
    rintro e w8 ⟨v, rfl, hv, hb⟩
    have hpost : capQ (fixQ (rawQ sm) + fixQ (rawQ (capQ pr))) = dotStep sm pr := by
     rw [fixQ_raw _ (by rw [← HCAP.out]; exact capQ_size _), fixQ_raw _ (capQ_size _)]
     rfl
    rw [hpost] at hv
    obtain ⟨A9, n9, c9, A10, n10, c10, rfl, HV6⟩ := hv.opened
    have HB8 := Hd (below_next HB7.out hb)
    clear hv hb hpost
    go_wp2_with fail
    refine And.intro HB8.out ⟨_, _, rfl, rfl, ?_⟩
    have HA8 := Hd (HA6.out.step HB8.out)
    obtain ⟨_, _, _, _, _, _, hk5, _⟩ := HA8.out
    obtain ⟨y0, y1, y2⟩ := hk5.c3
    obtain ⟨f0, f1, f2⟩ := hk5.f3
    clear hk5
    go_wp2_with fail
    refine NoPanic.normal ?_
    go_wp2_with fail
    go_roundw
    case rel => exact HRound.out _ (HA8.out.put HV6.out) ((HK6.out.step HB8.out).other3 (by omega) (by simp; omega) _ _ _)
    case measure => simp [intOf]; omega
   ·obtain rfl : j = p.rows.length := by omega
    have hly := HLEN.out
    have hzl : ds.take p.rows.length = ds := List.take_of_length_le (by rw [HDS.out, HYS.out]; unfold colL; rw [List.length_zipWith, List.length_map]; omega)
    have HCQ : Hid (colQ p.rows ys i = sm) := by unfold Hid colQ; rw [← HDS.out, HSM.out, hzl]
    clear hzl hly
    have hif : i < p.free.length := by have := HFL.out; omega
    obtain ⟨bf, hbf⟩ : ∃ b, p.free[i]? = some b := ⟨p.free[i], List.getElem?_eq_getElem hif⟩
    obtain ⟨g4, o4, rfl, hg4, kb⟩ := BL.at1 (H1.out.below EB.stays HK5.out.2) hbf
    have HFA : Hid (freeAt p i = bf) := by unfold Hid freeAt; rw [List.getD_eq_getElem?_getD, hbf]; rfl
    have m6 : (i : Int).toNat = i := by omega
    have m7 : (0 : Int) ≤ (i : Int) := by omega
    have m8 : (i : Int) < (p.free.length : Int) := by omega
    have HBF := Hd hbf
    clear hbf hif
    obtain ⟨fg, hfg⟩ : ∃ f, g[i]? = some f := ⟨g[i]'(by have := HGV.out; omega), List.getElem?_eq_getElem _⟩
    obtain ⟨g5, o5, C5, l5, e5, C6, l6, e6, rfl, hg5, q0, q1, q2, HGE⟩ := FL.at3 (HG.out.below EF.stays HK5.out.2) hfg
    have m9 : (i : Int) < (g.length : Int) := by have := HGV.out; omega
    obtain ⟨c, hcv⟩ : ∃ c, c = ordQ sm (fixQ fg) := ⟨_, rfl⟩
    have HOK : Hid (covOk p ys g i = !(decide (c < 0) || (bf && decide (c ≠ 0)))) := by unfold Hid covOk; rw [HCQ.out, nthF_get hfg, ← hcv, HFA.out]
    have HCC := Hd hcv
    obtain ⟨E5, k5, f5, E6, k6, f6, hk, hR⟩ := HA5.out
    have HR1 := Hd hR
    obtain ⟨a0, a1, a2⟩ := hk.c3
    have hlt3 := hk.lt
    clear hR hk hfg hcv
    go_wp2_with fail
    refine wp_chainS (S := Below wr.heap.size wr) [([0, 1, 2, 3, 4], 5)] [6] (by kernel_rfl) (by kernel_rfl) (by kernel_rfl) rfl (Below.drew (Below.refl _ _)) ?_
    refine ⟨?_, _, ?_, rfl, ?_⟩
    rotate_left
    ·repeat (refine ⟨_, ?_, rfl, Or.inl ⟨by rfl, ?_⟩, ?_⟩; rotate_left; focus (intro W hW; replace hW := (bcell hW).1; go_simp; try with_reducible rfl); (try simp only [SQ]))
     exact rfl
    go_wp2_with fail
    refine (rcmp_calls _ _ _ _ fg (FR.of_fq (HR1.out.of_below (Below.drew (Below.refl _ _))) (by rw [← HCAP.out]; exact capQ_size _)) (HGE.out.of_below (Below.drew (Below.refl _ _)))).mono ?_
    rintro e wE ⟨rfl, hb⟩
    rw [fixQ_raw _ (by rw [← HCAP.out]; exact capQ_size _), ← HCC.out]
    have HBE := Hd (below_next (Below.drew (Below.refl wr.heap.size wr)) hb)
    have HKE := Hd (HK5.out.step HBE.out)
    have kb' := ((bcell HBE.out).1 g4 _ hg4).trans kb
    clear hb kb a0 a1 a2 q0 q1 q2
    obtain ⟨x0, x1, x2, x3⟩ := HKE.out.c4 0 rfl
    have hltp := (HKE.out.blk 0 rfl).lt
    have HRound : Hid (∀ wz, Below wE.heap.size wE wz → covOk p ys g i = true → ∃ i', i' ≤ n ∧ Value.int .i64 ((i : Int) + 1) = .int .i64 (i' : Int) ∧ (∀ (j : Nat), j < i' → covOk p ys g j = true) ∧ HS w [(w.heap.size, 26, #[.int .i64 (n : Int), .slice (some ⟨g4, o4, none⟩) p.free.length c1, .slice A2 p.goal.length c2, .slice A3 p.rows.length c3])] wz) := by
     intro wz h1 h2
     refine ⟨i + 1, by omega, by go_num, fun j hj => ?_, HKE.out.step h1⟩
     by_cases hji : j = i
     ·rw [hji]; exact h2
     ·exact HA.out j (by omega)
    have finT : ∀ K : Prop, K → K := fun _ h => h
    go_wp2_with fail
    refine And.intro HBE.out ⟨?_, ?_, ?_⟩
    rotate_left
    ·repeat (refine ⟨_, ?_, rfl, Or.inl ⟨by rfl, ?_⟩, ?_⟩; rotate_left; focus (intro W hW; replace hW := (bcell hW).1; go_simp; try with_reducible rfl); (try simp only [SQ]))
     exact rfl
    refine NoPanic.normal ?_
    clear finT
    by_cases s1 : c < 0
    ·have t1 : decide (c < 0) = true := decide_eq_true s1
     have HE2 : Hid (coversB p y g = false) := by unfold Hid; rw [HE1.out]; exact range_all_false hlt (by rw [HOK.out, t1]; rfl)
     clear s1
     go_wp2_with fail
     go_ret
     exact ⟨by rw [HE2.out]; rfl, HKE.out.2⟩
    have t1 : decide (c < 0) = false := decide_eq_false s1
    cases bf with
    | false =>
     have HG2 : Hid (covOk p ys g i = true) := by unfold Hid; rw [HOK.out, t1]; rfl
     clear s1
     go_wp2_with fail
     go_roundw
     case rel => exact HRound.out _ (Below.refl _ _) HG2.out
     case measure => simp [intOf]; omega
    | true =>
     by_cases s2 : c = 0
     ·have t2 : (c != 0) = false := beqI s2
      have HG2 : Hid (covOk p ys g i = true) := by unfold Hid; rw [HOK.out, t1, decide_eq_false (by simpa using s2)]; rfl
      clear s1 s2
      go_wp2_with fail
      go_roundw
      case rel => exact HRound.out _ (Below.refl _ _) HG2.out
      case measure => simp [intOf]; omega
     ·have t2 : (c != 0) = true := bneI s2
      have HE2 : Hid (coversB p y g = false) := by unfold Hid; rw [HE1.out]; exact range_all_false hlt (by rw [HOK.out, t1, decide_eq_true s2]; rfl)
      clear s1 s2
      go_wp2_with fail
      go_ret
      exact ⟨by rw [HE2.out]; rfl, HKE.out.2⟩
set_option maxHeartbeats 16000000 in
set_option maxRecDepth 100000 in
theorem rworth_calls (w : World) (v v2 : Value) (p : ProgF) (y : List RawF) (h : PR w v p) (h2 : FL w v2 y) (hr : p.rows.length ≤ 400) (hy : y.length ≤ 100000) (hly0 : y.length = p.rows.length) : Calls Tryz.prog 59 #[v, v2] w fun e w' => FPost w (worthQ p y) e w' := by
 obtain ⟨A1, c1, A2, c2, A3, c3, rfl, HI, H1, H2, H3⟩ := h.opened
 obtain ⟨A4, c4, rfl, hc4⟩ := h2.slice
 have HY := Hd h2
 clear h h2
 obtain ⟨vars, hv⟩ : ∃ n, n = p.vars := ⟨_, rfl⟩
 rw [← hv]
 clear hv
 have HLEN := Hd hly0
 clear hly0
 obtain ⟨ds, hds⟩ : ∃ ds, ds = worL p.rows (y.map fixQ) := ⟨_, rfl⟩
 have HDS := Hd hds
 rw [show worthQ p y = ds.foldl dotStep 0 from by rw [hds]; rfl]
 clear hds
 go_enter Tryz.func59, Tryz.ntmps59
 go_wp2_with fail
 have H0 := Hd (HS.two (w := w) #[.int .i64 vars, .slice A1 p.free.length c1, .slice A2 p.goal.length c2, .slice A3 p.rows.length c3] #[.bool false, .slice none 0 0, .slice none 0 0] 26 46)
 have hsz0 : w.heap.size + 1 < ((w.alloc (.cells #[.int .i64 vars, .slice A1 p.free.length c1, .slice A2 p.goal.length c2, .slice A3 p.rows.length c3] 26)).alloc (.cells #[.bool false, .slice none 0 0, .slice none 0 0] 46)).heap.size := by simp
 generalize (w.alloc (.cells #[.int .i64 vars, .slice A1 p.free.length c1, .slice A2 p.goal.length c2, .slice A3 p.rows.length c3] 26)).alloc (.cells #[.bool false, .slice none 0 0, .slice none 0 0] 46) = W0 at *
 refine (rwhole0_calls W0).mono ?_
 rintro e w1 ⟨v, rfl, hv, hb⟩
 obtain ⟨A5, n5, c5, A6, n6, c6, rfl, HV⟩ := hv.opened
 have H1' := Hd (H0.out.step hb)
 have hs1 := hb.size
 obtain ⟨x0, x1, x2, x3⟩ := H1'.out.c4 1 rfl
 have hlt1 := (H1'.out.blk 1 rfl).lt
 clear hv hb
 go_wp2_with fail
 clear x0 x1 x2 x3
 have HA1 := Hd (show AccF (w1.alloc (.cells #[.bool (negQ 0), .slice A5 n5 c5, .slice A6 n6 c6] 46)) w1.heap.size 0 from ⟨A5, n5, c5, A6, n6, c6, Blk.new _ _ _, HV.out.of_below (below_new _ _)⟩)
 have H2' := Hd (H1'.out.more (.cells #[.bool (negQ 0), .slice A5 n5 c5, .slice A6 n6 c6] 46))
 obtain ⟨gz, hgz⟩ : ∃ gz, gz = w1.heap.size := ⟨_, rfl⟩
 rw [← hgz] at HA1
 have h03 : w.heap.size + 1 < gz := by omega
 generalize w1.alloc (.cells #[.bool (negQ 0), .slice A5 n5 c5, .slice A6 n6 c6] 46) = W2 at *
 rw [← hgz]
 clear hgz
 go_loopw [12] (fun vi wr => ∃ i : Nat, i ≤ p.rows.length ∧ vi = .int .i64 (i : Int) ∧ AccF wr gz ((ds.take i).foldl dotStep 0) ∧ HS w [(w.heap.size + 1, 46, #[.bool false, .slice none 0 0, .slice none 0 0]), (w.heap.size, 26, #[.int .i64 vars, .slice A1 p.free.length c1, .slice A2 p.goal.length c2, .slice A3 p.rows.length c3])] wr) (fun vi _ => p.rows.length - (intOf vi).toNat)
 case atStart => exact ⟨0, Nat.zero_le _, rfl, HA1.out, H2'.out⟩
 case round =>
  obtain ⟨j, hj, rfl, hacc, hk⟩ := hrel
  have HA5 := Hd hacc
  have HK5 := Hd hk
  have hcap : capQ ((ds.take j).foldl dotStep 0) = (ds.take j).foldl dotStep 0 := rdot_cap _ _ capQ_zero
  obtain ⟨sm, hsm⟩ : ∃ s, s = (ds.take j).foldl dotStep 0 := ⟨_, rfl⟩
  rw [← hsm] at hcap HA5
  have HSM := Hd hsm
  have HCAP := Hd hcap
  clear hacc hk hsm hcap HA1 H2' H1' H0
  by_cases hjlt : j < p.rows.length
  ·obtain ⟨r, hr'⟩ : ∃ r, p.rows[j]? = some r := ⟨p.rows[j], List.getElem?_eq_getElem hjlt⟩
   have hly := HLEN.out
   obtain ⟨f, hf⟩ : ∃ f, y[j]? = some f := ⟨y[j]'(by omega), List.getElem?_eq_getElem _⟩
   obtain ⟨g1, o1, B1, d1, B2, n2, d2, B3, n3, d3, rfl, hg, k0, k1, k2, k3, k4, _, _, HBE⟩ := RL.at5 (H3.out.below ER.stays HK5.out.2) hr'
   obtain ⟨g2, o2, C1, l1, e1, C2, l2, e2, rfl, hg2, j0, j1, j2, HFE⟩ := FL.at3 (HY.out.below EF.stays HK5.out.2) hf
   have hdj : ds[j]? = some (fixQ f * fixQ r.b) := by rw [HDS.out]; unfold worL; simp [List.getElem?_zipWith, hr', hf]
   obtain ⟨pr, hpr⟩ : ∃ q, q = fixQ f * fixQ r.b := ⟨_, rfl⟩
   rw [← hpr] at hdj
   have HPR := Hd hpr
   have HNX : Hid ((ds.take (j + 1)).foldl dotStep 0 = dotStep sm pr) := by
    unfold Hid
    rw [List.take_add_one, hdj]
    rw [show ds.take j ++ (some pr).toList = ds.take j ++ [pr] from rfl, fold_snoc, ← HSM.out]
   have n1 : (j : Int) < (p.rows.length : Int) := by omega
   have n2' : (j : Int) < (y.length : Int) := by omega
   have n3' : (j : Int).toNat = j := by omega
   have n4' : (0 : Int) ≤ (j : Int) := by omega
   obtain ⟨s, hs⟩ : ∃ s, s = r.s := ⟨_, rfl⟩
   rw [← hs] at k1
   have hz0 := (HK5.out.blk 0 rfl).lt
   obtain ⟨_, _, _, _, _, _, hkz, _⟩ := HA5.out
   have hltz := hkz.lt
   clear hr' hf hs hly hdj hpr hkz
   go_wp2_with fail
   have HB1 := Hd (below_new wr (.cells #[.slice B1 r.a.length d1, .int .i64 s, .bool r.b.neg, .slice B2 n2 d2, .slice B3 n3 d3] 73))
   have HKB1 := Hd (Blk.new wr 73 #[.slice B1 r.a.length d1, .int .i64 s, .bool r.b.neg, .slice B2 n2 d2, .slice B3 n3 d3])
   obtain ⟨gr, hgr⟩ : ∃ gr, gr = wr.heap.size := ⟨_, rfl⟩
   rw [← hgr] at HKB1
   generalize wr.alloc (.cells #[.slice B1 r.a.length d1, .int .i64 s, .bool r.b.neg, .slice B2 n2 d2, .slice B3 n3 d3] 73) = W1 at *
   rw [← hgr]
   clear hgr
   have z2 := HKB1.out.cell (j := 2) rfl
   have z3 := HKB1.out.cell (j := 3) rfl
   have z4 := HKB1.out.cell (j := 4) rfl
   have hzl := HKB1.out.lt
   have HA6 := Hd (HA5.out.step HB1.out)
   have hb2c := (bcell HB1.out).1
   obtain ⟨E5, k5, f5, E6, k6, f6, hk, hR⟩ := HA6.out
   have HR1 := Hd hR
   obtain ⟨a0, a1, a2⟩ := hk.c3
   obtain ⟨b0, b1, b2⟩ := hk.f3
   have hlt3 := hk.lt
   have HFE2 := Hd (HFE.out.of_below HB1.out)
   have HBE2 := Hd (HBE.out.of_below HB1.out)
   have HK6 := Hd (HK5.out.step HB1.out)
   have j0' := (hb2c g2 _ hg2).trans j0
   have j1' := (hb2c g2 _ hg2).trans j1
   have j2' := (hb2c g2 _ hg2).trans j2
   have hg2' : g2 < W1.heap.size := Nat.lt_of_lt_of_le hg2 HB1.out.size
   clear hR hk hb2c j0 j1 j2 k0 k1 k2 k3 k4
   refine wp_chain (S := Below W1.heap.size W1) 9 [([0, 1, 2, 3, 4, 5, 6], 7), ([], 8), ([], 9)] (by kernel_rfl) (by kernel_rfl) (by kernel_rfl) rfl (Below.drew (Below.refl _ _)) ?_
   refine ⟨?_, _, ?_, rfl, ?_⟩
   rotate_left
   ·repeat (refine ⟨_, ?_, rfl, Or.inl ⟨by rfl, ?_⟩, ?_⟩; rotate_left; focus (intro W hW; replace hW := (bcell hW).1; go_simp; try with_reducible rfl); (try simp only [SQ]))
    exact rfl
   go_wp2_with fail
   refine (rmul_calls _ _ _ f r.b (HFE2.out.of_below (Below.drew (Below.refl _ _))) (HBE2.out.of_below (Below.drew (Below.refl _ _)))).mono ?_
   rintro e w7 ⟨v, rfl, hv, hb⟩
   rw [← HPR.out] at hv
   obtain ⟨A7, n7, c7, A8, n8, c8, rfl, HV5⟩ := hv.opened
   have HB7 := Hd (below_next (Below.drew (Below.refl W1.heap.size W1)) hb)
   clear hv hb
   go_wp2_with fail
   refine And.intro HB7.out ⟨_, _, rfl, rfl, ?_⟩
   go_wp2_with fail
   refine (radd_calls _ _ _ _ _ (FR.of_fq (HR1.out.of_below HB7.out) (by rw [← HCAP.out]; exact capQ_size _)) (FR.of_fq HV5.out (capQ_size _))).mono ?_
   rintro e w8 ⟨v, rfl, hv, hb⟩
   have hpost : capQ (fixQ (rawQ sm) + fixQ (rawQ (capQ pr))) = dotStep sm pr := by
    rw [fixQ_raw _ (by rw [← HCAP.out]; exact capQ_size _), fixQ_raw _ (capQ_size _)]
    rfl
   rw [hpost] at hv
   obtain ⟨A9, n9, c9, A10, n10, c10, rfl, HV6⟩ := hv.opened
   have HB8 := Hd (below_next HB7.out hb)
   clear hv hb hpost
   go_wp2_with fail
   refine And.intro HB8.out ⟨_, _, rfl, rfl, ?_⟩
   have HA8 := Hd (HA6.out.step HB8.out)
   obtain ⟨_, _, _, _, _, _, hk5, _⟩ := HA8.out
   obtain ⟨y0, y1, y2⟩ := hk5.c3
   obtain ⟨f0, f1, f2⟩ := hk5.f3
   clear hk5
   go_wp2_with fail
   refine NoPanic.normal ?_
   go_wp2_with fail
   go_roundw
   case rel => exact ⟨j + 1, by omega, by go_num, by rw [HNX.out]; exact HA8.out.put HV6.out, (HK6.out.step HB8.out).other3 (by omega) (by simp; omega) _ _ _⟩
   case measure => simp [intOf]; omega
  ·obtain rfl : j = p.rows.length := by omega
   have hly := HLEN.out
   have hzl : ds.take p.rows.length = ds := List.take_of_length_le (by rw [HDS.out]; unfold worL; rw [List.length_zipWith, List.length_map]; omega)
   have HCQ : Hid (ds.foldl dotStep 0 = sm) := by unfold Hid; rw [HSM.out, hzl]
   clear hzl hly
   obtain ⟨E5, k5, f5, E6, k6, f6, hk, hR⟩ := HA5.out
   have HR1 := Hd hR
   obtain ⟨a0, a1, a2⟩ := hk.c3
   clear hR hk
   obtain ⟨e0, e1, e2⟩ := (HK5.out.blk 0 rfl).c3
   obtain ⟨f0, f1, f2⟩ := (HK5.out.blk 0 rfl).f3
   go_wp2_with fail
   rw [HCQ.out]
   exact end40 Tryz.results59 rfl (HK5.out.blk 0 rfl) HR1.out (by omega) HK5.out.2
noncomputable def rrowGoes (x : List Rat) (r : RowF) : Bool := rholdsB r.s (rdotQ (r.a.map fixQ) x) 0
noncomputable def rgoesB (p : ProgF) (x : List RawF) : Bool := decide ((x.length : Int) = p.vars) && (signedB p.free (x.map fixQ) && (p.rows.all (rrowGoes (x.map fixQ)) && decide (signQ (rdotQ (p.goal.map fixQ) (x.map fixQ)) > 0)))
theorem rholds0_calls (w : World) (s : Int) (v v2 : Value) (f : RawF) (h : FR w v f) (h2 : FQ w v2 0) : Calls Tryz.prog 91 #[v, .int .i64 s, v2] w fun e w' => BPost w (rholdsB s (fixQ f) 0) e w' := by
 have := rholds_calls w s v v2 f (rawQ 0) h (FR.of_fq h2 (by rw [sizeQ_zero]; decide))
 rw [fixQ_zero] at this
 exact this
set_option maxHeartbeats 16000000 in
set_option maxRecDepth 100000 in
theorem rgoes_calls (w : World) (v v2 : Value) (p : ProgF) (x : List RawF) (h : PR w v p) (h2 : FL w v2 x) (hr : rightP p = 0) : Calls Tryz.prog 50 #[v, v2] w fun e w' => BPost w (rgoesB p x) e w' := by
 have hrl := rightP_len hr
 clear hr
 have HP := Hd h
 obtain ⟨A1, c1, A2, c2, A3, c3, rfl, HI, H1, H2, H3⟩ := h.opened
 obtain ⟨A4, c4, rfl, hc4⟩ := h2.slice
 have HX := Hd h2
 clear h h2
 obtain ⟨vars, hv⟩ : ∃ n, n = p.vars := ⟨_, rfl⟩
 rw [← hv] at HP ⊢
 have HV := Hd hv
 clear hv
 go_enter Tryz.func50, Tryz.ntmps50
 have hfl : (p.free.length : Int) = vars := by rw [HV.out]; exact hrl.1
 have hvl : vars ≤ 160 := by rw [HV.out]; exact hrl.2.2.2.1
 have hrw : p.rows.length ≤ 400 := hrl.2.2.2.2.1
 have HROW : Hid (∀ (r : RowF), r ∈ p.rows → (r.a.length : Int) = vars) := by unfold Hid; rw [HV.out]; exact fun r hm => (hrl.2.2.2.2.2 r hm).1
 have hgl : p.goal.length ≤ 100000 := by have := hrl.2.1; have := hrl.2.2.2.1; omega
 clear hrl
 by_cases q2 : (x.length : Int) = vars
 case neg =>
  have u2 : ((x.length : Int) != vars) = true := bneI q2
  have HE : Hid (rgoesB p x = false) := by unfold Hid rgoesB; rw [decide_eq_false (by rw [← HV.out]; exact q2)]; rfl
  clear q2 hfl
  go_wp2_with fail
  go_ret
  exact ⟨by rw [HE.out]; rfl, below_new w _⟩
 have u2 : ((x.length : Int) != vars) = false := beqI q2
 have HE1 : Hid (rgoesB p x = (signedB p.free (x.map fixQ) && (p.rows.all (rrowGoes (x.map fixQ)) && decide (signQ (rdotQ (p.goal.map fixQ) (x.map fixQ)) > 0)))) := by unfold Hid rgoesB; rw [decide_eq_true (by rw [← HV.out]; exact q2)]; rfl
 have hxl : x.length ≤ 100000 := by omega
 have hl : x.length = p.free.length := by omega
 have HXF := Hd hl
 clear q2 hfl hl
 go_wp2_with fail
 have H0 := Hd (HS.one (w := w) #[.int .i64 vars, .slice A1 p.free.length c1, .slice A2 p.goal.length c2, .slice A3 p.rows.length c3] 26)
 generalize w.alloc (.cells #[.int .i64 vars, .slice A1 p.free.length c1, .slice A2 p.goal.length c2, .slice A3 p.rows.length c3] 26) = W0 at *
 go_loopw [16] (fun vi wr => ∃ i : Nat, i ≤ x.length ∧ vi = .int .i64 (i : Int) ∧ (∀ (j : Nat) (b : Bool) (q : Rat), j < i → p.free[j]? = some b → (x.map fixQ)[j]? = some q → (b || !decide (signQ q < 0)) = true) ∧ HS w [(w.heap.size, 26, #[.int .i64 vars, .slice A1 p.free.length c1, .slice A2 p.goal.length c2, .slice A3 p.rows.length c3])] wr) (fun vi _ => x.length - (intOf vi).toNat)
 case atStart => exact ⟨0, Nat.zero_le _, rfl, fun j _ _ h => absurd h (Nat.not_lt_zero _), H0.out⟩
 case round =>
  obtain ⟨i, hi, rfl, hall, hk⟩ := hrel
  have HA := Hd hall
  have HK := Hd hk
  clear hall hk
  by_cases hlt : i < x.length
  ·obtain ⟨f, hf⟩ : ∃ f, x[i]? = some f := ⟨x[i], List.getElem?_eq_getElem hlt⟩
   obtain ⟨b, hbf⟩ : ∃ b, p.free[i]? = some b := ⟨p.free[i], List.getElem?_eq_getElem (by have := HXF.out; omega)⟩
   obtain ⟨g, o, B1, n1, d1, B2, n2, d2, rfl, hg, k0, k1, k2, HE⟩ := FL.at3 (HX.out.below EF.stays HK.out.2) hf
   obtain ⟨g2, o2, rfl, hg2, kb⟩ := BL.at1 (H1.out.below EB.stays HK.out.2) hbf
   have HXI : Hid ((x.map fixQ)[i]? = some (fixQ f)) := by unfold Hid; rw [List.getElem?_map, hf]; rfl
   have HFI := Hd hbf
   clear hf hbf
   have m1 : (i : Int) < (x.length : Int) := by omega
   have m2 : (i : Int) < (p.free.length : Int) := by have := HXF.out; omega
   have m3 : (i : Int).toNat = i := by omega
   have m4 : (0 : Int) ≤ (i : Int) := by omega
   obtain ⟨x0, x1, x2, x3⟩ := HK.out.c4 0 rfl
   have hz := (HK.out.blk 0 rfl).lt
   have fin : ∀ wz, Below wr.heap.size wr wz → (b || !decide (signQ (fixQ f) < 0)) = true → (∃ i', i' ≤ x.length ∧ Value.int .i64 ((i : Int) + 1) = .int .i64 (i' : Int) ∧ (∀ (j : Nat) (b : Bool) (q : Rat), j < i' → p.free[j]? = some b → (x.map fixQ)[j]? = some q → (b || !decide (signQ q < 0)) = true) ∧ HS w [(w.heap.size, 26, #[.int .i64 vars, .slice (some ⟨g2, o2, none⟩) p.free.length c1, .slice A2 p.goal.length c2, .slice A3 p.rows.length c3])] wz) := fun wz hbz hgood => by
    refine ⟨i + 1, by omega, by go_num, fun j b' q' hj hb' hq' => ?_, HK.out.step hbz⟩
    by_cases hji : j = i
    ·subst hji
     rw [HFI.out] at hb'
     rw [HXI.out] at hq'
     injection hb' with e1
     injection hq' with e2
     rw [← e1, ← e2]
     exact hgood
    ·exact HA.out j b' q' (by omega) hb' hq'
   have HFin := Hd fin
   clear fin
   cases b with
   | true =>
    go_wp2_with fail
    go_roundw
    case rel => exact HFin.out _ (below_new _ _) rfl
    case measure => simp [intOf]; omega
   | false =>
    go_wp2_with fail
    have hb1 := below_new wr (.cells #[.bool f.neg, .slice B1 n1 d1, .slice B2 n2 d2] 46)
    refine (rsign_calls _ _ f (HE.out.of_below hb1)).mono ?_
    rintro e w2 ⟨rfl, hb2⟩
    have HB := Hd (below_next hb1 hb2)
    clear hb1 hb2
    by_cases q1 : signQ (fixQ f) < 0
    ·have u1 : decide (signQ (fixQ f) < 0) = true := decide_eq_true q1
     have HE2 : Hid (rgoesB p x = false) := by unfold Hid; rw [HE1.out, signedB_false HFI.out HXI.out (by rw [decide_eq_true q1]; rfl)]; rfl
     clear q1
     go_wp2_with fail
     go_ret
     exact ⟨by rw [HE2.out]; rfl, (HK.out.step HB.out).2⟩
    ·have u1 : decide (signQ (fixQ f) < 0) = false := decide_eq_false q1
     have HG : Hid ((false || !decide (signQ (fixQ f) < 0)) = true) := by unfold Hid; rw [decide_eq_false q1]; rfl
     clear q1
     go_wp2_with fail
     go_roundw
     case rel => exact HFin.out _ HB.out HG.out
     case measure => simp [intOf]; omega
  ·obtain rfl : i = x.length := by omega
   have HE2 : Hid (rgoesB p x = (p.rows.all (rrowGoes (x.map fixQ)) && decide (signQ (rdotQ (p.goal.map fixQ) (x.map fixQ)) > 0))) := by unfold Hid; rw [HE1.out, signedB_true (free := p.free) (x := x.map fixQ) fun j b q h1 h2 => HA.out j b q (by have := (List.getElem?_eq_some_iff.1 h2).1; simpa using this) h1 h2]; rfl
   obtain ⟨wo, hwo⟩ : ∃ wo, wo = wr := ⟨_, rfl⟩
   rw [← hwo] at HK ⊢
   obtain ⟨x0, x1, x2, x3⟩ := HK.out.c4 0 rfl
   clear hwo HA H0
   go_wp2_with fail
   clear x0 x1 x2 x3
   go_loopw [36] (fun vi wr => ∃ i : Nat, i ≤ p.rows.length ∧ vi = .int .i64 (i : Int) ∧ (∀ (j : Nat) (r : RowF), j < i → p.rows[j]? = some r → rrowGoes (x.map fixQ) r = true) ∧ HS w [(w.heap.size, 26, #[.int .i64 vars, .slice A1 p.free.length c1, .slice A2 p.goal.length c2, .slice A3 p.rows.length c3])] wr) (fun vi _ => p.rows.length - (intOf vi).toNat)
   case atStart => exact ⟨0, Nat.zero_le _, rfl, fun j _ h => absurd h (Nat.not_lt_zero _), HK.out⟩
   case round =>
    obtain ⟨i, hi, rfl, hall, hk⟩ := hrel
    have HA := Hd hall
    have HK := Hd hk
    clear hall hk
    by_cases hlt : i < p.rows.length
    ·obtain ⟨r, hr⟩ : ∃ r, p.rows[i]? = some r := ⟨p.rows[i], List.getElem?_eq_getElem hlt⟩
     obtain ⟨g, o, B1, d1, B2, n2, d2, B3, n3, d3, rfl, hg, k0, k1, k2, k3, k4, HI', HA', HB'⟩ := RL.at5 (H3.out.below ER.stays HK.out.2) hr
     have hrl : r.a.length ≤ 100000 := by have := HROW.out r (List.mem_of_getElem? hr); omega
     have HRR := Hd hr
     clear hr
     have m1 : (i : Int) < (p.rows.length : Int) := by omega
     have m3 : (i : Int).toNat = i := by omega
     have m4 : (0 : Int) ≤ (i : Int) := by omega
     obtain ⟨s, hs⟩ : ∃ s, s = r.s := ⟨_, rfl⟩
     rw [← hs] at k1
     have HSE := Hd hs
     clear hs
     go_wp2_with fail
     have hb1 := below_new wr (.cells #[.slice B1 r.a.length d1, .int .i64 s, .bool r.b.neg, .slice B2 n2 d2, .slice B3 n3 d3] 73)
     have hk1 := Blk.new wr 73 #[.slice B1 r.a.length d1, .int .i64 s, .bool r.b.neg, .slice B2 n2 d2, .slice B3 n3 d3]
     have HB1 := Hd hb1
     have z0 := hk1.cell (j := 0) rfl
     have z1 := hk1.cell (j := 1) rfl
     have z2 := hk1.cell (j := 2) rfl
     have z3 := hk1.cell (j := 3) rfl
     have z4 := hk1.cell (j := 4) rfl
     have hz := hk1.lt
     generalize wr.alloc (.cells #[.slice B1 r.a.length d1, .int .i64 s, .bool r.b.neg, .slice B2 n2 d2, .slice B3 n3 d3] 73) = W1 at *
     clear hk1 hb1
     refine wp_chainS (S := Below W1.heap.size W1) [([0, 1, 2, 4, 5], 3), ([], 6), ([], 7)] [8] (by kernel_rfl) (by kernel_rfl) (by kernel_rfl) rfl (Below.drew (Below.refl _ _)) ?_
     refine ⟨?_, _, ?_, rfl, ?_⟩
     rotate_left
     ·repeat (refine ⟨_, ?_, rfl, Or.inl ⟨by rfl, ?_⟩, ?_⟩; rotate_left; focus (intro W hW; replace hW := (bcell hW).1; go_simp; try with_reducible rfl); (try simp only [SQ]))
      exact rfl
     have hbd : Below W1.heap.size W1 W1.drew := Below.drew (Below.refl _ _)
     have hbx := below_next HB1.out hbd
     have HBX := Hd hbx
     go_wp2_with fail
     refine (rdot_calls _ _ _ r.a x (HA'.out.below EF.stays HBX.out) (HX.out.below EF.stays (HK.out.step HBX.out).2) hrl hxl).mono ?_
     rintro e w7 ⟨v, rfl, hv, hb⟩
     obtain ⟨A5, n5, c5, A6, n6, c6, rfl, HV5⟩ := hv.opened
     have HB7 := Hd (below_next hbd hb)
     have HB17 := Hd (below_next HB1.out HB7.out)
     clear hv hb hbd hbx
     go_wp2_with fail
     refine And.intro HB7.out ⟨_, _, rfl, rfl, ?_⟩
     go_wp2_with fail
     refine (rwhole0_calls _).mono ?_
     rintro e w9 ⟨v, rfl, hv, hb⟩
     obtain ⟨A7, n7, c7, A8, n8, c8, rfl, HV9⟩ := hv.opened
     have HV59 := Hd (HV5.out.of_below hb)
     have HB9 := Hd (below_next HB7.out hb)
     clear hv hb
     go_wp2_with fail
     refine And.intro HB9.out ⟨_, _, rfl, rfl, ?_⟩
     go_wp2_with fail
     refine (rholds0_calls _ s _ _ _ (FR.of_fq HV59.out (rdotQ_size _ _)) HV9.out).mono ?_
     rintro e w8 ⟨rfl, hb⟩
     have HB8 := Hd (below_next HB9.out hb)
     have HB18 := Hd (below_next HB1.out HB8.out)
     have HH : Hid (rholdsB s (fixQ (rawQ (rdotQ (r.a.map fixQ) (x.map fixQ)))) 0 = rrowGoes (x.map fixQ) r) := by unfold Hid rrowGoes; rw [fix_rdot, HSE.out]
     rw [HH.out]
     clear hb
     go_wp2_with fail
     refine And.intro HB8.out ⟨?_, ?_, ?_⟩
     rotate_left
     ·repeat (refine ⟨_, ?_, rfl, Or.inl ⟨by rfl, ?_⟩, ?_⟩; rotate_left; focus (intro W hW; replace hW := (bcell hW).1; go_simp; try with_reducible rfl); (try simp only [SQ]))
      exact rfl
     refine NoPanic.normal ?_
     cases hb : rrowGoes (x.map fixQ) r with
     | false =>
      have HE3 : Hid (rgoesB p x = false) := by unfold Hid; rw [HE2.out, all_false HRR.out hb]; rfl
      clear hb
      go_wp2_with fail
      go_ret
      exact ⟨by rw [HE3.out]; rfl, (HK.out.step HB18.out).2⟩
     | true =>
      have HG := Hd hb
      clear hb
      go_wp2_with fail
      go_roundw
      case rel =>
       refine ⟨i + 1, by omega, by go_num, fun j r' hj hr' => ?_, HK.out.step HB18.out⟩
       by_cases hji : j = i
       ·rw [hji, HRR.out] at hr'
        injection hr' with e
        rw [← e]
        exact HG.out
       ·exact HA.out j r' (by omega) hr'
      case measure => simp [intOf]; omega
    ·obtain rfl : i = p.rows.length := by omega
     have HE3 : Hid (rgoesB p x = decide (signQ (rdotQ (p.goal.map fixQ) (x.map fixQ)) > 0)) := by unfold Hid; rw [HE2.out, all_true fun j r hr => HA.out j r (List.getElem?_eq_some_iff.1 hr).1 hr]; rfl
     obtain ⟨x0, x1, x2, x3⟩ := HK.out.c4 0 rfl
     go_wp2_with fail
     refine (rdot_calls _ _ _ p.goal x (H2.out.below EF.stays HK.out.2) (HX.out.below EF.stays HK.out.2) hgl hxl).mono ?_
     rintro e w7 ⟨v, rfl, hv, hb⟩
     obtain ⟨A7, n7, c7, A8, n8, c8, rfl, HV7⟩ := hv.opened
     have HK7 := Hd (HK.out.step hb)
     clear hv hb
     go_wp2_with fail
     refine (rsign_calls _ _ _ (FR.of_fq HV7.out (rdotQ_size _ _))).mono ?_
     rintro e w8 ⟨rfl, hb⟩
     rw [fix_rdot]
     have HK8 := Hd (HK7.out.step hb)
     clear hb
     go_wp2_with fail
     go_ret
     exact ⟨by rw [HE3.out]; rfl, HK8.out.2⟩
theorem rsignsB_len {p : ProgF} {y : List RawF} (h : rsignsB p y = true) : y.length = p.rows.length := by
 unfold rsignsB at h
 simp only [Bool.and_eq_true, decide_eq_true_eq] at h
 exact h.1
theorem rvalueP_size (p : ProgF) (x : List RawF) : sizeQ (rvalueP p x) ≤ 4096 := by
 unfold rvalueP
 split
 ·rw [sizeQ_zero]; decide
 ·exact rdotQ_size _ _
def zerosF (n : Nat) : List RawF := List.replicate n (rawQ 0)
noncomputable def rjudgeB (p : ProgF) (c : CertF) : Bool :=
 if rightP p ≠ 0 then false
 else if c.kind = 1 then rfitsP p c.x && (rsignsB p c.y && (coversB p c.y p.goal && decide (ordQ (worthQ p c.y) (rvalueP p c.x) = 0)))
 else if c.kind = 2 then rsignsB p c.y && (coversB p c.y (zerosF p.vars.toNat) && decide (signQ (worthQ p c.y) < 0))
 else if c.kind = 3 then rfitsP p c.x && rgoesB p c.ray
 else false
set_option maxHeartbeats 32000000 in
set_option maxRecDepth 100000 in
theorem rjudge_calls (w : World) (v v2 : Value) (p : ProgF) (c : CertF) (h : PR w v p) (h2 : CR w v2 c) (hlx : c.x.length ≤ 100000) (hly : c.y.length ≤ 100000) (hlr : c.ray.length ≤ 100000) : Calls Tryz.prog 15 #[v, v2] w fun e w' => BPost w (rjudgeB p c) e w' := by
 have HP := Hd h
 have HC := Hd h2
 obtain ⟨A1, c1, A2, c2, A3, c3, rfl, HI, H1, H2, H3⟩ := h.opened
 obtain ⟨B1, d1, B2, d2, B3, d3, rfl, HX, HY, HR⟩ := h2.opened
 clear h h2
 obtain ⟨vars, hv⟩ : ∃ n, n = p.vars := ⟨_, rfl⟩
 rw [← hv] at HP ⊢
 have HV := Hd hv
 obtain ⟨kd, hkd⟩ : ∃ k, k = c.kind := ⟨_, rfl⟩
 rw [← hkd] at HC ⊢
 have HKD := Hd hkd
 clear hv hkd
 go_enter Tryz.func15, Tryz.ntmps15
 go_wp2_with fail
 have H0 := Hd (HS.two (w := w) #[.int .i64 vars, .slice A1 p.free.length c1, .slice A2 p.goal.length c2, .slice A3 p.rows.length c3] #[.int .i64 kd, .slice B1 c.x.length d1, .slice B2 c.y.length d2, .slice B3 c.ray.length d3] 26 35)
 have hsz0 : ((w.alloc (.cells #[.int .i64 vars, .slice A1 p.free.length c1, .slice A2 p.goal.length c2, .slice A3 p.rows.length c3] 26)).alloc (.cells #[.int .i64 kd, .slice B1 c.x.length d1, .slice B2 c.y.length d2, .slice B3 c.ray.length d3] 35)).heap.size = w.heap.size + 2 := by simp
 generalize (w.alloc (.cells #[.int .i64 vars, .slice A1 p.free.length c1, .slice A2 p.goal.length c2, .slice A3 p.rows.length c3] 26)).alloc (.cells #[.int .i64 kd, .slice B1 c.x.length d1, .slice B2 c.y.length d2, .slice B3 c.ray.length d3] 35) = W0 at *
 refine (r2right_calls W0 _ p (HP.out.of_below H0.out.2)).mono ?_
 rintro e w1 ⟨rfl, hb⟩
 have K1 := Hd (H0.out.step hb)
 have hsz1 : w.heap.size + 2 ≤ w1.heap.size := by have := hb.size; omega
 obtain ⟨x0, x1, x2, x3⟩ := K1.out.c4 1 rfl
 obtain ⟨y0, y1, y2, y3⟩ := K1.out.c4 0 rfl
 clear hb hsz0
 by_cases q1 : rightP p = 0
 case neg =>
  have u1 : (rightP p != 0) = true := bneI q1
  have HE : Hid (rjudgeB p c = false) := by unfold Hid rjudgeB; rw [if_pos q1]
  clear q1
  go_wp2_with fail
  go_ret
  exact ⟨by rw [HE.out]; rfl, K1.out.2⟩
 have u1 : (rightP p != 0) = false := beqI q1
 have HR0 := Hd q1
 have hrl := rightP_len q1
 have hrw : p.rows.length ≤ 400 := hrl.2.2.2.2.1
 have HGV : Hid ((p.goal.length : Int) = p.vars) := hrl.2.1
 have hv1 : 1 ≤ vars := by rw [HV.out]; exact hrl.2.2.1
 have hv2 : vars ≤ 160 := by rw [HV.out]; exact hrl.2.2.2.1
 clear q1 hrl
 by_cases k1 : kd = 1
 ·have t1 : (kd == 1) = true := beqI' k1
  have HE1 : Hid (rjudgeB p c = (rfitsP p c.x && (rsignsB p c.y && (coversB p c.y p.goal && decide (ordQ (worthQ p c.y) (rvalueP p c.x) = 0))))) := by unfold Hid rjudgeB; rw [if_neg (by rw [HR0.out]; simp), if_pos (by rw [← HKD.out]; exact k1)]
  clear k1 hsz1 hv1 hv2
  cases hf : rfitsP p c.x with
  | false =>
   have HE2 : Hid (rjudgeB p c = false) := by unfold Hid; rw [HE1.out, hf]; rfl
   have l0 := (K1.out.blk 1 rfl).lt
   have l1 := (K1.out.blk 0 rfl).lt
   go_wp2_with fail
   refine wp_chainS (S := Below w1.heap.size w1) [([0, 1, 2], 3), ([4, 5, 6, 7], 8), ([9, 10, 11, 12, 13, 14, 15], 16), ([17, 18, 19, 20, 21, 23, 24, 25], 22), ([], 26), ([], 27)] [28, 29, 30] (by kernel_rfl) (by kernel_rfl) (by kernel_rfl) rfl (Below.drew (Below.refl _ _)) ?_
   refine ⟨?_, _, ?_, rfl, ?_⟩
   rotate_left
   ·(iterate 3 ((refine ⟨_, ?_, rfl, Or.inl ⟨by rfl, ?_⟩, ?_⟩; rotate_left; focus (intro W hW; replace hW := (bcell hW).1; go_simp; try with_reducible rfl)); (try simp only [SQ])))
    exact rfl
   have D0 : Hid (Below w1.heap.size w1 w1.drew) := Below.drew (Below.refl _ _)
   have E0 := Hd (HS.step K1.out D0.out)
   go_wp2_with fail
   refine (calls_to (rfits_calls _ _ _ p c.x (HP.out.of_below E0.out.2) (HX.out.below EF.stays E0.out.2)) hf).mono ?_
   rintro e w2 ⟨rfl, hb⟩
   have D2 := Hd (below_next D0.out hb)
   have E2 := Hd (HS.step K1.out D2.out)
   clear hb
   go_wp2_with fail
   refine And.intro D2.out ?_
   refine ⟨?_, _, ?_, rfl, ?_⟩
   rotate_left
   ·((refine ⟨_, ?_, rfl, Or.inl ⟨by rfl, ?_⟩, ?_⟩; rotate_left; focus (intro W hW; replace hW := (bcell hW).1; go_simp; try with_reducible rfl)); (try simp only [SQ])); (iterate 3 ((refine ⟨_, undef, rfl, Or.inr ⟨by kernel_rfl, rfl⟩, ?_⟩); (try simp only [SQ])))
    exact rfl
   refine chain_skip (by kernel_rfl) (And.intro D2.out ?_)
   (try simp only [SQ])
   refine ⟨?_, _, ?_, rfl, ?_⟩
   rotate_left
   ·(iterate 2 ((refine ⟨_, ?_, rfl, Or.inl ⟨by rfl, ?_⟩, ?_⟩; rotate_left; focus (intro W hW; replace hW := (bcell hW).1; go_simp; try with_reducible rfl)); (try simp only [SQ]))); (iterate 5 ((refine ⟨_, undef, rfl, Or.inr ⟨by kernel_rfl, rfl⟩, ?_⟩); (try simp only [SQ])))
    exact rfl
   refine chain_skip (by kernel_rfl) (And.intro D2.out ?_)
   (try simp only [SQ])
   refine ⟨?_, _, ?_, rfl, ?_⟩
   rotate_left
   ·(iterate 2 ((refine ⟨_, ?_, rfl, Or.inl ⟨by rfl, ?_⟩, ?_⟩; rotate_left; focus (intro W hW; replace hW := (bcell hW).1; go_simp; try with_reducible rfl)); (try simp only [SQ]))); (iterate 6 ((refine ⟨_, undef, rfl, Or.inr ⟨by kernel_rfl, rfl⟩, ?_⟩); (try simp only [SQ])))
    exact rfl
   refine chain_skip (by kernel_rfl) (And.intro D2.out ?_)
   (try simp only [SQ])
   refine ⟨_, _, rfl, rfl, ?_⟩
   refine chain_skip (by kernel_rfl) (And.intro D2.out ?_)
   (try simp only [SQ])
   refine ⟨_, _, rfl, rfl, ?_⟩
   refine chain_skip (by kernel_rfl) ?_
   refine And.intro D2.out ?_
   (try simp only [SQ])
   refine ⟨?_, ?_, ?_⟩
   rotate_left
   ·((refine ⟨_, undef, rfl, Or.inr ⟨by kernel_rfl, rfl⟩, ?_⟩); (try simp only [SQ])); (iterate 2 ((refine ⟨_, ?_, rfl, Or.inl ⟨by rfl, ?_⟩, ?_⟩; rotate_left; focus (intro W hW; replace hW := (bcell hW).1; go_simp; try with_reducible rfl)); (try simp only [SQ])))
    exact rfl
   refine NoPanic.normal ?_
   go_wp2_with fail
   go_ret
   exact ⟨by rw [HE2.out]; rfl, E2.out.2⟩
  | true =>
   cases hs0 : rsignsB p c.y with
   | false =>
    have HE2 : Hid (rjudgeB p c = false) := by unfold Hid; rw [HE1.out, hf, hs0]; rfl
    have l0 := (K1.out.blk 1 rfl).lt
    have l1 := (K1.out.blk 0 rfl).lt
    go_wp2_with fail
    refine wp_chainS (S := Below w1.heap.size w1) [([0, 1, 2], 3), ([4, 5, 6, 7], 8), ([9, 10, 11, 12, 13, 14, 15], 16), ([17, 18, 19, 20, 21, 23, 24, 25], 22), ([], 26), ([], 27)] [28, 29, 30] (by kernel_rfl) (by kernel_rfl) (by kernel_rfl) rfl (Below.drew (Below.refl _ _)) ?_
    refine ⟨?_, _, ?_, rfl, ?_⟩
    rotate_left
    ·(iterate 3 ((refine ⟨_, ?_, rfl, Or.inl ⟨by rfl, ?_⟩, ?_⟩; rotate_left; focus (intro W hW; replace hW := (bcell hW).1; go_simp; try with_reducible rfl)); (try simp only [SQ])))
     exact rfl
    have D0 : Hid (Below w1.heap.size w1 w1.drew) := Below.drew (Below.refl _ _)
    have E0 := Hd (HS.step K1.out D0.out)
    go_wp2_with fail
    refine (calls_to (rfits_calls _ _ _ p c.x (HP.out.of_below E0.out.2) (HX.out.below EF.stays E0.out.2)) hf).mono ?_
    rintro e w2 ⟨rfl, hb⟩
    have D2 := Hd (below_next D0.out hb)
    have E2 := Hd (HS.step K1.out D2.out)
    clear hb
    go_wp2_with fail
    refine And.intro D2.out ?_
    refine ⟨?_, _, ?_, rfl, ?_⟩
    rotate_left
    ·(iterate 4 ((refine ⟨_, ?_, rfl, Or.inl ⟨by rfl, ?_⟩, ?_⟩; rotate_left; focus (intro W hW; replace hW := (bcell hW).1; go_simp; try with_reducible rfl)); (try simp only [SQ])))
     exact rfl
    go_wp2_with fail
    refine (calls_to (rsigns_calls _ _ _ p c.y (HP.out.of_below E2.out.2) (HY.out.below EF.stays E2.out.2) HR0.out hly) hs0).mono ?_
    rintro e w3 ⟨rfl, hb⟩
    have D3 := Hd (below_next D2.out hb)
    have E3 := Hd (HS.step K1.out D3.out)
    clear hb
    go_wp2_with fail
    refine And.intro D3.out ?_
    refine ⟨?_, _, ?_, rfl, ?_⟩
    rotate_left
    ·(iterate 2 ((refine ⟨_, ?_, rfl, Or.inl ⟨by rfl, ?_⟩, ?_⟩; rotate_left; focus (intro W hW; replace hW := (bcell hW).1; go_simp; try with_reducible rfl)); (try simp only [SQ]))); (iterate 5 ((refine ⟨_, undef, rfl, Or.inr ⟨by kernel_rfl, rfl⟩, ?_⟩); (try simp only [SQ])))
     exact rfl
    refine chain_skip (by kernel_rfl) (And.intro D3.out ?_)
    (try simp only [SQ])
    refine ⟨?_, _, ?_, rfl, ?_⟩
    rotate_left
    ·(iterate 2 ((refine ⟨_, ?_, rfl, Or.inl ⟨by rfl, ?_⟩, ?_⟩; rotate_left; focus (intro W hW; replace hW := (bcell hW).1; go_simp; try with_reducible rfl)); (try simp only [SQ]))); (iterate 6 ((refine ⟨_, undef, rfl, Or.inr ⟨by kernel_rfl, rfl⟩, ?_⟩); (try simp only [SQ])))
     exact rfl
    refine chain_skip (by kernel_rfl) (And.intro D3.out ?_)
    (try simp only [SQ])
    refine ⟨_, _, rfl, rfl, ?_⟩
    refine chain_skip (by kernel_rfl) (And.intro D3.out ?_)
    (try simp only [SQ])
    refine ⟨_, _, rfl, rfl, ?_⟩
    refine chain_skip (by kernel_rfl) ?_
    refine And.intro D3.out ?_
    (try simp only [SQ])
    refine ⟨?_, ?_, ?_⟩
    rotate_left
    ·((refine ⟨_, undef, rfl, Or.inr ⟨by kernel_rfl, rfl⟩, ?_⟩); (try simp only [SQ])); (iterate 2 ((refine ⟨_, ?_, rfl, Or.inl ⟨by rfl, ?_⟩, ?_⟩; rotate_left; focus (intro W hW; replace hW := (bcell hW).1; go_simp; try with_reducible rfl)); (try simp only [SQ])))
     exact rfl
    refine NoPanic.normal ?_
    go_wp2_with fail
    go_ret
    exact ⟨by rw [HE2.out]; rfl, E3.out.2⟩
   | true =>
    cases hc0 : coversB p c.y p.goal with
    | false =>
     have HE2 : Hid (rjudgeB p c = false) := by unfold Hid; rw [HE1.out, hf, hs0, hc0]; rfl
     have l0 := (K1.out.blk 1 rfl).lt
     have l1 := (K1.out.blk 0 rfl).lt
     go_wp2_with fail
     refine wp_chainS (S := Below w1.heap.size w1) [([0, 1, 2], 3), ([4, 5, 6, 7], 8), ([9, 10, 11, 12, 13, 14, 15], 16), ([17, 18, 19, 20, 21, 23, 24, 25], 22), ([], 26), ([], 27)] [28, 29, 30] (by kernel_rfl) (by kernel_rfl) (by kernel_rfl) rfl (Below.drew (Below.refl _ _)) ?_
     refine ⟨?_, _, ?_, rfl, ?_⟩
     rotate_left
     ·(iterate 3 ((refine ⟨_, ?_, rfl, Or.inl ⟨by rfl, ?_⟩, ?_⟩; rotate_left; focus (intro W hW; replace hW := (bcell hW).1; go_simp; try with_reducible rfl)); (try simp only [SQ])))
      exact rfl
     have D0 : Hid (Below w1.heap.size w1 w1.drew) := Below.drew (Below.refl _ _)
     have E0 := Hd (HS.step K1.out D0.out)
     go_wp2_with fail
     refine (calls_to (rfits_calls _ _ _ p c.x (HP.out.of_below E0.out.2) (HX.out.below EF.stays E0.out.2)) hf).mono ?_
     rintro e w2 ⟨rfl, hb⟩
     have D2 := Hd (below_next D0.out hb)
     have E2 := Hd (HS.step K1.out D2.out)
     clear hb
     go_wp2_with fail
     refine And.intro D2.out ?_
     refine ⟨?_, _, ?_, rfl, ?_⟩
     rotate_left
     ·(iterate 4 ((refine ⟨_, ?_, rfl, Or.inl ⟨by rfl, ?_⟩, ?_⟩; rotate_left; focus (intro W hW; replace hW := (bcell hW).1; go_simp; try with_reducible rfl)); (try simp only [SQ])))
      exact rfl
     go_wp2_with fail
     refine (calls_to (rsigns_calls _ _ _ p c.y (HP.out.of_below E2.out.2) (HY.out.below EF.stays E2.out.2) HR0.out hly) hs0).mono ?_
     rintro e w3 ⟨rfl, hb⟩
     have D3 := Hd (below_next D2.out hb)
     have E3 := Hd (HS.step K1.out D3.out)
     clear hb
     go_wp2_with fail
     refine And.intro D3.out ?_
     refine ⟨?_, _, ?_, rfl, ?_⟩
     rotate_left
     ·(iterate 7 ((refine ⟨_, ?_, rfl, Or.inl ⟨by rfl, ?_⟩, ?_⟩; rotate_left; focus (intro W hW; replace hW := (bcell hW).1; go_simp; try with_reducible rfl)); (try simp only [SQ])))
      exact rfl
     go_wp2_with fail
     refine (calls_to (rcovers_calls _ _ _ p c.y (HP.out.of_below E3.out.2) (HY.out.below EF.stays E3.out.2) _ p.goal (H2.out.below EF.stays E3.out.2) HGV.out HR0.out hly (rsignsB_len hs0)) hc0).mono ?_
     rintro e w4 ⟨rfl, hb⟩
     have D4 := Hd (below_next D3.out hb)
     have E4 := Hd (HS.step K1.out D4.out)
     clear hb
     go_wp2_with fail
     refine And.intro D4.out ?_
     refine ⟨?_, _, ?_, rfl, ?_⟩
     rotate_left
     ·(iterate 2 ((refine ⟨_, ?_, rfl, Or.inl ⟨by rfl, ?_⟩, ?_⟩; rotate_left; focus (intro W hW; replace hW := (bcell hW).1; go_simp; try with_reducible rfl)); (try simp only [SQ]))); (iterate 6 ((refine ⟨_, undef, rfl, Or.inr ⟨by kernel_rfl, rfl⟩, ?_⟩); (try simp only [SQ])))
      exact rfl
     refine chain_skip (by kernel_rfl) (And.intro D4.out ?_)
     (try simp only [SQ])
     refine ⟨_, _, rfl, rfl, ?_⟩
     refine chain_skip (by kernel_rfl) (And.intro D4.out ?_)
     (try simp only [SQ])
     refine ⟨_, _, rfl, rfl, ?_⟩
     refine chain_skip (by kernel_rfl) ?_
     refine And.intro D4.out ?_
     (try simp only [SQ])
     refine ⟨?_, ?_, ?_⟩
     rotate_left
     ·((refine ⟨_, undef, rfl, Or.inr ⟨by kernel_rfl, rfl⟩, ?_⟩); (try simp only [SQ])); (iterate 2 ((refine ⟨_, ?_, rfl, Or.inl ⟨by rfl, ?_⟩, ?_⟩; rotate_left; focus (intro W hW; replace hW := (bcell hW).1; go_simp; try with_reducible rfl)); (try simp only [SQ])))
      exact rfl
     refine NoPanic.normal ?_
     go_wp2_with fail
     go_ret
     exact ⟨by rw [HE2.out]; rfl, E4.out.2⟩
    | true =>
     have HE2 : Hid (rjudgeB p c = decide (ordQ (worthQ p c.y) (rvalueP p c.x) = 0)) := by unfold Hid; rw [HE1.out, hf, hs0, hc0]; rfl
     have l0 := (K1.out.blk 1 rfl).lt
     have l1 := (K1.out.blk 0 rfl).lt
     go_wp2_with fail
     refine wp_chainS (S := Below w1.heap.size w1) [([0, 1, 2], 3), ([4, 5, 6, 7], 8), ([9, 10, 11, 12, 13, 14, 15], 16), ([17, 18, 19, 20, 21, 23, 24, 25], 22), ([], 26), ([], 27)] [28, 29, 30] (by kernel_rfl) (by kernel_rfl) (by kernel_rfl) rfl (Below.drew (Below.refl _ _)) ?_
     refine ⟨?_, _, ?_, rfl, ?_⟩
     rotate_left
     ·(iterate 3 ((refine ⟨_, ?_, rfl, Or.inl ⟨by rfl, ?_⟩, ?_⟩; rotate_left; focus (intro W hW; replace hW := (bcell hW).1; go_simp; try with_reducible rfl)); (try simp only [SQ])))
      exact rfl
     have D0 : Hid (Below w1.heap.size w1 w1.drew) := Below.drew (Below.refl _ _)
     have E0 := Hd (HS.step K1.out D0.out)
     go_wp2_with fail
     refine (calls_to (rfits_calls _ _ _ p c.x (HP.out.of_below E0.out.2) (HX.out.below EF.stays E0.out.2)) hf).mono ?_
     rintro e w2 ⟨rfl, hb⟩
     have D2 := Hd (below_next D0.out hb)
     have E2 := Hd (HS.step K1.out D2.out)
     clear hb
     go_wp2_with fail
     refine And.intro D2.out ?_
     refine ⟨?_, _, ?_, rfl, ?_⟩
     rotate_left
     ·(iterate 4 ((refine ⟨_, ?_, rfl, Or.inl ⟨by rfl, ?_⟩, ?_⟩; rotate_left; focus (intro W hW; replace hW := (bcell hW).1; go_simp; try with_reducible rfl)); (try simp only [SQ])))
      exact rfl
     go_wp2_with fail
     refine (calls_to (rsigns_calls _ _ _ p c.y (HP.out.of_below E2.out.2) (HY.out.below EF.stays E2.out.2) HR0.out hly) hs0).mono ?_
     rintro e w3 ⟨rfl, hb⟩
     have D3 := Hd (below_next D2.out hb)
     have E3 := Hd (HS.step K1.out D3.out)
     clear hb
     go_wp2_with fail
     refine And.intro D3.out ?_
     refine ⟨?_, _, ?_, rfl, ?_⟩
     rotate_left
     ·(iterate 7 ((refine ⟨_, ?_, rfl, Or.inl ⟨by rfl, ?_⟩, ?_⟩; rotate_left; focus (intro W hW; replace hW := (bcell hW).1; go_simp; try with_reducible rfl)); (try simp only [SQ])))
      exact rfl
     go_wp2_with fail
     refine (calls_to (rcovers_calls _ _ _ p c.y (HP.out.of_below E3.out.2) (HY.out.below EF.stays E3.out.2) _ p.goal (H2.out.below EF.stays E3.out.2) HGV.out HR0.out hly (rsignsB_len hs0)) hc0).mono ?_
     rintro e w4 ⟨rfl, hb⟩
     have D4 := Hd (below_next D3.out hb)
     have E4 := Hd (HS.step K1.out D4.out)
     clear hb
     go_wp2_with fail
     refine And.intro D4.out ?_
     refine ⟨?_, _, ?_, rfl, ?_⟩
     rotate_left
     ·(iterate 8 ((refine ⟨_, ?_, rfl, Or.inl ⟨by rfl, ?_⟩, ?_⟩; rotate_left; focus (intro W hW; replace hW := (bcell hW).1; go_simp; try with_reducible rfl)); (try simp only [SQ])))
      exact rfl
     go_wp2_with fail
     refine (rworth_calls _ _ _ p c.y (HP.out.of_below E4.out.2) (HY.out.below EF.stays E4.out.2) hrw hly (rsignsB_len hs0)).mono ?_
     rintro e w5 ⟨v, rfl, hv, hb⟩
     obtain ⟨A5, n5, c5, A6, n6, c6, rfl, HV1⟩ := hv.opened
     have D5 := Hd (below_next D4.out hb)
     have E5 := Hd (HS.step K1.out D5.out)
     clear hv hb
     go_wp2_with fail
     refine And.intro D5.out ⟨_, _, rfl, rfl, ?_⟩
     go_wp2_with fail
     refine (r2value_calls _ _ _ p c.x (HP.out.of_below E5.out.2) (HX.out.below EF.stays E5.out.2)).mono ?_
     rintro e w6 ⟨v, rfl, hv, hb⟩
     obtain ⟨A7, n7, c7, A8, n8, c8, rfl, HV2⟩ := hv.opened
     have HV1' := Hd (HV1.out.of_below hb)
     have D6 := Hd (below_next D5.out hb)
     clear hv hb
     go_wp2_with fail
     refine And.intro D6.out ⟨_, _, rfl, rfl, ?_⟩
     go_wp2_with fail
     refine (rcmp_calls _ _ _ _ _ (FR.of_fq HV1'.out (worthQ_size _ _)) (FR.of_fq HV2.out (rvalueP_size _ _))).mono ?_
     rintro e w7 ⟨rfl, hb⟩
     have e1 : fixQ (rawQ (worthQ p c.y)) = worthQ p c.y := fixQ_raw _ (worthQ_size _ _)
     have e2 : fixQ (rawQ (rvalueP p c.x)) = rvalueP p c.x := fixQ_raw _ (rvalueP_size _ _)
     rw [e1, e2]
     have D7 := Hd (below_next D6.out hb)
     have E7 := Hd (HS.step K1.out D7.out)
     clear hb e1 e2
     go_wp2_with fail
     refine And.intro D7.out ⟨?_, ?_, ?_⟩
     rotate_left
     ·(iterate 3 ((refine ⟨_, ?_, rfl, Or.inl ⟨by rfl, ?_⟩, ?_⟩; rotate_left; focus (intro W hW; replace hW := (bcell hW).1; go_simp; try with_reducible rfl)); (try simp only [SQ])))
      exact rfl
     refine NoPanic.normal ?_
     go_wp2_with fail
     go_ret
     exact ⟨by rw [HE2.out]; rfl, E7.out.2⟩
 have t1 : (kd == 1) = false := bneI' k1
 by_cases k2 : kd = 2
 ·have t2 : (kd == 2) = true := beqI' k2
  have HE1 : Hid (rjudgeB p c = (rsignsB p c.y && (coversB p c.y (zerosF p.vars.toNat) && decide (signQ (worthQ p c.y) < 0)))) := by unfold Hid rjudgeB; rw [if_neg (by rw [HR0.out]; simp), if_neg (by rw [← HKD.out]; exact k1), if_pos (by rw [← HKD.out]; exact k2)]
  clear k1 k2
  obtain ⟨n, hn⟩ : ∃ n : Nat, vars = (n : Int) := ⟨vars.toNat, by omega⟩
  subst hn
  have HVN : Hid (p.vars.toNat = n) := by unfold Hid; rw [← HV.out]; omega
  go_wp2_with fail
  clear x0 x1 x2 x3 y0 y1 y2 y3
  go_loopw [5, 6] (fun v5 vi wr => ∃ i : Nat, i ≤ n ∧ vi = .int .i64 (i : Int) ∧ OL 3 46 EF (w.heap.size + 2) wr v5 (zerosF i) ∧ w.heap.size + 2 ≤ wr.heap.size ∧ HS w [(w.heap.size + 1, 35, #[.int .i64 kd, .slice B1 c.x.length d1, .slice B2 c.y.length d2, .slice B3 c.ray.length d3]), (w.heap.size, 26, #[.int .i64 (n : Int), .slice A1 p.free.length c1, .slice A2 p.goal.length c2, .slice A3 p.rows.length c3])] wr) (fun _ vi _ => n - (intOf vi).toNat)
  case atStart => exact ⟨0, Nat.zero_le _, rfl, OL.nil _ _ _ _ _, hsz1, K1.out⟩
  case round =>
   obtain ⟨i, hi, rfl, hol, hsz2, hs⟩ := hrel
   have HOL := Hd hol
   have HK := Hd hs
   obtain ⟨A5, c5, hv5, _⟩ := hol.slice
   rw [show (zerosF i).length = i from List.length_replicate] at hv5
   subst hv5
   clear hol hs
   obtain ⟨x0, x1, x2, x3⟩ := HK.out.c4 1 rfl
   obtain ⟨y0, y1, y2, y3⟩ := HK.out.c4 0 rfl
   have l0 := (HK.out.blk 1 rfl).lt
   have l1 := (HK.out.blk 0 rfl).lt
   by_cases hlt : i < n
   ·have m1 : (i : Int) < (n : Int) := by omega
    go_wp2_with fail
    refine (rwhole0_calls wr).mono ?_
    rintro e w2 ⟨v, rfl, hv, hb⟩
    obtain ⟨A6, n6, c6, A7, n7, c7, rfl, HVZ⟩ := hv.opened
    have HOL2 := Hd (HOL.out.below EF.stays hb)
    have HK2 := Hd (HK.out.step hb)
    have hsz3 : w.heap.size + 2 ≤ w2.heap.size := by have := hb.size; omega
    have hll : (zerosF i).length ≤ 1000000000 := by rw [show (zerosF i).length = i from List.length_replicate]; omega
    clear hv hb x0 x1 x2 x3 y0 y1 y2 y3
    go_wp2_with (at_builtin; refine wpl_appendF rfl (.tmp 52) (.tmp 54) rfl (base := w.heap.size + 2) (.slice A5 i c5) (zerosF i) rfl (HOL2.out.below EF.stays (below_new _ _)) (rawQ 0) rfl (Blk.newAt (by simp)) (FR.of_fq (HVZ.out.of_below (below_new _ _)) (by rw [sizeQ_zero]; decide)) hll (by simp; omega) ?_; intro v6 w6 hown6 hg6 hk6 hb6)
    have HOL6 := Hd hown6
    have HK6 := Hd (HS.grown (HK2.out.step (below_new _ _)) hg6 (fun b hm e => by
     have := (HOL2.out.lt b.1 e.symm).1
     simp only [List.mem_cons, List.not_mem_nil, or_false] at hm
     rcases hm with rfl | rfl <;> (simp only at this; omega)) (fun g e => by have := (HOL2.out.lt g e).1; omega))
    have hsz6 : w.heap.size + 2 ≤ w6.heap.size := by have := hk6.1; simp at this; omega
    have HNX : Hid (zerosF (i + 1) = zerosF i ++ [rawQ 0]) := List.replicate_succ'
    clear hown6 hg6 hk6 hb6
    go_wp2_with fail
    go_roundw
    case rel => exact ⟨i + 1, by omega, by go_num, by rw [HNX.out]; exact HOL6.out, hsz6, HK6.out⟩
    case measure => simp [intOf]; omega
   ·obtain rfl : i = n := by omega
    have HFL := Hd HOL.out.sl
    have HZL : Hid (((zerosF i).length : Int) = p.vars) := by unfold Hid; rw [show (zerosF i).length = i from List.length_replicate, ← HV.out]
    obtain ⟨wo, hwo⟩ : ∃ wo, wo = wr := ⟨_, rfl⟩
    rw [← hwo] at HK HFL l0 l1 x0 x1 x2 x3 y0 y1 y2 y3 ⊢
    clear hwo hlt HOL hsz1 hsz2 K1
    go_wp2_with fail
    refine (rsigns_calls wo _ _ p c.y (HP.out.of_below HK.out.2) (HY.out.below EF.stays HK.out.2) HR0.out hly).mono ?_
    rintro e w2 ⟨rfl, hb⟩
    have K2 := Hd (HK.out.step hb)
    have HFL2 := Hd (HFL.out.below EF.stays hb)
    obtain ⟨x0, x1, x2, x3⟩ := K2.out.c4 1 rfl
    obtain ⟨y0, y1, y2, y3⟩ := K2.out.c4 0 rfl
    clear hb
    cases hs0 : rsignsB p c.y with
    | false =>
     have HE2 : Hid (rjudgeB p c = false) := by unfold Hid; rw [HE1.out, hs0]; rfl
     clear hs0
     go_wp2_with fail
     go_ret
     exact ⟨by rw [HE2.out]; rfl, K2.out.2⟩
    | true =>
     have HS0 := Hd hs0
     clear hs0
     go_wp2_with fail
     refine (rcovers_calls w2 _ _ p c.y (HP.out.of_below K2.out.2) (HY.out.below EF.stays K2.out.2) _ (zerosF i) HFL2.out HZL.out HR0.out hly (rsignsB_len HS0.out)).mono ?_
     rintro e w3 ⟨rfl, hb⟩
     have K3 := Hd (K2.out.step hb)
     obtain ⟨x0, x1, x2, x3⟩ := K3.out.c4 1 rfl
     obtain ⟨y0, y1, y2, y3⟩ := K3.out.c4 0 rfl
     clear hb
     cases hc0 : coversB p c.y (zerosF i) with
     | false =>
      have HE2 : Hid (rjudgeB p c = false) := by unfold Hid; rw [HE1.out, HS0.out, HVN.out, hc0]; rfl
      clear hc0
      go_wp2_with fail
      go_ret
      exact ⟨by rw [HE2.out]; rfl, K3.out.2⟩
     | true =>
      have HE2 : Hid (rjudgeB p c = decide (signQ (worthQ p c.y) < 0)) := by unfold Hid; rw [HE1.out, HS0.out, HVN.out, hc0]; rfl
      clear hc0
      go_wp2_with fail
      refine (rworth_calls w3 _ _ p c.y (HP.out.of_below K3.out.2) (HY.out.below EF.stays K3.out.2) hrw hly (rsignsB_len HS0.out)).mono ?_
      rintro e w4 ⟨v, rfl, hv, hb⟩
      obtain ⟨A6, n6, c6, A7, n7, c7, rfl, HV1⟩ := hv.opened
      have K4 := Hd (K3.out.step hb)
      clear hv hb
      go_wp2_with fail
      refine (rsign_calls _ _ _ (FR.of_fq HV1.out (worthQ_size _ _))).mono ?_
      rintro e w5 ⟨rfl, hb⟩
      rw [fixQ_raw _ (worthQ_size _ _)]
      have K5 := Hd (K4.out.step hb)
      clear hb
      go_wp2_with fail
      go_ret
      exact ⟨by rw [HE2.out]; rfl, K5.out.2⟩
 have t2 : (kd == 2) = false := bneI' k2
 clear hsz1 hv1 hv2
 by_cases k3 : kd = 3
 ·have t3 : (kd == 3) = true := beqI' k3
  have HE1 : Hid (rjudgeB p c = (rfitsP p c.x && rgoesB p c.ray)) := by unfold Hid rjudgeB; rw [if_neg (by rw [HR0.out]; simp), if_neg (by rw [← HKD.out]; exact k1), if_neg (by rw [← HKD.out]; exact k2), if_pos (by rw [← HKD.out]; exact k3)]
  clear k1 k2 k3
  go_wp2_with fail
  refine (rfits_calls w1 _ _ p c.x (HP.out.of_below K1.out.2) (HX.out.below EF.stays K1.out.2)).mono ?_
  rintro e w2 ⟨rfl, hb⟩
  have K2 := Hd (K1.out.step hb)
  obtain ⟨x0, x1, x2, x3⟩ := K2.out.c4 1 rfl
  obtain ⟨y0, y1, y2, y3⟩ := K2.out.c4 0 rfl
  clear hb
  cases hb0 : rfitsP p c.x with
  | false =>
   have HE2 : Hid (rjudgeB p c = false) := by unfold Hid; rw [HE1.out, hb0]; rfl
   clear hb0
   go_wp2_with fail
   go_ret
   exact ⟨by rw [HE2.out]; rfl, K2.out.2⟩
  | true =>
   have HE2 : Hid (rjudgeB p c = rgoesB p c.ray) := by unfold Hid; rw [HE1.out, hb0]; rfl
   clear hb0
   go_wp2_with fail
   refine (rgoes_calls w2 _ _ p c.ray (HP.out.of_below K2.out.2) (HR.out.below EF.stays K2.out.2) HR0.out).mono ?_
   rintro e w3 ⟨rfl, hb⟩
   have K3 := Hd (K2.out.step hb)
   clear hb
   go_wp2_with fail
   go_ret
   exact ⟨by rw [HE2.out]; rfl, K3.out.2⟩
 have t3 : (kd == 3) = false := bneI' k3
 have HE1 : Hid (rjudgeB p c = false) := by unfold Hid rjudgeB; rw [if_neg (by rw [HR0.out]; simp), if_neg (by rw [← HKD.out]; exact k1), if_neg (by rw [← HKD.out]; exact k2), if_neg (by rw [← HKD.out]; exact k3)]
 clear k1 k2 k3
 go_wp2_with fail
 go_ret
 exact ⟨by rw [HE1.out]; rfl, K1.out.2⟩
end Go.Proofs.YtfhambfgjigneaaGreat

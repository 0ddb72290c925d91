/- Contracts of Go functions that the statement reaches, proved by walking their text, and plain laws over them (texts put together). -/
import Derived.Test.YtfhambfgjigneaaGreatKT10
import Derived.Test.YtfhambfgjigneaaGreatKT9
set_option linter.unusedVariables false
set_option linter.unusedSimpArgs false
namespace Go.Proofs.YtfhambfgjigneaaGreat
open Go.RowKit
theorem signQ_ord (q : Rat) : signQ q = ordQ q 0 := by
 unfold signQ ordQ
 by_cases h : q = 0
 ·subst h; rfl
 ·rw [if_neg (fun h0 => h (Rat.num_eq_zero.1 h0)), if_neg h]
  have e : q.num < 0 ↔ q < 0 := by
   have := @Rat.num_nonneg q
   constructor
   ·intro h1; exact Rat.not_le.1 (fun h2 => by have := this.2 h2; omega)
   ·intro h1; exact Int.not_le.1 (fun h2 => Rat.not_le.2 h1 (this.1 h2))
  by_cases h1 : q < 0
  ·rw [if_pos h1, if_pos (e.2 h1)]
  ·rw [if_neg h1, if_neg (fun h2 => h1 (e.1 h2))]
theorem signQ_sub (a b : Rat) : signQ (a + -b) = ordQ a b := by
 rw [signQ_ord]
 unfold ordQ
 have e0 : a + -b = 0 ↔ a = b := by grind
 have e1 : a + -b < 0 ↔ a < b := by grind
 simp only [e0, e1]
theorem fit_nth {n : Nat} {fs : List RawF} (h : wordsB fs n = true) (hn : 1 ≤ n) (v : Nat) : FitQ n (fixQ (nthF fs v)) := by
 unfold nthF
 rw [List.getD_eq_getElem?_getD]
 cases hx : fs[v]? with
 | none => exact fit_words (f := ⟨false, [], []⟩) (by simp [wordF]) hn
 | some f => exact fit_words (List.all_eq_true.1 h f (List.mem_of_getElem? hx)) hn
theorem fit_zipf {α : Type} {k1 k2 : Nat} {f : α → Rat} : ∀ (rows : List α) (ys : List Rat), (∀ r ∈ rows, FitQ k1 (f r)) → (∀ q ∈ ys, FitQ k2 q) → ∀ q ∈ List.zipWith (fun r q => q * f r) rows ys, FitQ (k1 + k2) q
 | [], _, _, _, q, hq => by simp at hq
 | _ :: _, [], _, _, q, hq => by simp at hq
 | x :: a, y :: b, ha, hb, q, hq => by
  rw [List.zipWith_cons_cons, List.mem_cons] at hq
  rcases hq with rfl | hq
  ·exact fit_mul (hb y (by simp)) (ha x (by simp)) (by omega)
  ·exact fit_zipf a b (fun z hz => ha z (List.mem_cons_of_mem _ hz)) (fun z hz => hb z (List.mem_cons_of_mem _ hz)) q hq
theorem fold_sum {k n : Nat} {l : List Rat} (h : ∀ q ∈ l, FitQ k q) (hn : l.length ≤ n) (hk : 2 * (n * (k + 1) + 1) ≤ 4096) : l.foldl dotStep 0 = sumQ l ∧ FitQ (n * (k + 1) + 1) (sumQ l) := by
 have h2 := Nat.mul_le_mul_right (k + 1) hn
 exact ⟨fold_fits k l 1 0 fit_zero h (by omega), fit_mono (fit_sum l k h) (by omega)⟩
section
variable {cm : Nat} {p : ProgF} {c : CertF}
theorem col_fit (hp : withinB p 20 30 = true) (hc : certB c cm = true) (v : Nat) : FitQ 571 (colQ p.rows (c.y.map fixQ) v) := by
 obtain ⟨_, h2, _, _, _, h6⟩ := withinB_ok hp
 obtain ⟨_, _, hy, _⟩ := certB_ok hc
 have := fold_sum (k := 18) (n := 30) (l := colL p.rows (c.y.map fixQ) v) (fit_zipf (k1 := 6) (k2 := 12) (f := fun (r : RowF) => fixQ (nthF r.a v)) p.rows (c.y.map fixQ) (fun r hr => fit_nth (h6 r hr).2.1 (by decide) v) (fit_list hy (by decide))) (by unfold colL; rw [List.length_zipWith]; omega) (by decide)
 unfold colQ
 rw [this.1]
 exact this.2
theorem col_same (hp : withinB p 20 30 = true) (hc : certB c cm = true) (v : Nat) : colOk p (c.y.map fixQ) (some p.goal) v = covOk p (c.y.map fixQ) p.goal v := by
 obtain ⟨_, _, _, _, h5, _⟩ := withinB_ok hp
 have h1 := col_fit hp hc v
 have h2 := fit_neg (fit_nth h5 (by decide) v)
 have h3 := fit_add h1 h2 (Nat.le_refl _)
 have e : signQ (capQ (colQ p.rows (c.y.map fixQ) v + -(fixQ (nthF p.goal v)))) = ordQ (colQ p.rows (c.y.map fixQ) v) (fixQ (nthF p.goal v)) := by
  rw [capQ_fits (Nat.le_trans h3.size (by decide)), signQ_sub]
 unfold colOk covOk colV
 simp only
 rw [e]
 generalize ordQ (colQ p.rows (c.y.map fixQ) v) (fixQ (nthF p.goal v)) = o
 cases freeAt p v
 ·simp
 ·by_cases ho : o < 0
  ·simp [ho]
  ·by_cases h0 : o = 0
   ·simp [h0]
   ·have : o > 0 := by omega
    simp [ho, h0, this]
theorem col_same0 (v n : Nat) (hv : v < n) (ys : List Rat) : colOk p ys none v = covOk p ys (zerosF n) v := by
 have e : nthF (zerosF n) v = rawQ 0 := nthF_get (by unfold zerosF; rw [List.getElem?_replicate, if_pos hv])
 unfold colOk covOk colV
 simp only
 rw [e, fixQ_zero, signQ_ord]
 generalize ordQ (colQ p.rows ys v) 0 = o
 cases freeAt p v
 ·simp
 ·by_cases ho : o < 0
  ·simp [ho]
  ·by_cases h0 : o = 0
   ·simp [h0]
   ·have : o > 0 := by omega
    simp [ho, h0, this]
theorem bounds_same (hp : withinB p 20 30 = true) (hc : certB c cm = true) : boundsB p c.y (some p.goal) = (rsignsB p c.y && coversB p c.y p.goal) := by
 unfold boundsB rsignsB coversB
 rw [Bool.and_assoc, all_congr fun v _ => col_same hp hc v]
theorem bounds_same0 : boundsB p c.y none = (rsignsB p c.y && coversB p c.y (zerosF p.vars.toNat)) := by
 unfold boundsB rsignsB coversB
 rw [Bool.and_assoc, all_congr fun v hv => col_same0 v _ (List.mem_range.1 hv) _]
theorem zip_swap : ∀ (ys : List Rat) (rows : List RowF), List.zipWith (· * ·) ys (rows.map fun r => fixQ r.b) = worL rows ys
 | [], [] => rfl
 | [], _ :: _ => rfl
 | _ :: _, [] => rfl
 | y :: ys, r :: rows => by
  have := zip_swap ys rows
  unfold worL at this ⊢
  rw [List.map_cons, List.zipWith_cons_cons, List.zipWith_cons_cons, this]
theorem worth_same (hp : withinB p 20 30 = true) (hc : certB c cm = true) : rightsQ p c.y = worthQ p c.y := by
 obtain ⟨_, h2, _, _, _, h6⟩ := withinB_ok hp
 obtain ⟨_, _, hy, _⟩ := certB_ok hc
 have := fold_sum (k := 18) (n := 30) (l := worL p.rows (c.y.map fixQ)) (fit_zipf (k1 := 6) (k2 := 12) (f := fun (r : RowF) => fixQ r.b) p.rows (c.y.map fixQ) (fun r hr => fit_words (h6 r hr).2.2 (by decide)) (fit_list hy (by decide))) (by unfold worL; rw [List.length_zipWith]; omega) (by decide)
 unfold rightsQ worthQ dotQ
 rw [zip_swap, this.1, capQ_fits (Nat.le_trans this.2.size (by decide))]
theorem goes_same (hp : withinB p 20 30 = true) (hc : certB c cm = true) : goesB p c.ray = rgoesB p c.ray := by
 obtain ⟨_, _, _, h4, h5, h6⟩ := withinB_ok hp
 obtain ⟨_, _, _, hr⟩ := certB_ok hc
 have h2 := fit_list hr (by decide)
 have e : p.rows.all (rowGoes (c.ray.map fixQ)) = p.rows.all (rrowGoes (c.ray.map fixQ)) := all_congr fun r hm => by
  obtain ⟨h7, h8, _⟩ := h6 r hm
  have h1 := fit_list h8 (by decide)
  unfold rowGoes rrowGoes
  rw [cap_dotQ h1 h2 (n := 20) (by rw [List.length_map]; exact h7) (by decide), rdotQ_fits h1 h2 (n := 20) (by rw [List.length_map]; exact h7) (by decide), holds_same]
 have h1 := fit_list h5 (by decide)
 unfold goesB rgoesB
 rw [e, cap_dotQ h1 h2 (n := 20) (by rw [List.length_map]; exact h4) (by decide), rdotQ_fits h1 h2 (n := 20) (by rw [List.length_map]; exact h4) (by decide)]
theorem judge_same (hp : withinB p 20 30 = true) (hc : certB c cm = true) : judgeB p c = rjudgeB p c := by
 obtain ⟨_, hx, _, _⟩ := certB_ok hc
 obtain ⟨_, _, _, h4, h5, _⟩ := withinB_ok hp
 unfold judgeB rjudgeB
 by_cases hr : rightP p = 0
 case neg => rw [if_pos hr, if_pos hr]
 have hf : fitsB p c.x = rfitsP p c.x := by
  rw [← fits_same hp hx (by decide) (by decide)]
  unfold fitsP
  rw [decide_eq_true hr, Bool.true_and]
 rw [if_neg (show ¬ rightP p ≠ 0 from fun h => h hr), if_neg (show ¬ rightP p ≠ 0 from fun h => h hr), bounds_same hp hc, bounds_same0, worth_same hp hc, goes_same hp hc, hf]
 split
 ·cases hfx : rfitsP p c.x with
  | false => rfl
  | true =>
   have hl : (c.x.length : Int) = p.vars := by
    unfold rfitsP rfitsB at hfx
    simp only [Bool.and_eq_true, decide_eq_true_eq] at hfx
    exact hfx.2.1
   have e : capQ (dotQ (p.goal.map fixQ) (c.x.map fixQ)) = rvalueP p c.x := by
    have h1 := fit_list h5 (by decide)
    have h2 := fit_list hx (by decide)
    unfold rvalueP
    rw [if_neg (by simp [hr, hl]), cap_dotQ h1 h2 (n := 20) (by rw [List.length_map]; exact h4) (by decide), rdotQ_fits h1 h2 (n := 20) (by rw [List.length_map]; exact h4) (by decide)]
   rw [e, Bool.and_assoc]
 ·split
  ·rw [Bool.and_assoc]
  ·rfl
end
def PO0 (b0 base : Nat) (w : World) (v : Value) (p : ProgQ) : Prop := ∃ v1 v2 v3, v = .agg #[.int .i64 p.vars, v1, v2, v3] ∧ I64 p.vars ∧ FrO b0 w v1 p.free ∧ QO base w v2 p.goal ∧ RO base w v3 p.rows
theorem PO0.zero (b0 base : Nat) (w : World) : PO0 b0 base w (.agg #[.int .i64 0, .slice none 0 0, .slice none 0 0, .slice none 0 0]) zeroP := by
 obtain ⟨v1, v2, v3, e, hi, hf, hg, hr⟩ := PO.zero base w
 refine ⟨v1, v2, v3, e, hi, ⟨hf.1, fun g hg hp => ?_⟩, hg, hr⟩
 simp [zeroP] at hp
def N0Post (b0 : Nat) (w : World) (p : ProgQ) (n : Int) (e : Ending) (w' : World) : Prop := ∃ v, e = .returned (.tuple #[v, .int .i64 n]) ∧ PO0 b0 w.heap.size w' v p ∧ Below w.heap.size w w'
theorem rclean_v (w : World) (vars : Int) (A1 A2 A3 : Option Addr) (c1 c2 c3 : Nat) (p : ProgF) (hv : vars = p.vars) (h : PR w (.agg #[.int .i64 vars, .slice A1 p.free.length c1, .slice A2 p.goal.length c2, .slice A3 p.rows.length c3]) p) (hlf : p.free.length ≤ 1000) (hlg : p.goal.length ≤ 1000) (hlr : p.rows.length ≤ 1000) (hla : ∀ r ∈ p.rows, r.a.length ≤ 1000) :
  Calls Tryz.prog 61 #[.agg #[.int .i64 vars, .slice A1 p.free.length c1, .slice A2 p.goal.length c2, .slice A3 p.rows.length c3]] w fun e w' => XPost w (.slice A1 p.free.length c1) (cleanQ p) e w' := by
 subst hv
 exact rclean26_calls w A1 A2 A3 c1 c2 c3 p h hlf hlg hlr hla
theorem distinct_mk {n : Int} {l : List Int} (h : ∀ (j : Nat) (x : Int), l[j]? = some x → 0 ≤ x ∧ x < n ∧ hasB (l.take j) x = false) : distinctB n l = true := by
 unfold distinctB
 refine decide_eq_true ⟨fun x hx => ?_, nodup_take fun i x hi => (h i x hi).2.2⟩
 obtain ⟨j, hj⟩ := List.getElem?_of_mem hx
 exact ⟨(h j x hj).1, (h j x hj).2.1⟩
theorem distinct_no {n : Int} {l : List Int} {j : Nat} {x : Int} (hj : l[j]? = some x) (h : x < 0 ∨ n ≤ x ∨ hasB (l.take j) x = true) : distinctB n l = false := by
 unfold distinctB
 refine decide_eq_false fun hd => ?_
 have hm := hd.1 x (List.mem_of_getElem? hj)
 rcases h with h | h | h
 ·omega
 ·omega
 ·exact not_nodup hj h hd.2
theorem fix_code20 {p : ProgF} {xs bs : List Int} (hr : rightP p = 0) (h : distinctB p.vars xs = false ∨ bitsB bs = false) : fixCode p xs bs = 20 := by
 unfold fixCode
 rw [if_neg (by simp [hr])]
 by_cases q : xs.length ≠ bs.length ∨ distinctB p.vars xs = false
 ·rw [if_pos q]
 ·rw [if_neg q]
  rcases h with h | h
  ·exact absurd (.inr h) q
  ·rw [if_pos h]
theorem fix_zero {p : ProgF} {xs bs : List Int} (h : fixCode p xs bs ≠ 0) : fixedP p xs bs = zeroP := by
 unfold fixedP
 rw [if_neg h]
set_option maxHeartbeats 32000000 in
set_option maxRecDepth 100000 in
theorem rfixed_calls (b0 : Nat) (w : World) (v vx vb : Value) (p : ProgF) (xs bs : List Int) (h : PR w v p) (hx : IL w vx xs) (hb : IL w vb bs) (hxl : xs.length ≤ 4000000000000000) (hbl : bs.length ≤ 4000000000000000) (hxi : ∀ x ∈ xs, I64 x) (hbi : ∀ x ∈ bs, I64 x) (hb0 : b0 ≤ w.heap.size) (hf0 : ∀ a b c d, v = .agg #[a, b, c, d] → FrO b0 w b p.free) : Calls Tryz.prog 76 #[v, vx, vb] w fun e w' => N0Post b0 w (fixedP p xs bs) (fixCode p xs bs) e w' := by
 have HP := Hd h
 have HX := Hd hx
 have HBS := Hd hb
 have HXI := Hd hxi
 have HBI := Hd hbi
 obtain ⟨X1, xc, rfl, hxc⟩ := hx.slice
 obtain ⟨Y1, yc, rfl, _⟩ := hb.slice
 obtain ⟨A1, c1, A2, c2, A3, c3, rfl, HI, H1, H2, H3⟩ := h.opened
 have hF0 := hf0 _ _ _ _ rfl
 clear h hx hb hxi hbi hf0
 obtain ⟨vars, hv⟩ : ∃ n, n = p.vars := ⟨_, rfl⟩
 rw [← hv] at HP ⊢
 have HV := Hd hv
 clear hv
 go_enter Tryz.func76, Tryz.ntmps76
 go_wp2_with fail
 have H0 := Hd (HS.two (w := w) #[.int .i64 vars, .slice A1 p.free.length c1, .slice A2 p.goal.length c2, .slice A3 p.rows.length c3] #[.int .i64 0, .slice none 0 0, .slice none 0 0, .slice none 0 0] 26 26)
 have hsz0 : ((w.alloc (.cells #[.int .i64 vars, .slice A1 p.free.length c1, .slice A2 p.goal.length c2, .slice A3 p.rows.length c3] 26)).alloc (.cells #[.int .i64 0, .slice none 0 0, .slice none 0 0, .slice none 0 0] 26)).heap.size = w.heap.size + 2 := by simp
 generalize (w.alloc (.cells #[.int .i64 vars, .slice A1 p.free.length c1, .slice A2 p.goal.length c2, .slice A3 p.rows.length c3] 26)).alloc (.cells #[.int .i64 0, .slice none 0 0, .slice none 0 0, .slice none 0 0] 26) = W0 at *
 have hsz1 : w.heap.size + 2 ≤ W0.heap.size := by omega
 clear hsz0
 refine (r2right_calls W0 _ p (HP.out.of_below H0.out.2)).mono ?_
 rintro e w1 ⟨rfl, hb⟩
 have K1 := Hd (H0.out.step hb)
 obtain ⟨x0, x1, x2, x3⟩ := K1.out.c4 1 rfl
 have hlt1 := (K1.out.blk 1 rfl).lt
 clear hb hsz1 H0
 by_cases q1 : rightP p = 0
 case neg =>
  have u1 : (rightP p != 0) = true := bneI q1
  have HC : Hid (fixCode p xs bs = rightP p) := by unfold Hid fixCode; rw [if_pos q1]
  have HN : Hid (fixedP p xs bs = zeroP) := by unfold Hid fixedP; rw [HC.out, if_neg q1]
  have KK := K1
  clear q1
  obtain ⟨j0, j1, j2, j3⟩ := (KK.out.blk 0 rfl).c4
  obtain ⟨f0, f1, f2, f3⟩ := (KK.out.blk 0 rfl).f4
  have hlt0 := (KK.out.blk 0 rfl).lt
  go_wp2_with fail
  rw [HN.out, HC.out]
  exact ret26i Tryz.results76 rfl rfl ((KK.out.blk 0 rfl).put4 _ _ _ _) ⟨_, rfl, PO0.zero _ _ _, below_put4 KK.out.2 (by simp) _ _ _ _⟩
 have u1 : (rightP p != 0) = false := beqI q1
 have hrl := rightP_len q1
 have HRZ := Hd q1
 have hlf : p.free.length ≤ 1000 := by have := hrl.1; have := hrl.2.2.2.1; omega
 have hlg : p.goal.length ≤ 1000 := by have := hrl.2.1; have := hrl.2.2.2.1; omega
 have hlr : p.rows.length ≤ 1000 := by have := hrl.2.2.2.2.1; omega
 have HLA : Hid (∀ r ∈ p.rows, r.a.length ≤ 1000) := fun r hr => by have := (hrl.2.2.2.2.2 r hr).1; have := hrl.2.2.2.1; omega
 have HVB : Hid (1 ≤ vars ∧ vars ≤ 160) := by unfold Hid; rw [HV.out]; exact ⟨hrl.2.2.1, hrl.2.2.2.1⟩
 clear q1 hrl
 by_cases q2 : xs.length = bs.length
 case neg =>
  have u2 : (((xs.length : Int)) != (bs.length : Int)) = true := bneI (by omega)
  have HC : Hid (fixCode p xs bs = 20) := by unfold Hid fixCode; rw [if_neg (by simp [HRZ.out]), if_pos (.inl q2)]
  have HN : Hid (fixedP p xs bs = zeroP) := by unfold Hid fixedP; rw [HC.out]; rfl
  have KK := K1
  clear q2
  obtain ⟨j0, j1, j2, j3⟩ := (KK.out.blk 0 rfl).c4
  obtain ⟨f0, f1, f2, f3⟩ := (KK.out.blk 0 rfl).f4
  have hlt0 := (KK.out.blk 0 rfl).lt
  go_wp2_with fail
  rw [HN.out, HC.out]
  exact ret26i Tryz.results76 rfl rfl ((KK.out.blk 0 rfl).put4 _ _ _ _) ⟨_, rfl, PO0.zero _ _ _, below_put4 KK.out.2 (by simp) _ _ _ _⟩
 have u2 : (((xs.length : Int)) != (bs.length : Int)) = false := beqI (by omega)
 have HQ2 := Hd q2
 clear q2
 go_wp2_with fail
 clear x0 x1 x2 x3 hlt1
 go_loopw [28] (fun vi wr => ∃ i : Nat, i ≤ xs.length ∧ vi = .int .i64 (i : Int) ∧ (∀ (j : Nat) (x : Int), j < i → xs[j]? = some x → 0 ≤ x ∧ x < vars ∧ hasB (xs.take j) x = false) ∧ (∀ (j : Nat) (x : Int), j < i → bs[j]? = some x → x = 0 ∨ x = 1) ∧ HS w [(w.heap.size + 1, 26, #[.int .i64 0, .slice none 0 0, .slice none 0 0, .slice none 0 0]), (w.heap.size, 26, #[.int .i64 vars, .slice A1 p.free.length c1, .slice A2 p.goal.length c2, .slice A3 p.rows.length c3])] wr) (fun vi _ => xs.length - (intOf vi).toNat)
 case atStart => exact ⟨0, Nat.zero_le _, rfl, fun j _ h => absurd h (Nat.not_lt_zero _), fun j _ h => absurd h (Nat.not_lt_zero _), K1.out⟩
 case round =>
  obtain ⟨i, hi, rfl, hal, hall, hs⟩ := hrel
  have HA := Hd hall
  have HAX := Hd hal
  have KK := Hd hs
  clear hall hal hs K1
  obtain ⟨x0, x1, x2, x3⟩ := KK.out.c4 1 rfl
  have hlt1 := (KK.out.blk 1 rfl).lt
  by_cases hlt : i < xs.length
  ·obtain ⟨x, hx⟩ : ∃ x, xs[i]? = some x := ⟨xs[i], List.getElem?_eq_getElem hlt⟩
   obtain ⟨y, hy⟩ : ∃ y, bs[i]? = some y := ⟨bs[i]'(by rw [← HQ2.out]; exact hlt), List.getElem?_eq_getElem _⟩
   obtain ⟨gx, ox, rfl, hgx, k0⟩ := IL.at1 (HX.out.below EI.stays KK.out.2) hx
   obtain ⟨gy, oy, rfl, hgy, k1⟩ := IL.at1 (HBS.out.below EI.stays KK.out.2) hy
   have HX1 := Hd hx
   have HY1 := Hd hy
   clear hx hy
   have m1 : (i : Int) < (xs.length : Int) := by omega
   have m2 : (i : Int) < (bs.length : Int) := by have := HQ2.out; omega
   have m3 : (i : Int).toNat = i := by omega
   have m4 : (0 : Int) ≤ (i : Int) := by omega
   by_cases q3 : x < 0
   ·have q3' : decide (x < 0) = true := decide_eq_true q3
    have HC : Hid (fixCode p xs bs = 20) := fix_code20 HRZ.out (.inl (distinct_no HX1.out (.inl q3)))
    have HN : Hid (fixedP p xs bs = zeroP) := fix_zero (by rw [HC.out]; decide)
    clear q3
    obtain ⟨j0, j1, j2, j3⟩ := (KK.out.blk 0 rfl).c4
    obtain ⟨f0, f1, f2, f3⟩ := (KK.out.blk 0 rfl).f4
    have hlt0 := (KK.out.blk 0 rfl).lt
    go_wp2_with fail
    rw [HN.out, HC.out]
    exact ret26i Tryz.results76 rfl rfl ((KK.out.blk 0 rfl).put4 _ _ _ _) ⟨_, rfl, PO0.zero _ _ _, below_put4 KK.out.2 (by simp) _ _ _ _⟩
   have q3' : decide (x < 0) = false := decide_eq_false q3
   have q3'' : 0 ≤ x := by omega
   by_cases q4 : vars ≤ x
   ·have q4' : decide (vars ≤ x) = true := decide_eq_true q4
    have HC : Hid (fixCode p xs bs = 20) := fix_code20 HRZ.out (.inl (distinct_no HX1.out (.inr (.inl (by rw [← HV.out]; exact q4)))))
    have HN : Hid (fixedP p xs bs = zeroP) := fix_zero (by rw [HC.out]; decide)
    clear q3 q4 q3''
    obtain ⟨j0, j1, j2, j3⟩ := (KK.out.blk 0 rfl).c4
    obtain ⟨f0, f1, f2, f3⟩ := (KK.out.blk 0 rfl).f4
    have hlt0 := (KK.out.blk 0 rfl).lt
    go_wp2_with fail
    rw [HN.out, HC.out]
    exact ret26i Tryz.results76 rfl rfl ((KK.out.blk 0 rfl).put4 _ _ _ _) ⟨_, rfl, PO0.zero _ _ _, below_put4 KK.out.2 (by simp) _ _ _ _⟩
   have q4' : decide (vars ≤ x) = false := decide_eq_false q4
   have q4'' : x < vars := by omega
   clear q3 q4
   go_wp2_with fail
   refine (has_calls _ _ (xs.take i) x (SL.take (HX.out.below EI.stays KK.out.2) i (Nat.le_of_lt hlt) (Nat.le_trans (Nat.le_of_lt hlt) hxc)) (by rw [List.length_take]; omega)).mono ?_
   rintro e w2 ⟨rfl, hb⟩
   have K2 := Hd (KK.out.step hb)
   have k1' : w2.cell? ⟨gy, oy + i, none⟩ = some (.int .i64 y) := by rw [(bcell hb).1 gy _ hgy]; exact k1
   clear hb x0 x1 x2 x3 hlt1 k0 k1
   obtain ⟨x0, x1, x2, x3⟩ := K2.out.c4 1 rfl
   have hlt1 := (K2.out.blk 1 rfl).lt
   cases hh : hasB (xs.take i) x
   case true =>
    have HC : Hid (fixCode p xs bs = 20) := fix_code20 HRZ.out (.inl (distinct_no HX1.out (.inr (.inr hh))))
    have HN : Hid (fixedP p xs bs = zeroP) := fix_zero (by rw [HC.out]; decide)
    have KK := K2
    clear hh
    obtain ⟨j0, j1, j2, j3⟩ := (KK.out.blk 0 rfl).c4
    obtain ⟨f0, f1, f2, f3⟩ := (KK.out.blk 0 rfl).f4
    have hlt0 := (KK.out.blk 0 rfl).lt
    go_wp2_with fail
    rw [HN.out, HC.out]
    exact ret26i Tryz.results76 rfl rfl ((KK.out.blk 0 rfl).put4 _ _ _ _) ⟨_, rfl, PO0.zero _ _ _, below_put4 KK.out.2 (by simp) _ _ _ _⟩
   have HH := Hd hh
   clear hh
   by_cases q5 : y = 0 ∨ y = 1
   ·have HQ3 := Hd q5
    have HNX : Hid (∀ (j : Nat) (z : Int), j < i + 1 → bs[j]? = some z → z = 0 ∨ z = 1) := fun j z hj hz => by
     by_cases hji : j = i
     ·rw [hji, HY1.out] at hz
      injection hz with e
      rw [← e]
      exact HQ3.out
     ·exact HA.out j z (by omega) hz
    have HNY : Hid (∀ (j : Nat) (z : Int), j < i + 1 → xs[j]? = some z → 0 ≤ z ∧ z < vars ∧ hasB (xs.take j) z = false) := fun j z hj hz => by
     by_cases hji : j = i
     ·rw [hji, HX1.out] at hz
      injection hz with e
      rw [← e, hji]
      exact ⟨q3'', q4'', HH.out⟩
     ·exact HAX.out j z (by omega) hz
    rcases q5 with q5 | q5
    ·have u3 : (y != 0) = false := beqI q5
     clear q5
     go_wp2_with fail
     go_roundw
     case rel => exact ⟨i + 1, by omega, by go_num, HNY.out, HNX.out, K2.out⟩
     case measure => simp [intOf]; omega
    ·have u3 : (y != 0) = true := bneI (by omega)
     have u4 : (y != 1) = false := beqI q5
     clear q5
     go_wp2_with fail
     go_roundw
     case rel => exact ⟨i + 1, by omega, by go_num, HNY.out, HNX.out, K2.out⟩
     case measure => simp [intOf]; omega
   ·have u3 : (y != 0) = true := bneI (by omega)
    have u4 : (y != 1) = true := bneI (by omega)
    have hbf : bitsB bs = false := by
     unfold bitsB
     rw [List.all_eq_false]
     exact ⟨y, List.mem_of_getElem? HY1.out, by simpa using q5⟩
    have HC : Hid (fixCode p xs bs = 20) := fix_code20 HRZ.out (.inr hbf)
    have HN : Hid (fixedP p xs bs = zeroP) := fix_zero (by rw [HC.out]; decide)
    have KK := K2
    clear q5 hbf
    obtain ⟨j0, j1, j2, j3⟩ := (KK.out.blk 0 rfl).c4
    obtain ⟨f0, f1, f2, f3⟩ := (KK.out.blk 0 rfl).f4
    have hlt0 := (KK.out.blk 0 rfl).lt
    go_wp2_with fail
    rw [HN.out, HC.out]
    exact ret26i Tryz.results76 rfl rfl ((KK.out.blk 0 rfl).put4 _ _ _ _) ⟨_, rfl, PO0.zero _ _ _, below_put4 KK.out.2 (by simp) _ _ _ _⟩
  ·obtain rfl : i = xs.length := by omega
   have hbt : bitsB bs = true := by
    unfold bitsB
    rw [List.all_eq_true]
    intro x hx
    obtain ⟨j, hj⟩ := List.getElem?_of_mem hx
    exact decide_eq_true (HA.out j x (by rw [HQ2.out]; exact (List.getElem?_eq_some_iff.1 hj).1) hj)
   have HBT := Hd hbt
   have HD := Hd (distinct_mk (n := vars) (l := xs) fun j x hj => HAX.out j x (List.getElem?_eq_some_iff.1 hj).1 hj)
   clear hbt
   by_cases q5 : 400 < p.rows.length + xs.length
   ·have m5 : (400 : Int) < (p.rows.length : Int) + (xs.length : Int) := by omega
    have HC : Hid (fixCode p xs bs = 1) := by unfold Hid fixCode; rw [if_neg (by simp [HRZ.out]), if_neg (by rw [← HV.out, HD.out]; simp [HQ2.out]), if_neg (by simp [HBT.out]), if_pos q5]
    have HN : Hid (fixedP p xs bs = zeroP) := by unfold Hid fixedP; rw [HC.out]; rfl
    clear q5
    obtain ⟨j0, j1, j2, j3⟩ := (KK.out.blk 0 rfl).c4
    obtain ⟨f0, f1, f2, f3⟩ := (KK.out.blk 0 rfl).f4
    have hlt0 := (KK.out.blk 0 rfl).lt
    go_wp2_with fail
    rw [HN.out, HC.out]
    exact ret26i Tryz.results76 rfl rfl ((KK.out.blk 0 rfl).put4 _ _ _ _) ⟨_, rfl, PO0.zero _ _ _, below_put4 KK.out.2 (by simp) _ _ _ _⟩
   have m5 : ¬ ((400 : Int) < (p.rows.length : Int) + (xs.length : Int)) := by omega
   go_wp2_with fail
   refine (rclean_v wr vars _ _ _ _ _ _ p HV.out (HP.out.of_below KK.out.2) hlf hlg hlr HLA.out).mono ?_
   rintro e w2 ⟨v2, v3, rfl, hq, hro, hb⟩
   rw [show (cleanQ p).vars = vars from HV.out.symm]
   have hq' : QO w.heap.size w2 v2 (p.goal.map fixQ) := hq.lower KK.out.2.size
   have hro' : RO w.heap.size w2 v3 (p.rows.map cleanR) := RO.lower hro KK.out.2.size
   obtain ⟨B2, d2, ev2, _⟩ := hq'.slice
   rw [List.length_map] at ev2
   subst ev2
   obtain ⟨B3, d3, ev3, _⟩ := OL.slice hro'
   rw [List.length_map] at ev3
   subst ev3
   have K2 := Hd (KK.out.step hb)
   have hfr' : FrO b0 w2 (.slice A1 p.free.length c1) p.free := hF0.below K2.out.2
   have hsz3 : w.heap.size + 2 ≤ w2.heap.size := by have : w.heap.size + 1 < w2.heap.size := (K2.out.blk 0 rfl).lt; omega
   obtain ⟨x0, x1, x2, x3⟩ := K2.out.c4 1 rfl
   have hlt2 := (K2.out.blk 1 rfl).lt
   clear hq hro hb
   go_wp2_with fail
   have hbn := below_new w2 (.cells #[.int .i64 vars, .slice A1 p.free.length c1, .slice B2 p.goal.length d2, .slice B3 p.rows.length d3] 26)
   have HBc := Hd (Blk.new w2 26 #[.int .i64 vars, .slice A1 p.free.length c1, .slice B2 p.goal.length d2, .slice B3 p.rows.length d3])
   have HFc := Hd (hfr'.below hbn)
   have HQc := Hd (OL.below EFQ.stays hq' hbn)
   have HRc := Hd (OL.below ERO.stays hro' hbn)
   have HSc := Hd (K2.out.step hbn)
   obtain ⟨gq, hgq⟩ : ∃ g, g = w2.heap.size := ⟨_, rfl⟩
   rw [← hgq] at HBc
   have hgq2 : w.heap.size + 2 ≤ gq := by omega
   generalize w2.alloc (.cells #[.int .i64 vars, .slice A1 p.free.length c1, .slice B2 p.goal.length d2, .slice B3 p.rows.length d3] 26) = Wc at *
   rw [← hgq]
   clear hgq hbn hfr' hq' hro' x0 x1 x2 x3 hlt2 K2 hsz3
   obtain ⟨n, rfl⟩ : ∃ n : Nat, vars = n := ⟨vars.toNat, by have := HVB.out.1; omega⟩
   have hn2 : n ≤ 160 := by have := HVB.out.2; omega
   obtain ⟨qg, hqg⟩ : ∃ q, q = p.goal.map fixQ := ⟨_, rfl⟩
   rw [← hqg] at HQc
   have HQG := Hd hqg
   obtain ⟨rq, hrq⟩ : ∃ q, q = p.rows.map cleanR := ⟨_, rfl⟩
   rw [← hrq] at HRc
   have HRQ := Hd hrq
   have HRL : Hid (rq.length = p.rows.length) := by unfold Hid; rw [hrq, List.length_map]
   obtain ⟨fr, hfr⟩ : ∃ q, q = fixRows n xs bs := ⟨_, rfl⟩
   have HFR0 := Hd hfr
   have HFL : Hid (fr.length = xs.length) := by unfold Hid; rw [hfr]; unfold fixRows; rw [List.length_map, List.length_zip, HQ2.out]; simp
   clear hqg hrq hfr m5 KK HA
   go_loopw [76] (fun vi wr => ∃ i : Nat, i ≤ xs.length ∧ vi = .int .i64 (i : Int) ∧ (∃ A5 c5, Blk wr gq 26 #[.int .i64 (n : Int), .slice A1 p.free.length c1, .slice B2 p.goal.length d2, .slice A5 (p.rows.length + i) c5] ∧ RO w.heap.size wr (.slice A5 (p.rows.length + i) c5) (rq ++ fr.take i)) ∧ FrO b0 wr (.slice A1 p.free.length c1) p.free ∧ QO w.heap.size wr (.slice B2 p.goal.length d2) qg ∧ HS w [(w.heap.size + 1, 26, #[.int .i64 0, .slice none 0 0, .slice none 0 0, .slice none 0 0]), (w.heap.size, 26, #[.int .i64 (n : Int), .slice A1 p.free.length c1, .slice A2 p.goal.length c2, .slice A3 p.rows.length c3])] wr) (fun vi _ => xs.length - (intOf vi).toNat)
   case atStart => exact ⟨0, Nat.zero_le _, rfl, ⟨B3, d3, HBc.out, by rw [List.take_zero, List.append_nil]; exact HRc.out⟩, HFc.out, HQc.out, HSc.out⟩
   case round =>
    obtain ⟨i, hi, rfl, ⟨A5, c5, hbq, hro⟩, hfr, hqo, hs⟩ := hrel
    have HBQ := Hd hbq
    have HRO := Hd hro
    have HFR := Hd hfr
    have HQO := Hd hqo
    have HK := Hd hs
    clear hbq hro hfr hqo hs HBc HFc HQc HSc HRc
    obtain ⟨x0, x1, x2, x3⟩ := HK.out.c4 1 rfl
    have hltp := (HK.out.blk 1 rfl).lt
    obtain ⟨i0, i1, i2, i3⟩ := HBQ.out.c4
    have hltq := HBQ.out.lt
    by_cases hlt : i < xs.length
    ·obtain ⟨x, hx⟩ : ∃ x, xs[i]? = some x := ⟨xs[i], List.getElem?_eq_getElem hlt⟩
     obtain ⟨y, hy⟩ : ∃ y, bs[i]? = some y := ⟨bs[i]'(by rw [← HQ2.out]; exact hlt), List.getElem?_eq_getElem _⟩
     obtain ⟨gx, ox, rfl, hgx, k0⟩ := IL.at1 (HX.out.below EI.stays HK.out.2) hx
     obtain ⟨gy, oy, rfl, hgy, k1⟩ := IL.at1 (HBS.out.below EI.stays HK.out.2) hy
     have hxr : 0 ≤ x ∧ x < (n : Int) := by
      have := HD.out
      unfold distinctB at this
      exact (of_decide_eq_true this).1 x (List.mem_of_getElem? hx)
     have hyi := HBI.out y (List.mem_of_getElem? hy)
     have HNX : Hid (rq ++ fr.take (i + 1) = rq ++ fr.take i ++ [unitQ n x 0 y]) := by
      unfold Hid
      rw [List.take_add_one, HFR0.out]
      unfold fixRows
      rw [List.getElem?_map, (List.getElem?_zip_eq_some (z := (x, y))).2 ⟨hx, hy⟩, List.append_assoc]
      rfl
     have hrl : (rq ++ fr.take i).length ≤ 1000000000 := by rw [List.length_append, HRL.out, List.length_take, HFL.out]; omega
     have m1 : (i : Int) < (xs.length : Int) := by omega
     have m2 : (i : Int) < (bs.length : Int) := by have := HQ2.out; omega
     have m3 : (i : Int).toNat = i := by omega
     have m4 : (0 : Int) ≤ (i : Int) := by omega
     clear hx hy
     go_wp2_with fail
     refine wp_chainF (l := [_, _, _, _, _, _, _, _, _, _, _, _, _, _]) (S := Below wr.heap.size wr) 11 [([0, 1, 2, 3, 4, 5, 6, 7, 8], 9), ([], 10)] [] (by kernel_rfl) (by kernel_rfl) (by kernel_rfl) rfl (Below.drew (Below.refl _ _)) ?_
     refine ⟨?_, _, ?_, rfl, ?_⟩
     rotate_left
     ·repeat (refine ⟨_, ?_, rfl, Or.inl ⟨by rfl, ?_⟩, ?_⟩; rotate_left; focus (intro W hW; replace hW := (bcell hW).1; go_simp; try with_reducible rfl); (try simp only [SQ]))
      exact rfl
     have D0 : Hid (Below wr.heap.size wr wr.drew) := Below.drew (Below.refl _ _)
     go_wp2_with fail
     refine (runit_calls _ n x 0 y (by omega) (by unfold I64; omega) hyi.1 (by have := hyi.2; omega)).mono ?_
     rintro e W3 ⟨vs, rfl, her, hb⟩
     obtain ⟨v5, C5, n5, e5, C6, n6, e6, rfl, HIS, hqa, hfb⟩ := her
     have HQA := Hd (hqa.lower (base' := w.heap.size) (Nat.le_trans HK.out.2.size D0.out.size))
     obtain ⟨C4, e4, rfl, _⟩ := hqa.slice
     have HV3 := Hd hfb
     have D3 := Hd (below_next D0.out hb)
     clear hqa hfb hb
     go_wp2_with fail
     refine And.intro D3.out ⟨_, _, rfl, rfl, ?_⟩
     go_wp2_with fail
     have HL4 := Hd (Blk.new W3 73 #[.slice C4 (unitQ n x 0 y).a.length e4, .int .i64 (unitQ n x 0 y).s, .bool (negQ (unitQ n x 0 y).b), .slice C5 n5 e5, .slice C6 n6 e6])
     have hbn := below_new W3 (.cells #[.slice C4 (unitQ n x 0 y).a.length e4, .int .i64 (unitQ n x 0 y).s, .bool (negQ (unitQ n x 0 y).b), .slice C5 n5 e5, .slice C6 n6 e6] 73)
     have D4 := Hd (below_next D3.out hbn)
     have HQ4 := Hd (HQA.out.below EFQ.stays hbn)
     have HV4 := Hd (HV3.out.of_below hbn)
     obtain ⟨gl, hgl⟩ : ∃ g, g = W3.heap.size := ⟨_, rfl⟩
     rw [← hgl] at HL4 ⊢
     generalize W3.alloc (.cells #[.slice C4 (unitQ n x 0 y).a.length e4, .int .i64 (unitQ n x 0 y).s, .bool (negQ (unitQ n x 0 y).b), .slice C5 n5 e5, .slice C6 n6 e6] 73) = W4 at *
     clear hgl hbn
     refine And.intro D4.out ⟨_, rfl, ?_⟩
     have HBQ4 := Hd (HBQ.out.below D4.out HBQ.out.lt)
     have HRO4 := Hd (HRO.out.below ERO.stays D4.out)
     have HFR4 := Hd (HFR.out.below D4.out)
     have HQO4 := Hd (HQO.out.below EFQ.stays D4.out)
     have HK4 := Hd (HK.out.step D4.out)
     have hbase4 : w.heap.size ≤ W4.heap.size := HK4.out.2.size
     have HER : Hid (ERO w.heap.size W4 #[.slice C4 (unitQ n x 0 y).a.length e4, .int .i64 (unitQ n x 0 y).s, .bool (negQ (unitQ n x 0 y).b), .slice C5 n5 e5, .slice C6 n6 e6] (unitQ n x 0 y)) := ⟨_, _, _, _, _, _, _, rfl, HIS, HQ4.out, HV4.out⟩
     have HRL2 : Hid ((rq ++ fr.take (i + 1)).length = p.rows.length + (i + 1)) := by unfold Hid; rw [List.length_append, HRL.out, List.length_take, HFL.out]; omega
     simp only [SQ, List.drop_succ_cons, List.drop_zero]
     clear i0 i1 i2 i3 x0 x1 x2 x3
     go_wp2_with (at_builtin; refine wpl_appendR5 rfl (.tmp 82) (.tmp 91) rfl (base := w.heap.size) (.slice A5 (p.rows.length + i) c5) (rq ++ fr.take i) rfl HRO4.out (unitQ n x 0 y) rfl HL4.out HER.out hrl hbase4 ?_; intro v6 W6 hro6 hcg6 hw6 hob6; obtain ⟨A6, c6, hv6, _⟩ := hro6.slice; rw [← HNX.out] at hro6 hv6; rw [HRL2.out] at hv6; subst hv6; have HRO6 := Hd hro6; have HBQ6 := Hd (HBQ4.out.chg hcg6 (by decide)); have HFR6 := Hd (HFR4.out.chg hcg6 (by decide) hb0); have HQO6 := Hd (QO.chg HQO4.out hcg6 (by decide)); have HK6 := Hd (HS.chg HK4.out hcg6 (by simp) rfl hw6); obtain ⟨i0, i1, i2, i3⟩ := HBQ6.out.c4; obtain ⟨f0, f1, f2, f3⟩ := HBQ6.out.f4; have hltq6 := HBQ6.out.lt; clear hro6 hcg6 hw6 hob6)
     refine NoPanic.normal ?_
     have hcp := chg_put1 (base := w.heap.size) (j := 3) HBQ6.out (by omega) prog_words (.slice A6 (p.rows.length + (i + 1)) c6)
     have HX1 := Hd (HBQ6.out.put 3 (.slice A6 (p.rows.length + (i + 1)) c6))
     have HX2 := Hd (RO.chg HRO6.out hcp (by decide) (by decide))
     have HX3 := Hd (HFR6.out.chg hcp (by decide) hb0)
     have HX4 := Hd (QO.chg HQO6.out hcp (by decide))
     have HX5 := Hd (HK6.out.other1 (g := gq) (by omega) (by simp; omega) 3 (.slice A6 (p.rows.length + (i + 1)) c6))
     clear hcp
     go_wp2_with fail
     go_roundw
     case rel => exact ⟨i + 1, by omega, by go_num, ⟨A6, c6, HX1.out, HX2.out⟩, HX3.out, HX4.out, HX5.out⟩
     case measure => simp [intOf]; omega
    ·obtain rfl : i = xs.length := by omega
     have hfa : fr.take xs.length = fr := List.take_of_length_le (by rw [HFL.out]; exact Nat.le_refl _)
     rw [hfa] at HRO
     clear hfa x0 x1 x2 x3 hltp
     have HC : Hid (fixCode p xs bs = 0) := by unfold Hid fixCode; rw [if_neg (by simp [HRZ.out]), if_neg (by rw [← HV.out, HD.out]; simp [HQ2.out]), if_neg (by simp [HBT.out]), if_neg q5]
     have HN : Hid (fixedP p xs bs = ⟨p.vars, p.free, p.goal.map fixQ, p.rows.map cleanR ++ fixRows p.vars.toNat xs bs⟩) := by unfold Hid fixedP; rw [if_pos HC.out]
     have HFE : Hid (p.rows.map cleanR ++ fixRows p.vars.toNat xs bs = rq ++ fr) := by unfold Hid; rw [HRQ.out, HFR0.out, ← HV.out]; rfl
     clear q5
     obtain ⟨j0, j1, j2, j3⟩ := (HK.out.blk 0 rfl).c4
     obtain ⟨f0, f1, f2, f3⟩ := (HK.out.blk 0 rfl).f4
     have hlt0 := (HK.out.blk 0 rfl).lt
     go_wp2_with fail
     have hcg := chg_put4 (base := w.heap.size) (HK.out.blk 0 rfl) (by simp) prog_words (.int .i64 (n : Int)) (.slice A1 p.free.length c1) (.slice B2 p.goal.length d2) (.slice A5 (p.rows.length + xs.length) c5)
     rw [HN.out, HC.out, HFE.out]
     exact ret26i Tryz.results76 rfl rfl ((HK.out.blk 0 rfl).put4 _ _ _ _) ⟨_, rfl, ⟨_, _, _, by show _ = Value.agg #[.int .i64 p.vars, _, _, _]; rw [← HV.out], HI.out, HFR.out.chg hcg (by decide) hb0, by show QO _ _ _ (p.goal.map fixQ); rw [← HQG.out]; exact QO.chg HQO.out hcg (by decide), RO.chg HRO.out hcg (by decide) (by decide)⟩, below_put4 HK.out.2 (by simp) _ _ _ _⟩
theorem fix_ok {p : ProgF} {xs bs : List Int} (h1 : rightP p = 0) : fixCode p xs bs = 0 ↔ xs.length = bs.length ∧ distinctB p.vars xs = true ∧ bitsB bs = true ∧ p.rows.length + xs.length ≤ 400 := by
 unfold fixCode
 rw [if_neg (by simp [h1])]
 by_cases a : xs.length = bs.length
 ·cases b : distinctB p.vars xs with
  | false => rw [if_pos (.inr rfl)]; simp
  | true =>
   rw [if_neg (by simp [a])]
   cases c : bitsB bs with
   | false => simp
   | true =>
    by_cases d : 400 < p.rows.length + xs.length
    ·rw [if_neg (by simp), if_pos d]; simp; omega
    ·rw [if_neg (by simp), if_neg d]; simp; exact ⟨a, by omega⟩
 ·rw [if_pos (.inl a)]
  simp [a]
theorem right_mk {p : ProgF} (h1 : (p.free.length : Int) = p.vars) (h2 : (p.goal.length : Int) = p.vars) (h3 : 1 ≤ p.vars) (h4 : p.vars ≤ 160) (h5 : p.rows.length ≤ 400) (h6 : ∀ r ∈ p.rows, (r.a.length : Int) = p.vars ∧ -1 ≤ r.s ∧ r.s ≤ 1) : rightP p = 0 := by
 unfold rightP
 rw [if_neg (by omega), if_neg (by omega), if_neg]
 rw [List.any_eq_true]
 rintro ⟨r, hr, hb⟩
 obtain ⟨a, b, c⟩ := h6 r hr
 unfold rowBad at hb
 simp [a] at hb
 omega
theorem right_more {q : ProgQ} {E : List RowQ} (h : rightP (rawP q) = 0) (hl : q.rows.length + E.length ≤ 400) (hE : ∀ r ∈ E, r.a.length = q.vars.toNat ∧ -1 ≤ r.s ∧ r.s ≤ 1) : rightP (rawP ⟨q.vars, q.free, q.goal, q.rows ++ E⟩) = 0 := by
 obtain ⟨h1, h2, h3, h4, h5, h6⟩ := rightP_len h
 have h3' : 1 ≤ q.vars := h3
 refine right_mk h1 h2 h3 h4 ?_ fun r hr => ?_
 ·show ((q.rows ++ E).map rawR).length ≤ 400
  rw [List.length_map, List.length_append]
  exact hl
 ·obtain ⟨x, hx, rfl⟩ := List.mem_map.1 hr
  rcases List.mem_append.1 hx with hx | hx
  ·exact h6 _ (List.mem_map.2 ⟨x, hx, rfl⟩)
  ·obtain ⟨a, b, c⟩ := hE x hx
   refine ⟨?_, b, c⟩
   show ((x.a.map rawQ).length : Int) = q.vars
   rw [List.length_map, a]
   omega
theorem right_clean {p : ProgF} (h : rightP p = 0) : rightP (rawP (cleanQ p)) = 0 := by
 obtain ⟨h1, h2, h3, h4, h5, h6⟩ := rightP_len h
 refine right_mk h1 ?_ h3 h4 ?_ fun r hr => ?_
 ·show (((p.goal.map fixQ).map rawQ).length : Int) = p.vars
  rw [List.length_map, List.length_map]
  exact h2
 ·show ((p.rows.map cleanR).map rawR).length ≤ 400
  rw [List.length_map, List.length_map]
  exact h5
 ·obtain ⟨x, hx, rfl⟩ := List.mem_map.1 hr
  obtain ⟨y, hy, rfl⟩ := List.mem_map.1 hx
  obtain ⟨a, b, c⟩ := h6 y hy
  refine ⟨?_, b, c⟩
  show (((y.a.map fixQ).map rawQ).length : Int) = p.vars
  rw [List.length_map, List.length_map]
  exact a
noncomputable def nodeQ (p : ProgF) (wh vars bits : List Int) : ProgQ := ⟨p.vars, p.free, p.goal.map fixQ, (boundedQ p wh).rows ++ fixRows p.vars.toNat vars bits⟩
noncomputable def nodeC (p : ProgF) (wh vars bits : List Int) : Int := fixCode (rawP (boundedQ p wh)) vars bits
noncomputable def nodeP (p : ProgF) (wh vars bits : List Int) : ProgQ := fixedP (rawP (boundedQ p wh)) vars bits
theorem node_eq {p : ProgF} {wh vars bits : List Int} (h : nodeC p wh vars bits = 0) : nodeP p wh vars bits = nodeQ p wh vars bits := by
 unfold nodeP fixedP
 unfold nodeC at h
 rw [if_pos h]
 have e := clean_raw (small_bounded p wh)
 have e1 : (rawP (boundedQ p wh)).goal.map fixQ = p.goal.map fixQ := congrArg ProgQ.goal e
 have e2 : (rawP (boundedQ p wh)).rows.map cleanR = (boundedQ p wh).rows := congrArg ProgQ.rows e
 rw [e1, e2]
 rfl
theorem node_nil (p : ProgF) (wh : List Int) : nodeQ p wh [] [] = boundedQ p wh := by
 unfold nodeQ fixRows
 show ProgQ.mk p.vars p.free (p.goal.map fixQ) ((boundedQ p wh).rows ++ []) = _
 rw [List.append_nil]
 rfl
theorem node_next {p : ProgF} {wh vars bits : List Int} (x b : Int) (hl : vars.length = bits.length) : branchQ (nodeQ p wh vars bits) x b = nodeQ p wh (vars ++ [x]) (bits ++ [b]) := by
 unfold branchQ nodeQ fixRows
 rw [List.zip_append hl, List.map_append, List.append_assoc]
 rfl
theorem unit_len (n : Nat) (v s b : Int) : (unitQ n v s b).a.length = n := unitL_length n v
theorem right_bounded {p : ProgF} {wh : List Int} (h : rightP p = 0) (hl : p.rows.length + wh.length ≤ 400) : rightP (rawP (boundedQ p wh)) = 0 := by
 have := right_more (q := cleanQ p) (E := wh.map fun v => unitQ p.vars.toNat v (-1) 1) (right_clean h) (by rw [List.length_map]; show (p.rows.map cleanR).length + _ ≤ 400; rw [List.length_map]; exact hl) (fun r hr => by
  obtain ⟨v, _, rfl⟩ := List.mem_map.1 hr
  exact ⟨unit_len _ _ _ _, Int.le_refl _, by show (-1 : Int) ≤ 1; decide⟩)
 exact this
theorem zip_le {α β : Type} (a : List α) (b : List β) : (a.zip b).length ≤ a.length := by rw [List.length_zip]; omega
theorem right_node {p : ProgF} {wh vars bits : List Int} (h : rightP p = 0) (hl : p.rows.length + wh.length + vars.length ≤ 400) : rightP (rawP (nodeQ p wh vars bits)) = 0 := by
 have := right_more (q := boundedQ p wh) (E := fixRows p.vars.toNat vars bits) (right_bounded h (by omega)) (by
  have h2 := len_bounded p wh
  unfold fixRows
  rw [List.length_map]
  have := zip_le vars bits
  omega) (fun r hr => by
  obtain ⟨v, _, rfl⟩ := List.mem_map.1 hr
  exact ⟨unit_len _ _ _ _, by show (-1 : Int) ≤ 0; decide, by show (0 : Int) ≤ 1; decide⟩)
 exact this
theorem small_node {p : ProgF} {wh vars bits : List Int} (hb : bitsB bits = true) : SmallP (nodeQ p wh vars bits) := by
 refine ⟨(small_bounded p wh).1, fun r hr => ?_⟩
 rcases List.mem_append.1 hr with hr | hr
 ·exact (small_bounded p wh).2 r hr
 ·obtain ⟨y, hy, rfl⟩ := List.mem_map.1 hr
  refine small_unit _ _ _ _ ?_
  unfold bitsB at hb
  exact of_decide_eq_true (List.all_eq_true.1 hb y.2 (List.of_mem_zip hy).2)
noncomputable def leafR (p : ProgF) (wh : List Int) (t : TreeF) (vars bits : List Int) (c : CertF) : Bool :=
 decide (nodeC p wh vars bits = 0) && (rjudgeB (rawP (nodeP p wh vars bits)) c && (decide (c.kind = 2) || (decide (c.kind = 1) && (decide (t.kind = 1) && decide (ordQ (rvalueP p c.x) (rvalueP p t.x) ≤ 0)))))
noncomputable def stepBad (cs : List CaseF) (wh vars : List Int) (at_ : Int) (c : CaseF) : Bool :=
 !hasB wh c.var || (hasB vars c.var || (decide (c.zero ≤ at_) || (decide (c.one ≤ at_) || (decide ((cs.length : Int) ≤ c.zero) || decide ((cs.length : Int) ≤ c.one)))))
noncomputable def provesR (p : ProgF) (wh : List Int) (t : TreeF) : Nat → Int → List Int → List Int → Nat → Nat × Bool
 | 0, _, _, _, _ => (0, false)
 | n + 1, at_, vars, bits, most =>
  if most = 0 then (0, false)
  else match t.cases[at_.toNat]? with
   | none => (0, false)
   | some c =>
    if c.var = -1 then (1, leafR p wh t vars bits c.cert)
    else if stepBad t.cases wh vars at_ c = true then (1, false)
    else if (provesR p wh t n c.zero (vars ++ [c.var]) (bits ++ [0]) (most - 1)).2 = true then
     (1 + (provesR p wh t n c.zero (vars ++ [c.var]) (bits ++ [0]) (most - 1)).1 + (provesR p wh t n c.one (vars ++ [c.var]) (bits ++ [1]) (most - 1 - (provesR p wh t n c.zero (vars ++ [c.var]) (bits ++ [0]) (most - 1)).1)).1, (provesR p wh t n c.one (vars ++ [c.var]) (bits ++ [1]) (most - 1 - (provesR p wh t n c.zero (vars ++ [c.var]) (bits ++ [0]) (most - 1)).1)).2)
    else (1 + (provesR p wh t n c.zero (vars ++ [c.var]) (bits ++ [0]) (most - 1)).1, false)
theorem provesR_le (p : ProgF) (wh : List Int) (t : TreeF) : ∀ (n : Nat) (at_ : Int) (vars bits : List Int) (most : Nat), (provesR p wh t n at_ vars bits most).1 ≤ most
 | 0, _, _, _, _ => Nat.zero_le _
 | n + 1, at_, vars, bits, most => by
  have ih := provesR_le p wh t n
  unfold provesR
  by_cases h0 : most = 0
  ·rw [if_pos h0]; exact Nat.zero_le _
  rw [if_neg h0]
  cases hc : t.cases[at_.toNat]? with
  | none => exact Nat.zero_le _
  | some c =>
   dsimp only
   by_cases h1 : c.var = -1
   ·rw [if_pos h1]; show 1 ≤ most; omega
   rw [if_neg h1]
   by_cases h2 : stepBad t.cases wh vars at_ c = true
   ·rw [if_pos h2]; show 1 ≤ most; omega
   rw [if_neg h2]
   have i0 := ih c.zero (vars ++ [c.var]) (bits ++ [0]) (most - 1)
   by_cases h3 : (provesR p wh t n c.zero (vars ++ [c.var]) (bits ++ [0]) (most - 1)).2 = true
   ·rw [if_pos h3]
    have i1 := ih c.one (vars ++ [c.var]) (bits ++ [1]) (most - 1 - (provesR p wh t n c.zero (vars ++ [c.var]) (bits ++ [0]) (most - 1)).1)
    show 1 + _ + _ ≤ most
    omega
   ·rw [if_neg h3]
    show 1 + _ ≤ most
    omega
theorem rest_len {l : List Int} {x : Int} : (restL l x).length = l.length ↔ hasB l x = false := by
 unfold restL hasB
 rw [List.length_filter_eq_length_iff, List.any_eq_false]
 constructor
 ·intro h a ha
  have := h a ha
  simpa using this
 ·intro h a ha
  have := h a ha
  simpa using this
theorem rest_lt {l : List Int} {x : Int} (h : hasB l x = true) : (restL l x).length < l.length := by
 have h1 : (restL l x).length ≤ l.length := List.length_filter_le _ _
 have h2 : ¬ (restL l x).length = l.length := by rw [rest_len]; simp [h]
 omega
theorem has_mem {l : List Int} {x : Int} : hasB l x = true ↔ x ∈ l := by
 unfold hasB
 rw [List.any_eq_true]
 constructor
 ·rintro ⟨y, hy, e⟩
  rw [← of_decide_eq_true e]
  exact hy
 ·exact fun h => ⟨x, h, decide_eq_true rfl⟩
structure NInv (wh vars bits op : List Int) : Prop where
 len : vars.length = bits.length
 sub : ∀ v ∈ vars, v ∈ wh
 nd : vars.Nodup
 bit : bitsB bits = true
 ope : op = wh.filter fun y => !hasB vars y
 fit : vars.length + op.length ≤ wh.length
theorem NInv.has {wh vars bits op : List Int} (h : NInv wh vars bits op) (x : Int) : hasB op x = (hasB wh x && !hasB vars x) := by
 rw [Bool.eq_iff_iff, Bool.and_eq_true, has_mem, has_mem, h.ope, List.mem_filter]
theorem NInv.next {wh vars bits op : List Int} (h : NInv wh vars bits op) {x : Int} (hx : hasB wh x = true) (hv : hasB vars x = false) (b : Int) (hb : b = 0 ∨ b = 1) : NInv wh (vars ++ [x]) (bits ++ [b]) (restL op x) := by
 have ho : hasB op x = true := by rw [h.has, hx, hv]; rfl
 refine ⟨by rw [List.length_append, List.length_append, h.len]; rfl, fun v hm => ?_, ?_, ?_, ?_, ?_⟩
 ·rcases List.mem_append.1 hm with hm | hm
  ·exact h.sub v hm
  ·rw [List.mem_singleton] at hm
   rw [hm]
   exact has_mem.1 hx
 ·rw [List.nodup_append]
  refine ⟨h.nd, by simp, fun a ha c hc => ?_⟩
  rw [List.mem_singleton] at hc
  rintro rfl
  rw [hc] at ha
  rw [has_mem.2 ha] at hv
  cases hv
 ·have := h.bit
  unfold bitsB at *
  rw [List.all_append, this]
  simp [hb]
 ·rw [h.ope]
  unfold restL
  rw [List.filter_filter]
  refine List.filter_congr fun y _ => ?_
  unfold hasB
  rw [List.any_append]
  simp
  rw [Bool.and_comm]
  congr 1
  by_cases e : y = x
  ·simp [e]
  ·simp [e, Ne.symm e]
 ·have h1 := rest_lt ho
  have h2 := h.fit
  rw [List.length_append]
  show vars.length + 1 + _ ≤ _
  omega
theorem node_ok {p : ProgF} {wh vars bits op : List Int} (hr : rightP p = 0) (hd : distinctB p.vars wh = true) (hl : p.rows.length + 2 * wh.length ≤ 400) (h : NInv wh vars bits op) : nodeC p wh vars bits = 0 := by
 unfold nodeC
 have hfit := h.fit
 rw [fix_ok (right_bounded hr (by omega))]
 refine ⟨h.len, ?_, h.bit, ?_⟩
 ·unfold distinctB at *
  have hd := of_decide_eq_true hd
  exact decide_eq_true ⟨fun x hx => hd.1 x (h.sub x hx), h.nd⟩
 ·show ((boundedQ p wh).rows.map rawR).length + _ ≤ 400
  rw [List.length_map, len_bounded]
  omega
theorem proves_same {p : ProgF} {wh : List Int} {t : TreeF} {lim : Option Rat} (hr : rightP p = 0) (hd : distinctB p.vars wh = true) (hl : p.rows.length + 2 * wh.length ≤ 400)
  (hleaf : ∀ (vars bits op : List Int) (c : CaseF), c ∈ t.cases → NInv wh vars bits op → leafB (nodeQ p wh vars bits) c.cert lim = leafR p wh t vars bits c.cert) :
  ∀ (n m : Nat) (at_ : Int) (vars bits op : List Int) (left : Nat), left ≤ n → left < m → 0 ≤ at_ → at_ < t.cases.length → NInv wh vars bits op →
   (provesM t.cases lim m (nodeQ p wh vars bits) at_ op left).1 = (provesR p wh t n at_ vars bits left).2 ∧ ((provesR p wh t n at_ vars bits left).2 = true → (provesM t.cases lim m (nodeQ p wh vars bits) at_ op left).2 = left - (provesR p wh t n at_ vars bits left).1)
 | 0, 0, _, _, _, _, _, _, hm, _, _, _ => absurd hm (Nat.not_lt_zero _)
 | n + 1, 0, _, _, _, _, _, _, hm, _, _, _ => absurd hm (Nat.not_lt_zero _)
 | 0, m + 1, at_, vars, bits, op, left, hn, hm, h0, h1, hi => by
  obtain rfl : left = 0 := by omega
  unfold provesR provesM
  rw [if_pos (.inr (.inr (.inl rfl)))]
  exact ⟨rfl, fun h => by cases h⟩
 | n + 1, m + 1, at_, vars, bits, op, left, hn, hm, h0, h1, hi => by
  have ih := proves_same hr hd hl hleaf n m
  by_cases hz : left = 0
  ·subst hz
   unfold provesR provesM
   rw [if_pos (.inr (.inr (.inl rfl))), if_pos rfl]
   exact ⟨rfl, fun h => by cases h⟩
  have hfit := hi.fit
  have hrn : rightP (rawP (nodeQ p wh vars bits)) = 0 := right_node hr (by omega)
  obtain ⟨c, hc⟩ : ∃ c, t.cases[at_.toNat]? = some c := ⟨t.cases[at_.toNat]'(by omega), List.getElem?_eq_getElem _⟩
  have hout0 : ¬ (at_ < 0 ∨ (t.cases.length : Int) ≤ at_ ∨ left = 0 ∨ rightP (rawP (nodeQ p wh vars bits)) ≠ 0) := by
   rintro (h | h | h | h)
   ·omega
   ·omega
   ·exact hz h
   ·exact h hrn
  unfold provesR provesM
  rw [if_neg hout0, if_neg hz, hc]
  dsimp only
  by_cases hv : c.var = -1
  ·rw [if_pos hv, if_pos hv]
   exact ⟨hleaf vars bits op c (List.mem_of_getElem? hc) hi, fun _ => rfl⟩
  rw [if_neg hv, if_neg hv]
  by_cases hb : (restL op c.var).length = op.length ∨ c.zero ≤ at_ ∨ c.one ≤ at_
  ·have hs : stepBad t.cases wh vars at_ c = true := by
    unfold stepBad
    rcases hb with h | h | h
    ·rw [rest_len, hi.has] at h
     cases h1 : hasB wh c.var <;> cases h2 : hasB vars c.var <;> simp [h1, h2] at h ⊢
    ·simp [h]
    ·simp [h]
   rw [if_pos hb, if_pos hs]
   exact ⟨rfl, fun h => by cases h⟩
  rw [if_neg hb]
  have hb1 : hasB op c.var = true := by
   cases h : hasB op c.var with
   | true => rfl
   | false => exact absurd (.inl (rest_len.2 h)) hb
  rw [hi.has, Bool.and_eq_true] at hb1
  have hb2 : hasB vars c.var = false := by simpa using hb1.2
  have hz0 : at_ < c.zero := by omega
  have ho0 : at_ < c.one := by omega
  have hout : ∀ (q : ProgQ) (a : Int) (o : List Int) (l : Nat), (t.cases.length : Int) ≤ a → (provesM t.cases lim m q a o l).1 = false := by
   intro q a o l h
   cases m with
   | zero => rfl
   | succ m => unfold provesM; rw [if_pos (.inr (.inl h))]
  rw [node_next c.var 0 hi.len, node_next c.var 1 hi.len]
  by_cases hs : stepBad t.cases wh vars at_ c = true
  ·rw [if_pos hs]
   refine ⟨?_, fun h => by cases h⟩
   have hbig : (t.cases.length : Int) ≤ c.zero ∨ (t.cases.length : Int) ≤ c.one := by
    unfold stepBad at hs
    simp [hb1.1, hb2] at hs
    omega
   split
   ·rename_i hp
    rcases hbig with h | h
    ·rw [hout _ _ _ _ h] at hp; cases hp
    ·exact hout _ _ _ _ h
   ·rfl
  rw [if_neg hs]
  have hin : c.zero < t.cases.length ∧ c.one < t.cases.length := by
   unfold stepBad at hs
   simp [hb1.1, hb2] at hs
   omega
  have i0 := ih c.zero (vars ++ [c.var]) (bits ++ [0]) (restL op c.var) (left - 1) (by omega) (by omega) (by omega) hin.1 (hi.next hb1.1 hb2 0 (.inl rfl))
  by_cases hp : (provesR p wh t n c.zero (vars ++ [c.var]) (bits ++ [0]) (left - 1)).2 = true
  ·rw [if_pos hp, if_pos (i0.1.trans hp), i0.2 hp]
   have hle := provesR_le p wh t n c.zero (vars ++ [c.var]) (bits ++ [0]) (left - 1)
   have i1 := ih c.one (vars ++ [c.var]) (bits ++ [1]) (restL op c.var) (left - 1 - (provesR p wh t n c.zero (vars ++ [c.var]) (bits ++ [0]) (left - 1)).1) (by omega) (by omega) (by omega) hin.2 (hi.next hb1.1 hb2 1 (.inr rfl))
   exact ⟨i1.1, fun h => (i1.2 h).trans (by show _ = left - (1 + _ + _); omega)⟩
  ·rw [if_neg hp, if_neg (by rw [i0.1]; exact hp)]
   exact ⟨rfl, fun h => by cases h⟩
def ECase0 (w : World) (vs : Array Value) (c : CaseF) : Prop := ∃ v1 v2 v3, vs = #[.int .i64 c.var, .int .i64 c.zero, .int .i64 c.one, .int .i64 c.cert.kind, v1, v2, v3] ∧ (I64 c.var ∧ I64 c.zero ∧ I64 c.one) ∧ CG0 w (.agg #[.int .i64 c.cert.kind, v1, v2, v3]) c.cert
theorem ECase0.stays : Stays ECase0 := fun w w1 vs c h hb => by
 obtain ⟨v1, v2, v3, e, hi, hc⟩ := h
 exact ⟨v1, v2, v3, e, hi, hc.of_below hb⟩
abbrev CL0 (w : World) (v : Value) (cs : List CaseF) : Prop := SL 7 ECase0 w v cs
theorem CL0.at7 {w : World} {A : Option Addr} {n c : Nat} {cs : List CaseF} (h : CL0 w (.slice A n c) cs) {j : Nat} {x : CaseF} (hj : cs[j]? = some x) :
  ∃ g o B1 d1 B2 d2 B3 d3, A = some ⟨g, o, none⟩ ∧ g < w.heap.size ∧ (w.cell? ⟨g, o + j * 7, none⟩ = some (.int .i64 x.var) ∧ w.cell? ⟨g, o + j * 7 + 1, none⟩ = some (.int .i64 x.zero) ∧ w.cell? ⟨g, o + j * 7 + 2, none⟩ = some (.int .i64 x.one) ∧ w.cell? ⟨g, o + j * 7 + 3, none⟩ = some (.int .i64 x.cert.kind) ∧
   w.cell? ⟨g, o + j * 7 + 4, none⟩ = some (.slice B1 x.cert.x.length d1) ∧ w.cell? ⟨g, o + j * 7 + 5, none⟩ = some (.slice B2 x.cert.y.length d2) ∧ w.cell? ⟨g, o + j * 7 + 6, none⟩ = some (.slice B3 x.cert.ray.length d3)) ∧ Hid (CG0 w (.agg #[.int .i64 x.cert.kind, .slice B1 x.cert.x.length d1, .slice B2 x.cert.y.length d2, .slice B3 x.cert.ray.length d3]) x.cert) := by
 obtain ⟨g, o, vs, hA, hg, hs, hc, v1, v2, v3, rfl, hi, hcr⟩ := h.at_ hj
 obtain ⟨B1, d1, B2, d2, B3, d3, e, _, _, _⟩ := hcr.opened
 injection e with e
 injection e with e
 injection e with e0 e
 injection e with e1 e
 injection e with e2 e
 injection e with e3 e
 subst e1 e2 e3
 exact ⟨g, o, B1, d1, B2, d2, B3, d3, hA, hg, ⟨hc 0 _ rfl, hc 1 _ rfl, hc 2 _ rfl, hc 3 _ rfl, hc 4 _ rfl, hc 5 _ rfl, hc 6 _ rfl⟩, hcr⟩
def TG0 (w : World) (v : Value) (t : TreeF) : Prop := (t.x.length ≤ 9223372036854775807 ∧ t.ray.length ≤ 9223372036854775807 ∧ t.cases.length ≤ 9223372036854775807) ∧ ∃ v1 v2 v3, v = .agg #[.int .i64 t.kind, v1, v2, v3] ∧ I64 t.kind ∧ FL0 w v1 t.x ∧ FL0 w v2 t.ray ∧ CL0 w v3 t.cases
theorem TG0.of_below {w w1 : World} {v : Value} {t : TreeF} (h : TG0 w v t) (hb : Below w.heap.size w w1) : TG0 w1 v t := by
 obtain ⟨hl, v1, v2, v3, e, hi, h1, h2, h3⟩ := h
 exact ⟨hl, v1, v2, v3, e, hi, h1.below EF0.stays hb, h2.below EF0.stays hb, SL.below ECase0.stays h3 hb⟩
theorem TG0.opened {w : World} {v : Value} {t : TreeF} (h : TG0 w v t) : ∃ A1 c1 A2 c2 A3 c3, v = .agg #[.int .i64 t.kind, .slice A1 t.x.length c1, .slice A2 t.ray.length c2, .slice A3 t.cases.length c3] ∧ Hid (FL0 w (.slice A1 t.x.length c1) t.x) ∧ Hid (FL0 w (.slice A2 t.ray.length c2) t.ray) ∧ Hid (CL0 w (.slice A3 t.cases.length c3) t.cases) := by
 obtain ⟨_, v1, v2, v3, rfl, hi, h1, h2, h3⟩ := h
 obtain ⟨A1, c1, rfl, _⟩ := h1.slice
 obtain ⟨A2, c2, rfl, _⟩ := h2.slice
 obtain ⟨A3, c3, rfl, _⟩ := h3.slice
 exact ⟨A1, c1, A2, c2, A3, c3, rfl, h1, h2, h3⟩
def treeIn (t : TreeF) : Bool := decide (t.cases.length ≤ 800) && (certB ⟨0, t.x, [], t.ray⟩ 41 && t.cases.all fun c => certB c.cert 41)
theorem treeIn_ok {t : TreeF} (h : treeIn t = true) : t.cases.length ≤ 800 ∧ certB ⟨0, t.x, [], t.ray⟩ 41 = true ∧ ∀ c ∈ t.cases, certB c.cert 41 = true := by
 unfold treeIn at h
 simp only [Bool.and_eq_true, decide_eq_true_eq, List.all_eq_true] at h
 exact h
theorem TG0.full {w : World} {v : Value} {t : TreeF} (h : TG0 w v t) (ht : treeIn t = true) : TR w v t := by
 obtain ⟨_, h1, h2⟩ := treeIn_ok ht
 obtain ⟨_, hx, _, hr⟩ := certB_ok h1
 obtain ⟨hl, v1, v2, v3, e, hi, f1, f2, f3⟩ := h
 have f4 := SL.mapE (F := ECase) id f3 fun vs c hm he => by
  obtain ⟨u1, u2, u3, e, hi, hc⟩ := he
  exact ⟨u1, u2, u3, e, hi, hc.full (h2 c hm)⟩
 rw [List.map_id] at f4
 exact ⟨v1, v2, v3, e, hi, f1.full (by decide) hx, f2.full (by decide) hr, f4⟩
theorem nil_fl0 (w : World) : FL0 w (.slice none 0 0) [] := ⟨none, 0, rfl, Nat.le_refl _, fun h => absurd h (by simp)⟩
set_option maxHeartbeats 32000000 in
set_option maxRecDepth 100000 in
theorem treein_calls (w : World) (v : Value) (t : TreeF) (h : TG0 w v t) : Calls Tryz.prog 8 #[v] w fun e w' => BPost w (treeIn t) e w' := by
 have hl := h.1
 have hl3 := hl.2.2
 have HLX : Hid (t.x.length ≤ 9223372036854775807 ∧ t.ray.length ≤ 9223372036854775807) := ⟨hl.1, hl.2.1⟩
 obtain ⟨B1, d1, B2, d2, B3, d3, rfl, HX, HR, HC⟩ := h.opened
 clear h hl
 obtain ⟨kd, hkd⟩ : ∃ n, n = t.kind := ⟨_, rfl⟩
 rw [← hkd]
 clear hkd
 go_enter Tryz.func8, Tryz.ntmps8
 by_cases a1 : 800 < t.cases.length
 ·have b1 : (800 : Int) < (t.cases.length : Int) := by omega
  have b2 : decide ((800 : Int) < (t.cases.length : Int)) = true := decide_eq_true b1
  have HE : Hid (treeIn t = false) := by unfold Hid treeIn; rw [decide_eq_false (by omega)]; rfl
  clear a1
  go_wp2_with fail
  go_ret
  exact ⟨by rw [HE.out]; rfl, below_new w _⟩
 have b1 : ¬ ((800 : Int) < (t.cases.length : Int)) := by omega
 have b2 : decide ((800 : Int) < (t.cases.length : Int)) = false := decide_eq_false b1
 have HA1 := Hd a1
 clear a1
 go_wp2_with fail
 have K0 := Hd (HS.one (w := w) #[.int .i64 kd, .slice B1 t.x.length d1, .slice B2 t.ray.length d2, .slice B3 t.cases.length d3] 30)
 generalize w.alloc (.cells #[.int .i64 kd, .slice B1 t.x.length d1, .slice B2 t.ray.length d2, .slice B3 t.cases.length d3] 30) = W0 at *
 refine (cert_calls W0 _ ⟨0, t.x, [], t.ray⟩ 41 ⟨⟨HLX.out.1, by simp, HLX.out.2⟩, _, _, _, rfl, ⟨by show (-9223372036854775808 : Int) ≤ 0; decide, by show (0 : Int) ≤ 9223372036854775807; decide⟩, HX.out.below EF0.stays K0.out.2, nil_fl0 _, HR.out.below EF0.stays K0.out.2⟩ (by decide)).mono ?_
 rintro e w1 ⟨rfl, hb⟩
 have K1 := Hd (K0.out.step hb)
 clear hb K0
 obtain ⟨y0, y1, y2, y3⟩ := (K1.out.blk 0 rfl).c4
 have hltt := (K1.out.blk 0 rfl).lt
 cases h1 : certB ⟨0, t.x, [], t.ray⟩ 41
 case false =>
  have HE : Hid (treeIn t = false) := by unfold Hid treeIn; rw [h1]; simp
  clear h1
  go_wp2_with fail
  go_ret
  exact ⟨by rw [HE.out]; rfl, K1.out.2⟩
 have HE0 : Hid (treeIn t = t.cases.all fun c => certB c.cert 41) := by unfold Hid treeIn; rw [h1, decide_eq_true (by have := HA1.out; omega)]; rfl
 clear h1
 go_wp2_with fail
 clear y0 y1 y2 y3 hltt
 go_loopw [21] (fun vi wr => ∃ i : Nat, i ≤ t.cases.length ∧ vi = .int .i64 (i : Int) ∧ (∀ (j : Nat) (c : CaseF), j < i → t.cases[j]? = some c → certB c.cert 41 = true) ∧ HS w [(w.heap.size, 30, #[.int .i64 kd, .slice B1 t.x.length d1, .slice B2 t.ray.length d2, .slice B3 t.cases.length d3])] wr) (fun vi _ => t.cases.length - (intOf vi).toNat)
 case atStart => exact ⟨0, Nat.zero_le _, rfl, fun j _ h => absurd h (Nat.not_lt_zero _), K1.out⟩
 case round =>
  obtain ⟨i, hi, rfl, hall, hs⟩ := hrel
  have HA := Hd hall
  have KK := Hd hs
  clear hall hs K1
  by_cases hlt : i < t.cases.length
  ·obtain ⟨c, hc⟩ : ∃ c, t.cases[i]? = some c := ⟨t.cases[i], List.getElem?_eq_getElem hlt⟩
   obtain ⟨gC, oC, D1, e1, D2, e2, D3, e3, rfl, hgC, ⟨k0, k1, k2, k3, k4, k5, k6⟩, HCR⟩ := CL0.at7 (SL.below ECase0.stays HC.out KK.out.2) hc
   have HC1 := Hd hc
   have m1 : (i : Int) < (t.cases.length : Int) := by omega
   have m3 : (i : Int).toNat = i := by omega
   have m4 : (0 : Int) ≤ (i : Int) := by omega
   clear hc
   go_wp2_with fail
   have hbn := below_new wr (.cells #[.int .i64 c.var, .int .i64 c.zero, .int .i64 c.one, .int .i64 c.cert.kind, .slice D1 c.cert.x.length e1, .slice D2 c.cert.y.length e2, .slice D3 c.cert.ray.length e3] 69)
   have K2 := Hd (KK.out.step hbn)
   refine (cert_calls _ _ c.cert 41 (HCR.out.of_below hbn) (by decide)).mono ?_
   rintro e w5 ⟨rfl, hb⟩
   have K5 := Hd (K2.out.step hb)
   clear hb hbn K2 k0 k1 k2 k3 k4 k5 k6 hgC
   cases h2 : certB c.cert 41
   case false =>
    have HE : Hid (treeIn t = false) := by
     unfold Hid
     rw [HE0.out, List.all_eq_false]
     exact ⟨c, List.mem_of_getElem? HC1.out, by simp [h2]⟩
    clear h2
    go_wp2_with fail
    go_ret
    exact ⟨by rw [HE.out]; rfl, K5.out.2⟩
   have HNX : Hid (∀ (j : Nat) (c : CaseF), j < i + 1 → t.cases[j]? = some c → certB c.cert 41 = true) := fun j y hj hy => by
    by_cases hji : j = i
    ·rw [hji, HC1.out] at hy
     injection hy with e
     rw [← e]
     exact h2
    ·exact HA.out j y (by omega) hy
   clear h2
   go_wp2_with fail
   go_roundw
   case rel => exact ⟨i + 1, by omega, by go_num, HNX.out, K5.out⟩
   case measure => simp [intOf]; omega
  ·obtain rfl : i = t.cases.length := by omega
   have HE : Hid (treeIn t = true) := by
    unfold Hid
    rw [HE0.out, List.all_eq_true]
    intro c hc
    obtain ⟨j, hj⟩ := List.getElem?_of_mem hc
    exact HA.out j c (List.getElem?_eq_some_iff.1 hj).1 hj
   go_wp2_with fail
   go_ret
   exact ⟨by rw [HE.out]; rfl, KK.out.2⟩
theorem wholes_20 {p : ProgF} {xs : List Int} (hr : rightP p = 0) (h : distinctB p.vars xs = false ∨ (xs.any fun v => p.free.getD v.toNat false) = true) : wholesP p xs = 20 := by
 unfold wholesP
 rw [if_neg (by simp [hr])]
 by_cases q : distinctB p.vars xs = false
 ·rw [if_pos q]
 ·rw [if_neg q]
  rcases h with h | h
  ·exact absurd h q
  ·rw [if_pos h]
theorem wholes_0 {p : ProgF} {xs : List Int} (hr : rightP p = 0) (h : ∀ (j : Nat) (x : Int), xs[j]? = some x → (0 ≤ x ∧ x < p.vars ∧ hasB (xs.take j) x = false) ∧ p.free.getD x.toNat false = false) : wholesP p xs = 0 := by
 unfold wholesP
 rw [if_neg (by simp [hr]), if_neg (by rw [distinct_mk fun j x hj => (h j x hj).1]; simp), if_neg]
 rw [List.any_eq_true]
 rintro ⟨x, hx, hb⟩
 obtain ⟨j, hj⟩ := List.getElem?_of_mem hx
 rw [(h j x hj).2] at hb
 cases hb
set_option maxHeartbeats 32000000 in
set_option maxRecDepth 100000 in
theorem rwholes_calls (w : World) (v vx : Value) (p : ProgF) (xs : List Int) (h : PR w v p) (hx : IL w vx xs) (hxl : xs.length ≤ 4000000000000000) (hxi : ∀ x ∈ xs, I64 x) : Calls Tryz.prog 20 #[v, vx] w fun e w' => IPost w (wholesP p xs) e w' := by
 have HP := Hd h
 have HX := Hd hx
 have HXI := Hd hxi
 obtain ⟨X1, xc, rfl, hxc⟩ := hx.slice
 obtain ⟨A1, c1, A2, c2, A3, c3, rfl, HI, H1, H2, H3⟩ := h.opened
 clear h hx hxi
 obtain ⟨vars, hv⟩ : ∃ n, n = p.vars := ⟨_, rfl⟩
 rw [← hv] at HP ⊢
 have HV := Hd hv
 clear hv
 go_enter Tryz.func20, Tryz.ntmps20
 go_wp2_with fail
 have H0 := Hd (HS.one (w := w) #[.int .i64 vars, .slice A1 p.free.length c1, .slice A2 p.goal.length c2, .slice A3 p.rows.length c3] 26)
 generalize w.alloc (.cells #[.int .i64 vars, .slice A1 p.free.length c1, .slice A2 p.goal.length c2, .slice A3 p.rows.length c3] 26) = W0 at *
 refine (r2right_calls W0 _ p (HP.out.of_below H0.out.2)).mono ?_
 rintro e w1 ⟨rfl, hb⟩
 have K1 := Hd (H0.out.step hb)
 obtain ⟨x0, x1, x2, x3⟩ := K1.out.c4 0 rfl
 have hlt1 := (K1.out.blk 0 rfl).lt
 clear hb H0
 by_cases q1 : rightP p = 0
 case neg =>
  have u1 : (rightP p != 0) = true := bneI q1
  have HC : Hid (wholesP p xs = rightP p) := by unfold Hid wholesP; rw [if_pos q1]
  clear q1
  go_wp2_with fail
  go_ret
  exact ⟨by rw [HC.out]; rfl, K1.out.2⟩
 have u1 : (rightP p != 0) = false := beqI q1
 have hrl := rightP_len q1
 have HRZ := Hd q1
 have HFL : Hid ((p.free.length : Int) = vars) := by unfold Hid; rw [HV.out]; exact hrl.1
 have HVB : Hid (1 ≤ vars ∧ vars ≤ 160) := by unfold Hid; rw [HV.out]; exact ⟨hrl.2.2.1, hrl.2.2.2.1⟩
 clear q1 hrl
 go_wp2_with fail
 clear x0 x1 x2 x3 hlt1
 go_loopw [15] (fun vi wr => ∃ i : Nat, i ≤ xs.length ∧ vi = .int .i64 (i : Int) ∧ (∀ (j : Nat) (x : Int), j < i → xs[j]? = some x → (0 ≤ x ∧ x < vars ∧ hasB (xs.take j) x = false) ∧ p.free.getD x.toNat false = false) ∧ HS w [(w.heap.size, 26, #[.int .i64 vars, .slice A1 p.free.length c1, .slice A2 p.goal.length c2, .slice A3 p.rows.length c3])] wr) (fun vi _ => xs.length - (intOf vi).toNat)
 case atStart => exact ⟨0, Nat.zero_le _, rfl, fun j _ h => absurd h (Nat.not_lt_zero _), K1.out⟩
 case round =>
  obtain ⟨i, hi, rfl, hall, hs⟩ := hrel
  have HA := Hd hall
  have KK := Hd hs
  clear hall hs K1
  obtain ⟨x0, x1, x2, x3⟩ := KK.out.c4 0 rfl
  have hlt1 := (KK.out.blk 0 rfl).lt
  by_cases hlt : i < xs.length
  ·obtain ⟨x, hx⟩ : ∃ x, xs[i]? = some x := ⟨xs[i], List.getElem?_eq_getElem hlt⟩
   obtain ⟨g, o, rfl, hg, k0⟩ := IL.at1 (HX.out.below EI.stays KK.out.2) hx
   have HX1 := Hd hx
   clear hx
   have m1 : (i : Int) < (xs.length : Int) := by omega
   have m3 : (i : Int).toNat = i := by omega
   have m4 : (0 : Int) ≤ (i : Int) := by omega
   by_cases q3 : x < 0
   ·have q3' : decide (x < 0) = true := decide_eq_true q3
    have HC : Hid (wholesP p xs = 20) := wholes_20 HRZ.out (.inl (distinct_no HX1.out (.inl q3)))
    clear q3
    go_wp2_with fail
    go_ret
    exact ⟨by rw [HC.out]; rfl, KK.out.2⟩
   have q3' : decide (x < 0) = false := decide_eq_false q3
   have q3'' : 0 ≤ x := by omega
   by_cases q4 : vars ≤ x
   ·have q4' : decide (vars ≤ x) = true := decide_eq_true q4
    have HC : Hid (wholesP p xs = 20) := wholes_20 HRZ.out (.inl (distinct_no HX1.out (.inr (.inl (by rw [← HV.out]; exact q4)))))
    clear q3 q4 q3''
    go_wp2_with fail
    go_ret
    exact ⟨by rw [HC.out]; rfl, KK.out.2⟩
   have q4' : decide (vars ≤ x) = false := decide_eq_false q4
   have q4'' : x < vars := by omega
   clear q3 q4
   go_wp2_with fail
   refine (has_calls _ _ (xs.take i) x (SL.take (HX.out.below EI.stays KK.out.2) i (Nat.le_of_lt hlt) (Nat.le_trans (Nat.le_of_lt hlt) hxc)) (by rw [List.length_take]; omega)).mono ?_
   rintro e w2 ⟨rfl, hb⟩
   have K2 := Hd (KK.out.step hb)
   clear hb x0 x1 x2 x3 hlt1 k0
   obtain ⟨x0, x1, x2, x3⟩ := K2.out.c4 0 rfl
   have hlt1 := (K2.out.blk 0 rfl).lt
   cases hh : hasB (xs.take i) x
   case true =>
    have HC : Hid (wholesP p xs = 20) := wholes_20 HRZ.out (.inl (distinct_no HX1.out (.inr (.inr hh))))
    clear hh
    go_wp2_with fail
    go_ret
    exact ⟨by rw [HC.out]; rfl, K2.out.2⟩
   have HH := Hd hh
   clear hh
   obtain ⟨n, rfl⟩ : ∃ n : Nat, x = n := ⟨x.toNat, by omega⟩
   have hnl : n < p.free.length := by have := HFL.out; omega
   obtain ⟨b, hb⟩ : ∃ b, p.free[n]? = some b := ⟨p.free[n], List.getElem?_eq_getElem hnl⟩
   obtain ⟨gf, of, rfl, hgf, k1⟩ := BL.at1 (SL.below EB.stays H1.out K2.out.2) hb
   have HB1 : Hid (p.free.getD (n : Int).toNat false = b) := by unfold Hid; rw [Int.toNat_natCast, List.getD_eq_getElem?_getD, hb]; rfl
   have m2 : (n : Int) < (p.free.length : Int) := by omega
   have m5 : (n : Int).toNat = n := by omega
   have m6 : (0 : Int) ≤ (n : Int) := by omega
   clear hb
   cases b
   case true =>
    have HC : Hid (wholesP p xs = 20) := wholes_20 HRZ.out (.inr (List.any_eq_true.2 ⟨_, List.mem_of_getElem? HX1.out, HB1.out⟩))
    go_wp2_with fail
    go_ret
    exact ⟨by rw [HC.out]; rfl, K2.out.2⟩
   case false =>
    have HNX : Hid (∀ (j : Nat) (x : Int), j < i + 1 → xs[j]? = some x → (0 ≤ x ∧ x < vars ∧ hasB (xs.take j) x = false) ∧ p.free.getD x.toNat false = false) := fun j y hj hy => by
     by_cases hji : j = i
     ·rw [hji, HX1.out] at hy
      injection hy with e
      rw [← e, hji]
      exact ⟨⟨q3'', q4'', HH.out⟩, HB1.out⟩
     ·exact HA.out j y (by omega) hy
    go_wp2_with fail
    go_roundw
    case rel => exact ⟨i + 1, by omega, by go_num, HNX.out, K2.out⟩
    case measure => simp [intOf]; omega
  ·obtain rfl : i = xs.length := by omega
   have HC : Hid (wholesP p xs = 0) := wholes_0 HRZ.out fun j x hj => by
    rw [← HV.out]
    exact HA.out j x (List.getElem?_eq_some_iff.1 hj).1 hj
   go_wp2_with fail
   go_ret
   exact ⟨by rw [HC.out]; rfl, KK.out.2⟩
set_option maxHeartbeats 32000000 in
set_option maxRecDepth 100000 in
theorem risone_calls (w : World) (v : Value) (f : RawF) (h : FR w v f) : Calls Tryz.prog 92 #[v] w fun e w' => BPost w (decide (ordQ (fixQ f) 1 = 0)) e w' := by
 obtain ⟨A1, n1, c1, A2, n2, c2, rfl, H⟩ := h.opened
 clear h
 go_enter Tryz.func92, Tryz.ntmps92
 go_wp2_with fail
 have HB1 := Hd (below_new w (.cells #[.bool f.neg, .slice A1 n1 c1, .slice A2 n2 c2] 46))
 obtain ⟨x0, x1, x2⟩ := (Blk.new w 46 #[.bool f.neg, .slice A1 n1 c1, .slice A2 n2 c2]).c3
 have hlt1 := (Blk.new w 46 #[.bool f.neg, .slice A1 n1 c1, .slice A2 n2 c2]).lt
 generalize w.alloc (.cells #[.bool f.neg, .slice A1 n1 c1, .slice A2 n2 c2] 46) = W0 at *
 refine wp_chainS (S := Below W0.heap.size W0) [([0], 1), ([], 2)] [3, 4] (by kernel_rfl) (by kernel_rfl) (by kernel_rfl) rfl (Below.drew (Below.refl _ _)) ?_
 refine ⟨?_, _, ?_, rfl, ?_⟩
 rotate_left
 ·((refine ⟨_, ?_, rfl, Or.inl ⟨by rfl, ?_⟩, ?_⟩; rotate_left; focus (intro W hW; replace hW := (bcell hW).1; go_simp; try with_reducible rfl)); (try simp only [SQ]))
  exact rfl
 have D0 : Hid (Below W0.heap.size W0 W0.drew) := Below.drew (Below.refl _ _)
 clear x0 x1 x2 hlt1
 go_wp2_with fail
 refine (rwhole_calls _ 1 (by omega) (by omega)).mono ?_
 rintro e w1 ⟨v, rfl, hv, hb⟩
 obtain ⟨E1, h1, i1, E2, h2, i2, rfl, HV⟩ := hv.opened
 have D1 := Hd (below_next D0.out hb)
 clear hv hb
 go_wp2_with fail
 refine And.intro D1.out ⟨_, _, rfl, rfl, ?_⟩
 go_wp2_with fail
 refine (rcmp_calls _ _ _ f (rawQ 1) (H.out.of_below (below_next HB1.out D1.out)) (FR.of_fq HV.out small_one)).mono ?_
 rintro e w2 ⟨rfl, hb⟩
 rw [fixQ_raw _ small_one]
 have D2 := Hd (below_next D1.out hb)
 clear hb
 by_cases z : ordQ (fixQ f) 1 = 0
 ·have z1 : (ordQ (fixQ f) 1 == 0) = true := beqI' z
  have HE : Hid (decide (ordQ (fixQ f) 1 = 0) = true) := decide_eq_true z
  clear z
  go_wp2_with fail
  refine And.intro D2.out ?_
  refine ⟨?_, ?_, ?_⟩
  rotate_left
  ·(iterate 2 ((refine ⟨_, ?_, rfl, Or.inl ⟨by rfl, ?_⟩, ?_⟩; rotate_left; focus (intro W hW; replace hW := (bcell hW).1; go_simp; try with_reducible rfl)); (try simp only [SQ])))
   exact rfl
  refine NoPanic.normal ?_
  go_wp2_with fail
  go_ret
  exact ⟨by rw [HE.out]; rfl, below_next HB1.out D2.out⟩
 ·have z1 : (ordQ (fixQ f) 1 == 0) = false := bneI' z
  have HE : Hid (decide (ordQ (fixQ f) 1 = 0) = false) := decide_eq_false z
  clear z
  go_wp2_with fail
  refine And.intro D2.out ?_
  refine ⟨?_, ?_, ?_⟩
  rotate_left
  ·(iterate 2 ((refine ⟨_, ?_, rfl, Or.inl ⟨by rfl, ?_⟩, ?_⟩; rotate_left; focus (intro W hW; replace hW := (bcell hW).1; go_simp; try with_reducible rfl)); (try simp only [SQ])))
   exact rfl
  refine NoPanic.normal ?_
  go_wp2_with fail
  go_ret
  exact ⟨by rw [HE.out]; rfl, below_next HB1.out D2.out⟩
noncomputable def wholeAt (l : List RawF) (v : Int) : Bool := decide (ordQ (atQ l v) 0 = 0) || decide (ordQ (atQ l v) 1 = 0)
theorem whole_next {l : List RawF} {xs : List Int} {i : Nat} {y : Int} (h : ∀ (j : Nat) (x : Int), j < i → xs[j]? = some x → wholeAt l x = true) (hy : xs[i]? = some y) (hb : wholeAt l y = true) : ∀ (j : Nat) (x : Int), j < i + 1 → xs[j]? = some x → wholeAt l x = true := fun j x hj hx => by
 by_cases hji : j = i
 ·rw [hji, hy] at hx
  injection hx with e
  rw [← e]
  exact hb
 ·exact h j x (by omega) hx
theorem whole_all {l : List RawF} {xs : List Int} (h : ∀ (j : Nat) (x : Int), j < xs.length → xs[j]? = some x → wholeAt l x = true) : xs.all (wholeAt l) = true := by
 rw [List.all_eq_true]
 intro x hx
 obtain ⟨j, hj⟩ := List.getElem?_of_mem hx
 exact h j x (List.getElem?_eq_some_iff.1 hj).1 hj
theorem fix_none : fixQ ⟨false, [], []⟩ = 0 := fixQ_wrong fun h => (rightF_den h).1 rfl
theorem fr_none (w : World) : FR w (.agg #[.bool false, .slice none 0 0, .slice none 0 0]) ⟨false, [], []⟩ := ⟨⟨Nat.zero_le _, Nat.zero_le _⟩, _, _, rfl, Rd.nil _, Rd.nil _⟩
set_option maxHeartbeats 32000000 in
set_option maxRecDepth 100000 in
theorem riswhole_calls (w : World) (vx v : Value) (xs : List Int) (l : List RawF) (hx : IL w vx xs) (h : FL w v l) (hxl : xs.length ≤ 4000000000000000) (hin : ∀ x ∈ xs, 0 ≤ x ∧ x < (l.length : Int)) : Calls Tryz.prog 48 #[vx, v] w fun e w' => BPost w (xs.all (wholeAt l)) e w' := by
 have HX := Hd hx
 have HF := Hd h
 have HIN := Hd hin
 obtain ⟨X1, xc, rfl, hxc⟩ := hx.slice
 obtain ⟨A1, c1, rfl, _⟩ := h.slice
 clear hx h hin
 go_enter Tryz.func48, Tryz.ntmps48
 go_wp2_with fail
 go_loopw [9] (fun vi wr => ∃ i : Nat, i ≤ xs.length ∧ vi = .int .i64 (i : Int) ∧ (∀ (j : Nat) (x : Int), j < i → xs[j]? = some x → wholeAt l x = true) ∧ Below w.heap.size w wr) (fun vi _ => xs.length - (intOf vi).toNat)
 case atStart => exact ⟨0, Nat.zero_le _, rfl, fun j _ h => absurd h (Nat.not_lt_zero _), Below.refl _ _⟩
 case round =>
  obtain ⟨i, hi, rfl, hall, hs⟩ := hrel
  have HA := Hd hall
  have KK := Hd hs
  clear hall hs
  by_cases hlt : i < xs.length
  ·obtain ⟨x, hx⟩ : ∃ x, xs[i]? = some x := ⟨xs[i], List.getElem?_eq_getElem hlt⟩
   obtain ⟨gx, ox, rfl, hgx, k0⟩ := IL.at1 (HX.out.below EI.stays KK.out) hx
   have HX1 := Hd hx
   have hxr := HIN.out x (List.mem_of_getElem? hx)
   obtain ⟨n, rfl⟩ : ∃ n : Nat, x = n := ⟨x.toNat, by omega⟩
   have hnl : n < l.length := by omega
   obtain ⟨f, hf⟩ : ∃ f, l[n]? = some f := ⟨l[n], List.getElem?_eq_getElem hnl⟩
   obtain ⟨gf, of, C1, n1, e1, C2, n2, e2, rfl, hgf, j0, j1, j2, HFF⟩ := FL.at3 (HF.out.below EF.stays KK.out) hf
   have HF1 := Hd hf
   have m1 : (i : Int) < (xs.length : Int) := by omega
   have m2 : (n : Int) < (l.length : Int) := by omega
   have m3 : (i : Int).toNat = i := by omega
   have m5 : (n : Int).toNat = n := by omega
   have m4 : (0 : Int) ≤ (i : Int) := by omega
   have m6 : (0 : Int) ≤ (n : Int) := by omega
   have m7 : ¬ ((l.length : Int) ≤ (n : Int)) := by omega
   have m9 : decide (l.length ≤ n) = false := decide_eq_false (by omega)
   have m8 : decide ((l.length : Int) ≤ (n : Int)) = false := decide_eq_false m7
   clear hx hf hxr
   go_wp2_with fail
   refine wp_chainS (S := Below wr.heap.size wr) [([0, 1, 2, 3, 4, 5, 6, 7, 8, 9], 10), ([], 11), ([12, 13, 14, 15, 16, 17], 18)] [19, 20, 21] (by kernel_rfl) (by kernel_rfl) (by kernel_rfl) rfl (Below.drew (Below.refl _ _)) ?_
   refine ⟨?_, _, ?_, rfl, ?_⟩
   rotate_left
   ·(iterate 10 ((refine ⟨_, ?_, rfl, Or.inl ⟨by rfl, ?_⟩, ?_⟩; rotate_left; focus (intro W hW; replace hW := (bcell hW).1; go_simp; try with_reducible rfl)); (try simp only [SQ])))
    exact rfl
   have D0 : Hid (Below wr.heap.size wr wr.drew) := Below.drew (Below.refl _ _)
   go_wp2_with fail
   refine (rfix_calls _ _ ⟨false, [], []⟩ (fr_none _)).mono ?_
   rintro e w4 ⟨v, rfl, hv, hb⟩
   rw [fix_none] at hv
   obtain ⟨E1, h1, i1, E2, h2, i2, rfl, HV⟩ := hv.opened
   have D1 := Hd (below_next D0.out hb)
   clear hv hb
   go_wp2_with fail
   refine And.intro D1.out ⟨_, _, rfl, rfl, ?_⟩
   go_wp2_with fail
   refine (rcmp_calls _ _ _ f (rawQ 0) (HFF.out.of_below D1.out) (FR.of_fq HV.out small_nil)).mono ?_
   rintro e w5 ⟨rfl, hb⟩
   rw [fixQ_raw _ small_nil]
   have D2 := Hd (below_next D1.out hb)
   clear hb
   by_cases z1 : ordQ (fixQ f) 0 = 0
   ·have z2 : (ordQ (fixQ f) 0 != 0) = false := beqI z1
    have HNX : Hid (∀ (j : Nat) (x : Int), j < i + 1 → xs[j]? = some x → wholeAt l x = true) := whole_next HA.out HX1.out (by unfold wholeAt; rw [atQ_at HF1.out]; rw [z1]; rfl)
    clear z1
    go_wp2_with fail
    refine And.intro D2.out ⟨?_, _, ?_, rfl, ?_⟩
    rotate_left
    ·(iterate 2 ((refine ⟨_, ?_, rfl, Or.inl ⟨by rfl, ?_⟩, ?_⟩; rotate_left; focus (intro W hW; replace hW := (bcell hW).1; go_simp; try with_reducible rfl)); (try simp only [SQ]))); (iterate 4 ((refine ⟨_, undef, rfl, Or.inr ⟨by kernel_rfl, rfl⟩, ?_⟩); (try simp only [SQ])))
     exact rfl
    refine chain_skip (by kernel_rfl) (And.intro D2.out ?_)
    (try simp only [SQ])
    refine ⟨?_, ?_, ?_⟩
    rotate_left
    ·((refine ⟨_, undef, rfl, Or.inr ⟨by kernel_rfl, rfl⟩, ?_⟩); (try simp only [SQ])); (iterate 2 ((refine ⟨_, ?_, rfl, Or.inl ⟨by rfl, ?_⟩, ?_⟩; rotate_left; focus (intro W hW; replace hW := (bcell hW).1; go_simp; try with_reducible rfl)); (try simp only [SQ])))
     exact rfl
    refine NoPanic.normal ?_
    clear j0 j1 j2 k0 hgf hgx
    go_wp2_with fail
    go_roundw
    case rel => exact ⟨i + 1, by omega, by go_num, HNX.out, below_next KK.out D2.out⟩
    case measure => simp [intOf]; omega
   have z2 : (ordQ (fixQ f) 0 != 0) = true := bneI z1
   go_wp2_with fail
   refine And.intro D2.out ⟨?_, _, ?_, rfl, ?_⟩
   rotate_left
   ·(iterate 6 ((refine ⟨_, ?_, rfl, Or.inl ⟨by rfl, ?_⟩, ?_⟩; rotate_left; focus (intro W hW; replace hW := (bcell hW).1; go_simp; try with_reducible rfl)); (try simp only [SQ])))
    exact rfl
   go_wp2_with fail
   refine (risone_calls _ _ f (HFF.out.of_below D2.out)).mono ?_
   rintro e w6 ⟨rfl, hb⟩
   have D3 := Hd (below_next D2.out hb)
   clear hb
   by_cases z3 : ordQ (fixQ f) 1 = 0
   ·have HNX : Hid (∀ (j : Nat) (x : Int), j < i + 1 → xs[j]? = some x → wholeAt l x = true) := whole_next HA.out HX1.out (by unfold wholeAt; rw [atQ_at HF1.out]; rw [z3]; simp)
    have z4 : decide (ordQ (fixQ f) 1 = 0) = true := decide_eq_true z3
    clear z1 z3
    go_wp2_with fail
    refine And.intro D3.out ?_
    refine ⟨?_, ?_, ?_⟩
    rotate_left
    ·(iterate 3 ((refine ⟨_, ?_, rfl, Or.inl ⟨by rfl, ?_⟩, ?_⟩; rotate_left; focus (intro W hW; replace hW := (bcell hW).1; go_simp; try with_reducible rfl)); (try simp only [SQ])))
     exact rfl
    refine NoPanic.normal ?_
    clear j0 j1 j2 k0 hgf hgx
    go_wp2_with fail
    go_roundw
    case rel => exact ⟨i + 1, by omega, by go_num, HNX.out, below_next KK.out D3.out⟩
    case measure => simp [intOf]; omega
   ·have HE : Hid (xs.all (wholeAt l) = false) := by
     unfold Hid
     rw [List.all_eq_false]
     refine ⟨_, List.mem_of_getElem? HX1.out, ?_⟩
     unfold wholeAt
     rw [atQ_at HF1.out, decide_eq_false z1, decide_eq_false z3]
     decide
    have z4 : decide (ordQ (fixQ f) 1 = 0) = false := decide_eq_false z3
    clear z1 z3
    go_wp2_with fail
    refine And.intro D3.out ?_
    refine ⟨?_, ?_, ?_⟩
    rotate_left
    ·(iterate 3 ((refine ⟨_, ?_, rfl, Or.inl ⟨by rfl, ?_⟩, ?_⟩; rotate_left; focus (intro W hW; replace hW := (bcell hW).1; go_simp; try with_reducible rfl)); (try simp only [SQ])))
     exact rfl
    refine NoPanic.normal ?_
    go_wp2_with fail
    go_ret
    exact ⟨by rw [HE.out]; rfl, below_next KK.out D3.out⟩
  ·obtain rfl : i = xs.length := by omega
   have HE : Hid (xs.all (wholeAt l) = true) := whole_all HA.out
   go_wp2_with fail
   go_ret
   exact ⟨by rw [HE.out]; rfl, KK.out⟩
theorem PO0.po {b0 b bb : Nat} {w : World} {v : Value} {p : ProgQ} (h : PO0 b0 b w v p) (h0 : b0 ≤ bb) (h1 : bb ≤ b) : PO bb w v p := by
 obtain ⟨v1, v2, v3, e, hi, hf, hg, hr⟩ := h
 exact ⟨v1, v2, v3, e, hi, hf.raise h0, hg.lower h1, RO.lower hr h1⟩
def NodePost (w : World) (p : ProgQ) (b : Bool) (e : Ending) (w' : World) : Prop := ∃ v, e = .returned (.tuple #[v, .bool b]) ∧ PO w.heap.size w' v p ∧ Below w.heap.size w w'
set_option maxHeartbeats 32000000 in
set_option maxRecDepth 100000 in
theorem rnode_calls (w : World) (v vx vs vb : Value) (p : ProgF) (xs ys bs : List Int) (h : PR w v p) (hx : IL w vx xs) (hy : IL w vs ys) (hb : IL w vb bs) (hxl : xs.length ≤ 1000000) (hyl : ys.length ≤ 1000000) (hbl : bs.length ≤ 1000000) (hyi : ∀ x ∈ ys, I64 x) (hbi : ∀ x ∈ bs, I64 x) (hr : rightP p = 0) (hd : distinctB p.vars xs = true) : Calls Tryz.prog 93 #[v, vx, vs, vb] w fun e w' => NodePost w (nodeP p xs ys bs) (decide (nodeC p xs ys bs = 0)) e w' := by
 have HP := Hd h
 have HX := Hd hx
 have HYS := Hd hy
 have HBS := Hd hb
 have HYI := Hd hyi
 have HBI := Hd hbi
 obtain ⟨X1, xc, rfl, _⟩ := hx.slice
 obtain ⟨Y1, yc, rfl, _⟩ := hy.slice
 obtain ⟨Z1, zc, rfl, _⟩ := hb.slice
 obtain ⟨A1, c1, A2, c2, A3, c3, rfl, HI, H1, H2, H3⟩ := h.opened
 clear h hx hy hb hyi hbi
 obtain ⟨vars, hv⟩ : ∃ n, n = p.vars := ⟨_, rfl⟩
 rw [← hv] at HP hd ⊢
 have HV := Hd hv
 have HD := Hd hd
 have hrl := rightP_len hr
 have hlf : p.free.length ≤ 1000 := by have := hrl.1; have := hrl.2.2.2.1; omega
 have hlg : p.goal.length ≤ 1000 := by have := hrl.2.1; have := hrl.2.2.2.1; omega
 have hlr : p.rows.length ≤ 1000 := by have := hrl.2.2.2.2.1; omega
 have HLA : Hid (∀ r ∈ p.rows, r.a.length ≤ 1000) := fun r hr => by have := (hrl.2.2.2.2.2 r hr).1; have := hrl.2.2.2.1; omega
 have HVB : Hid (1 ≤ vars ∧ vars ≤ 160) := by unfold Hid; rw [HV.out]; exact ⟨hrl.2.2.1, hrl.2.2.2.1⟩
 have HR0 := Hd hr
 clear hv hd hr hrl
 go_enter Tryz.func93, Tryz.ntmps93
 go_wp2_with fail
 have KK := Hd (HS.two (w := w) #[.int .i64 vars, .slice A1 p.free.length c1, .slice A2 p.goal.length c2, .slice A3 p.rows.length c3] #[.int .i64 0, .slice none 0 0, .slice none 0 0, .slice none 0 0] 26 26)
 generalize (w.alloc (.cells #[.int .i64 vars, .slice A1 p.free.length c1, .slice A2 p.goal.length c2, .slice A3 p.rows.length c3] 26)).alloc (.cells #[.int .i64 0, .slice none 0 0, .slice none 0 0, .slice none 0 0] 26) = W0 at *
 refine (rclean_v W0 vars _ _ _ _ _ _ p HV.out (HP.out.of_below KK.out.2) hlf hlg hlr HLA.out).mono ?_
 rintro e w2 ⟨v2, v3, rfl, hq, hro, hb⟩
 rw [show (cleanQ p).vars = vars from HV.out.symm]
 have hq' : QO w.heap.size w2 v2 (p.goal.map fixQ) := hq.lower KK.out.2.size
 have hro' : RO w.heap.size w2 v3 (p.rows.map cleanR) := RO.lower hro KK.out.2.size
 obtain ⟨B2, d2, ev2, _⟩ := hq'.slice
 rw [List.length_map] at ev2
 subst ev2
 obtain ⟨B3, d3, ev3, _⟩ := OL.slice hro'
 rw [List.length_map] at ev3
 subst ev3
 have K2 := Hd (KK.out.step hb)
 have hfr' : FrO w.heap.size w2 (.slice A1 p.free.length c1) p.free := (FrO.old H1.out).below K2.out.2
 have hsz3 : w.heap.size + 2 ≤ w2.heap.size := by have : w.heap.size + 1 < w2.heap.size := (K2.out.blk 0 rfl).lt; omega
 obtain ⟨x0, x1, x2, x3⟩ := K2.out.c4 1 rfl
 have hlt2 := (K2.out.blk 1 rfl).lt
 clear hq hro hb
 go_wp2_with fail
 have hbn := below_new w2 (.cells #[.int .i64 vars, .slice A1 p.free.length c1, .slice B2 p.goal.length d2, .slice B3 p.rows.length d3] 26)
 have HBc := Hd (Blk.new w2 26 #[.int .i64 vars, .slice A1 p.free.length c1, .slice B2 p.goal.length d2, .slice B3 p.rows.length d3])
 have HFc := Hd (hfr'.below hbn)
 have HQc := Hd (OL.below EFQ.stays hq' hbn)
 have HRc := Hd (OL.below ERO.stays hro' hbn)
 have HSc := Hd (K2.out.step hbn)
 obtain ⟨gq, hgq⟩ : ∃ g, g = w2.heap.size := ⟨_, rfl⟩
 rw [← hgq] at HBc
 have hgq2 : w.heap.size + 2 ≤ gq := by omega
 generalize w2.alloc (.cells #[.int .i64 vars, .slice A1 p.free.length c1, .slice B2 p.goal.length d2, .slice B3 p.rows.length d3] 26) = Wc at *
 rw [← hgq]
 clear hgq hbn hfr' hq' hro' x0 x1 x2 x3 hlt2 K2 hsz3
 obtain ⟨n, rfl⟩ : ∃ n : Nat, vars = n := ⟨vars.toNat, by have := HVB.out.1; omega⟩
 have hn2 : n ≤ 160 := by have := HVB.out.2; omega
 obtain ⟨qg, hqg⟩ : ∃ q, q = p.goal.map fixQ := ⟨_, rfl⟩
 rw [← hqg] at HQc
 have HQG := Hd hqg
 obtain ⟨rq, hrq⟩ : ∃ q, q = p.rows.map cleanR := ⟨_, rfl⟩
 rw [← hrq] at HRc
 have HRQ := Hd hrq
 have HRL : Hid (rq.length = p.rows.length) := by unfold Hid; rw [hrq, List.length_map]
 obtain ⟨fr, hfr⟩ : ∃ q, q = xs.map fun v => unitQ n v (-1) 1 := ⟨_, rfl⟩
 have HFR0 := Hd hfr
 have HFL : Hid (fr.length = xs.length) := by unfold Hid; rw [hfr, List.length_map]
 clear hfr hqg hrq KK
 go_loopw [18] (fun vi wr => ∃ i : Nat, i ≤ xs.length ∧ vi = .int .i64 (i : Int) ∧ (∃ A5 c5, Blk wr gq 26 #[.int .i64 (n : Int), .slice A1 p.free.length c1, .slice B2 p.goal.length d2, .slice A5 (p.rows.length + i) c5] ∧ RO w.heap.size wr (.slice A5 (p.rows.length + i) c5) (rq ++ fr.take i)) ∧ FrO w.heap.size wr (.slice A1 p.free.length c1) p.free ∧ QO w.heap.size wr (.slice B2 p.goal.length d2) qg ∧ HS w [(w.heap.size + 1, 26, #[.int .i64 0, .slice none 0 0, .slice none 0 0, .slice none 0 0]), (w.heap.size, 26, #[.int .i64 (n : Int), .slice A1 p.free.length c1, .slice A2 p.goal.length c2, .slice A3 p.rows.length c3])] wr) (fun vi _ => xs.length - (intOf vi).toNat)
 case atStart => exact ⟨0, Nat.zero_le _, rfl, ⟨B3, d3, HBc.out, by rw [List.take_zero, List.append_nil]; exact HRc.out⟩, HFc.out, HQc.out, HSc.out⟩
 case round =>
  obtain ⟨i, hi, rfl, ⟨A5, c5, hbq, hro⟩, hfr, hqo, hs⟩ := hrel
  have HBQ := Hd hbq
  have HRO := Hd hro
  have HFR := Hd hfr
  have HQO := Hd hqo
  have HK := Hd hs
  clear hbq hro hfr hqo hs HBc HFc HQc HSc HRc
  obtain ⟨x0, x1, x2, x3⟩ := HK.out.c4 1 rfl
  have hltp := (HK.out.blk 1 rfl).lt
  obtain ⟨i0, i1, i2, i3⟩ := HBQ.out.c4
  have hltq := HBQ.out.lt
  by_cases hlt : i < xs.length
  ·obtain ⟨x, hx⟩ : ∃ x, xs[i]? = some x := ⟨xs[i], List.getElem?_eq_getElem hlt⟩
   obtain ⟨gx, ox, rfl, hgx, k0⟩ := IL.at1 (HX.out.below EI.stays HK.out.2) hx
   have hxr : 0 ≤ x ∧ x < (n : Int) := by
    have := HD.out
    unfold distinctB at this
    exact (of_decide_eq_true this).1 x (List.mem_of_getElem? hx)
   have HNX : Hid (rq ++ fr.take (i + 1) = rq ++ fr.take i ++ [unitQ n x (-1) 1]) := by
    unfold Hid
    rw [List.take_add_one, HFR0.out, List.getElem?_map, hx, List.append_assoc]
    rfl
   have hrl : (rq ++ fr.take i).length ≤ 1000000000 := by rw [List.length_append, HRL.out, List.length_take, HFL.out]; omega
   have m1 : (i : Int) < (xs.length : Int) := by omega
   have m3 : (i : Int).toNat = i := by omega
   have m4 : (0 : Int) ≤ (i : Int) := by omega
   clear hx
   go_wp2_with fail
   refine wp_chainF (l := [_, _, _, _, _, _, _, _, _, _]) (S := Below wr.heap.size wr) 7 [([0, 1, 2, 3, 4], 5), ([], 6)] [] (by kernel_rfl) (by kernel_rfl) (by kernel_rfl) rfl (Below.drew (Below.refl _ _)) ?_
   refine ⟨?_, _, ?_, rfl, ?_⟩
   rotate_left
   ·repeat (refine ⟨_, ?_, rfl, Or.inl ⟨by rfl, ?_⟩, ?_⟩; rotate_left; focus (intro W hW; replace hW := (bcell hW).1; go_simp; try with_reducible rfl); (try simp only [SQ]))
    exact rfl
   have D0 : Hid (Below wr.heap.size wr wr.drew) := Below.drew (Below.refl _ _)
   go_wp2_with fail
   refine (runit_calls _ n x (-1) 1 (by omega) (by unfold I64; omega) (by omega) (by omega)).mono ?_
   rintro e W3 ⟨vs, rfl, her, hb⟩
   obtain ⟨v5, C5, n5, e5, C6, n6, e6, rfl, HIS, hqa, hfb⟩ := her
   have HQA := Hd (hqa.lower (base' := w.heap.size) (Nat.le_trans HK.out.2.size D0.out.size))
   obtain ⟨C4, e4, rfl, _⟩ := hqa.slice
   have HV3 := Hd hfb
   have D3 := Hd (below_next D0.out hb)
   clear hqa hfb hb
   go_wp2_with fail
   refine And.intro D3.out ⟨_, _, rfl, rfl, ?_⟩
   go_wp2_with fail
   have HL4 := Hd (Blk.new W3 73 #[.slice C4 (unitQ n x (-1) 1).a.length e4, .int .i64 (unitQ n x (-1) 1).s, .bool (negQ (unitQ n x (-1) 1).b), .slice C5 n5 e5, .slice C6 n6 e6])
   have hbn := below_new W3 (.cells #[.slice C4 (unitQ n x (-1) 1).a.length e4, .int .i64 (unitQ n x (-1) 1).s, .bool (negQ (unitQ n x (-1) 1).b), .slice C5 n5 e5, .slice C6 n6 e6] 73)
   have D4 := Hd (below_next D3.out hbn)
   have HQ4 := Hd (HQA.out.below EFQ.stays hbn)
   have HV4 := Hd (HV3.out.of_below hbn)
   obtain ⟨gl, hgl⟩ : ∃ g, g = W3.heap.size := ⟨_, rfl⟩
   rw [← hgl] at HL4 ⊢
   generalize W3.alloc (.cells #[.slice C4 (unitQ n x (-1) 1).a.length e4, .int .i64 (unitQ n x (-1) 1).s, .bool (negQ (unitQ n x (-1) 1).b), .slice C5 n5 e5, .slice C6 n6 e6] 73) = W4 at *
   clear hgl hbn
   refine And.intro D4.out ⟨_, rfl, ?_⟩
   have HBQ4 := Hd (HBQ.out.below D4.out HBQ.out.lt)
   have HRO4 := Hd (HRO.out.below ERO.stays D4.out)
   have HFR4 := Hd (HFR.out.below D4.out)
   have HQO4 := Hd (HQO.out.below EFQ.stays D4.out)
   have HK4 := Hd (HK.out.step D4.out)
   have hbase4 : w.heap.size ≤ W4.heap.size := HK4.out.2.size
   have HER : Hid (ERO w.heap.size W4 #[.slice C4 (unitQ n x (-1) 1).a.length e4, .int .i64 (unitQ n x (-1) 1).s, .bool (negQ (unitQ n x (-1) 1).b), .slice C5 n5 e5, .slice C6 n6 e6] (unitQ n x (-1) 1)) := ⟨_, _, _, _, _, _, _, rfl, HIS, HQ4.out, HV4.out⟩
   have HRL2 : Hid ((rq ++ fr.take (i + 1)).length = p.rows.length + (i + 1)) := by unfold Hid; rw [List.length_append, HRL.out, List.length_take, HFL.out]; omega
   simp only [SQ, List.drop_succ_cons, List.drop_zero]
   clear i0 i1 i2 i3 x0 x1 x2 x3
   go_wp2_with (at_builtin; refine wpl_appendR5 rfl (.tmp 23) (.tmp 28) rfl (base := w.heap.size) (.slice A5 (p.rows.length + i) c5) (rq ++ fr.take i) rfl HRO4.out (unitQ n x (-1) 1) rfl HL4.out HER.out hrl hbase4 ?_; intro v6 W6 hro6 hcg6 hw6 hob6; obtain ⟨A6, c6, hv6, _⟩ := hro6.slice; rw [← HNX.out] at hro6 hv6; rw [HRL2.out] at hv6; subst hv6; have HRO6 := Hd hro6; have HBQ6 := Hd (HBQ4.out.chg hcg6 (by decide)); have HFR6 := Hd (HFR4.out.chg hcg6 (by decide)); have HQO6 := Hd (QO.chg HQO4.out hcg6 (by decide)); have HK6 := Hd (HS.chg HK4.out hcg6 (by simp) rfl hw6); obtain ⟨i0, i1, i2, i3⟩ := HBQ6.out.c4; obtain ⟨f0, f1, f2, f3⟩ := HBQ6.out.f4; have hltq6 := HBQ6.out.lt; clear hro6 hcg6 hw6 hob6)
   refine NoPanic.normal ?_
   have hcp := chg_put1 (base := w.heap.size) (j := 3) HBQ6.out (by omega) prog_words (.slice A6 (p.rows.length + (i + 1)) c6)
   have HX1 := Hd (HBQ6.out.put 3 (.slice A6 (p.rows.length + (i + 1)) c6))
   have HX2 := Hd (RO.chg HRO6.out hcp (by decide) (by decide))
   have HX3 := Hd (HFR6.out.chg hcp (by decide))
   have HX4 := Hd (QO.chg HQO6.out hcp (by decide))
   have HX5 := Hd (HK6.out.other1 (g := gq) (by omega) (by simp; omega) 3 (.slice A6 (p.rows.length + (i + 1)) c6))
   clear hcp
   go_wp2_with fail
   go_roundw
   case rel => exact ⟨i + 1, by omega, by go_num, ⟨A6, c6, HX1.out, HX2.out⟩, HX3.out, HX4.out, HX5.out⟩
   case measure => simp [intOf]; omega
  ·obtain rfl : i = xs.length := by omega
   have hfa : fr.take xs.length = fr := List.take_of_length_le (by rw [HFL.out]; exact Nat.le_refl _)
   rw [hfa] at HRO
   have HFE : Hid (boundedQ p xs = ⟨p.vars, p.free, p.goal.map fixQ, rq ++ fr⟩) := by unfold Hid boundedQ; rw [HRQ.out, HFR0.out, ← HV.out]; rfl
   have HPB : Hid (PO w.heap.size wr (.agg #[.int .i64 (n : Int), .slice A1 p.free.length c1, .slice B2 p.goal.length d2, .slice A5 (p.rows.length + xs.length) c5]) (boundedQ p xs)) := by
    unfold Hid
    rw [HFE.out, HV.out]
    exact ⟨_, _, _, rfl, HI.out, HFR.out, by show QO _ _ _ (p.goal.map fixQ); rw [← HQG.out]; exact HQO.out, HRO.out⟩
   clear hfa x0 x1 x2 x3 hltp
   go_wp2_with fail
   refine (rfixed_calls w.heap.size wr _ _ _ (rawP (boundedQ p xs)) ys bs (PO.pr HPB.out (small_bounded p xs)) (HYS.out.below EI.stays HK.out.2) (HBS.out.below EI.stays HK.out.2) (by omega) (by omega) HYI.out HBI.out HK.out.2.size (by
    intro a b c d e
    injection e with e
    injection e with e
    injection e with e0 e
    injection e with e1 e
    rw [← e1]
    exact HFR.out)).mono ?_
   rintro e w5 ⟨v, rfl, hpo, hb⟩
   have HN5 := Hd (PO0.po hpo (Nat.le_refl _) HK.out.2.size)
   obtain ⟨E1, f1, E2, f2, E3, f3, rfl, _, _, _, _⟩ := HN5.out.opened
   have HK5 := Hd (HK.out.step hb)
   have HB5 := Hd (HBQ.out.below hb HBQ.out.lt)
   rw [show fixedP (rawP (boundedQ p xs)) ys bs = nodeP p xs ys bs from rfl, show fixCode (rawP (boundedQ p xs)) ys bs = nodeC p xs ys bs from rfl] at *
   clear hpo hb i0 i1 i2 i3 hltq
   obtain ⟨i0, i1, i2, i3⟩ := HB5.out.c4
   obtain ⟨g0, g1, g2, g3⟩ := HB5.out.f4
   have hltq := HB5.out.lt
   obtain ⟨j0, j1, j2, j3⟩ := (HK5.out.blk 0 rfl).c4
   obtain ⟨f0, f4, f5, f6⟩ := (HK5.out.blk 0 rfl).f4
   have hlt0 := (HK5.out.blk 0 rfl).lt
   go_upto_region 8 with (fail)
   have hcp := chg_put4 (base := w.heap.size) HB5.out (by omega) prog_words (.int .i64 (nodeP p xs ys bs).vars) (.slice E1 (nodeP p xs ys bs).free.length f1) (.slice E2 (nodeP p xs ys bs).goal.length f2) (.slice E3 (nodeP p xs ys bs).rows.length f3)
   have HN6 := Hd (PO.chg HN5.out hcp (by decide) (by decide) (by decide))
   have HB6 := Hd (HB5.out.put4 (.int .i64 (nodeP p xs ys bs).vars) (.slice E1 (nodeP p xs ys bs).free.length f1) (.slice E2 (nodeP p xs ys bs).goal.length f2) (.slice E3 (nodeP p xs ys bs).rows.length f3))
   have HK6 := Hd (HK5.out.other4 (g := gq) (by omega) (by simp; omega) (.int .i64 (nodeP p xs ys bs).vars) (.slice E1 (nodeP p xs ys bs).free.length f1) (.slice E2 (nodeP p xs ys bs).goal.length f2) (.slice E3 (nodeP p xs ys bs).rows.length f3))
   clear hcp i0 i1 i2 i3 g0 g1 g2 g3 hltq j0 j1 j2 j3 f0 f4 f5 f6 hlt0
   generalize ((((w5.setCell ⟨gq, 0, none⟩ _).setCell ⟨gq, 1, none⟩ _).setCell ⟨gq, 2, none⟩ _).setCell ⟨gq, 3, none⟩ _) = W6 at *
   obtain ⟨i0, i1, i2, i3⟩ := HB6.out.c4
   have hltq := HB6.out.lt
   obtain ⟨j0, j1, j2, j3⟩ := (HK6.out.blk 0 rfl).c4
   obtain ⟨f0, f4, f5, f6⟩ := (HK6.out.blk 0 rfl).f4
   have hlt0 := (HK6.out.blk 0 rfl).lt
   by_cases z : nodeC p xs ys bs = 0
   ·have z1 : (nodeC p xs ys bs == 0) = true := beqI' z
    have HE : Hid (decide (nodeC p xs ys bs = 0) = true) := decide_eq_true z
    clear z
    go_wp2_with fail
    have hcg := chg_put4 (base := w.heap.size) (HK6.out.blk 0 rfl) (by simp) prog_words (.int .i64 (nodeP p xs ys bs).vars) (.slice E1 (nodeP p xs ys bs).free.length f1) (.slice E2 (nodeP p xs ys bs).goal.length f2) (.slice E3 (nodeP p xs ys bs).rows.length f3)
    rw [HE.out]
    exact ret26i Tryz.results93 rfl rfl ((HK6.out.blk 0 rfl).put4 _ _ _ _) ⟨_, rfl, PO.chg HN6.out hcg (by decide) (by decide) (by decide), below_put4 HK6.out.2 (by simp) _ _ _ _⟩
   ·have z1 : (nodeC p xs ys bs == 0) = false := bneI' z
    have HE : Hid (decide (nodeC p xs ys bs = 0) = false) := decide_eq_false z
    clear z
    go_wp2_with fail
    have hcg := chg_put4 (base := w.heap.size) (HK6.out.blk 0 rfl) (by simp) prog_words (.int .i64 (nodeP p xs ys bs).vars) (.slice E1 (nodeP p xs ys bs).free.length f1) (.slice E2 (nodeP p xs ys bs).goal.length f2) (.slice E3 (nodeP p xs ys bs).rows.length f3)
    rw [HE.out]
    exact ret26i Tryz.results93 rfl rfl ((HK6.out.blk 0 rfl).put4 _ _ _ _) ⟨_, rfl, PO.chg HN6.out hcg (by decide) (by decide) (by decide), below_put4 HK6.out.2 (by simp) _ _ _ _⟩
theorem below_chg {W0 W W1 : World} {t : Nat} (h : Below W0.heap.size W0 W) (hc : Chg W0.heap.size t W W1) (hw : W.os = W1.os ∧ W.tape = W1.tape ∧ W.output = W1.output) : Below W0.heap.size W0 W1 :=
 ⟨hw.1.symm.trans h.os, hw.2.1.symm.trans h.tape, hw.2.2.symm.trans h.output, Nat.le_trans h.size hc.1.1, fun k hk => (hc.2 k (Nat.lt_of_lt_of_le hk h.size) (.inl hk)).trans (h.block k hk)⟩
theorem wpl_copyI {ops : Array Oper} {rest : List Oper} {o : Oper} {a : Act} {Q : Exit → Act → World → Prop} {W : World} (hgd : o.guard = none) (s x : Operand) (ho : o.op = .call { callee := .builtin .append, args := #[s, x], argTypes := #[27, 27] }) {base : Nat}
  (v0 : Value) (hs : a.eval s = v0) (h0 : OI base W v0 []) (A : Option Addr) (n c : Nat) (l : List Int) (hx : a.eval x = .slice A n c) (h : IL W (.slice A n c) l) (hl : l.length ≤ 1000000) (hbase : base ≤ W.heap.size)
  (hk : ∀ v' w', OI base w' v' l → Chg base 3 W w' → (W.os = w'.os ∧ W.tape = w'.tape ∧ W.output = w'.output) → (∀ g t cs, v0.ownBlock ≠ some g → Blk W g t cs → Blk w' g t cs) → wpList Tryz.prog ops Q rest (a.put o.dst v') w') : wpList Tryz.prog ops Q (o :: rest) a W := by
 obtain ⟨A', c', e, hc, hr⟩ := h
 injection e with e1 e2 e3
 subst e1 e2 e3
 by_cases hz : l.length = 0
 ·have hnil : l = [] := List.eq_nil_of_length_eq_zero hz
  subst hnil
  obtain ⟨i, hi, hzz⟩ := Option.map_eq_some_iff.1 info3
  simp only [Prod.mk.injEq] at hzz
  obtain ⟨hz1, hsz, hby⟩ := hzz
  have hsrc : Src Tryz.prog i.size 27 (.slice A 0 c) 0 [] W := by
   cases A with
   | none => exact Src.ofNil W Tryz.underlying27 c
   | some ad => exact Src.ofSlice W Tryz.underlying27 ad 0 c [] (by simp) (fun j u hu => by simp at hu) (fun u hu => by cases hu)
  have hv0 : ∃ A0 cap, v0 = .slice A0 0 cap := by
   obtain ⟨xs, h1, _⟩ := h0
   rcases h1.2 with ⟨e, _⟩ | ⟨g, cap, cur, e, _⟩
   ·exact ⟨none, 0, e⟩
   ·exact ⟨_, cap, e⟩
  obtain ⟨A0, cap, rfl⟩ := hv0
  refine wpList_plain hgd fun K hK => ?_
  have hrun := run_append_nothing W 27 27 o.type 3 i Tryz.underlying27 hi A0 0 cap (Nat.zero_le _) _ hsrc
  unfold Oper.wp execOp
  simp only [ho, resolve, invoke, builtin, Sem.run_bind, Sem.run_pure, Result.andThen_ok, List.map_toArray, List.map_cons, List.map_nil, hs, hx]
  rw [show (Builtin.append_ #[27, 27] o.type #[Value.slice A0 0 cap, Value.slice A ([] : List Int).length c]).run Tryz.prog W = .ok (.slice A0 0 cap) W from hrun]
  exact hK _ _ (hk _ _ h0 (Chg.of_below (Below.refl _ _)) ⟨rfl, rfl, rfl⟩ fun _ _ _ _ h => h)
 ·obtain ⟨g, o', rfl, hg, he⟩ := hr (by omega)
  obtain ⟨xs, h1, _⟩ := h0
  have hxs : xs = [] := List.eq_nil_of_length_eq_zero (by have := h1.1; simpa using this)
  subst hxs
  have hcell : ∀ j u, (l.map (Value.int .i64))[j]? = some u → W.cell? ((⟨g, o', none⟩ : Addr).add j) = some u := fun j u hu => by
   rw [List.getElem?_map] at hu
   obtain ⟨b, hb, rfl⟩ := Option.map_eq_some_iff.1 hu
   obtain ⟨vs, _, h2, rfl⟩ := he j b hb
   have := h2 0 _ rfl
   rw [Nat.mul_one, Nat.add_zero] at this
   rw [add_at']
   exact this
  refine wpl_appendR hgd s x 27 ho (base := base) (.int .i64 0) 8 Tryz.underlying27 info3 rfl (by intro u hu; simp [Value.cells] at hu; subst hu; rfl) v0 0 [] hs h1 ⟨g, o', none⟩ l.length c (l.map (Value.int .i64)) hx (by simp) hcell (fun u hu => by obtain ⟨b, _, rfl⟩ := List.mem_map.1 hu; rfl) (fun u hu => by obtain ⟨b, _, rfl⟩ := List.mem_map.1 hu; rfl) (by omega) (by omega) (by omega) hbase fun v' w' h3 h4 h5 h6 => hk v' w' ?_ (h1.changes h4 h5) ⟨h4.os.symm, h4.tape.symm, h4.output.symm⟩ fun g t cs hne hb => (h4.block g hb.lt (Ne.symm hne)).trans hb
  rw [Nat.zero_add, List.nil_append] at h3
  refine ⟨_, h3, fun j y hj => ⟨#[.int .i64 y], rfl, fun i u hi => ?_, rfl⟩⟩
  have hi0 : i = 0 := by
   have := (Array.getElem?_eq_some_iff.1 hi).1
   simp at this
   exact this
  subst hi0
  have hu : u = .int .i64 y := by simpa using hi.symm
  subst hu
  rw [Nat.mul_one, Nat.add_zero, List.getElem?_map, hj]
  rfl
theorem empty_oi {base : Nat} {W : World} (hb : base ≤ W.heap.size) : OI base (W.alloc (.cells #[] 3)) (.slice (some ⟨W.heap.size, 0, none⟩) 0 0) [] :=
 ⟨[], ⟨by simp, .inr ⟨_, 0, #[], rfl, hb, Blk.new _ _ _, Nat.le_refl _, Nat.zero_le _, rfl, rfl, by simp⟩⟩, fun j a h => by simp at h⟩
theorem oi_lt {base : Nat} {W : World} {g c : Nat} (h : OI base W (.slice (some ⟨g, 0, none⟩) 0 c) []) : g < W.heap.size := by
 obtain ⟨xs, h1, _⟩ := h
 rcases h1.2 with ⟨e, _⟩ | ⟨g', cap, cur, e, _, hb, _⟩
 ·cases e
 ·injection e with e
  injection e with e
  injection e with e _
  rw [e]
  exact hb.lt
end Go.Proofs.YtfhambfgjigneaaGreat

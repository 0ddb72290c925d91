/- Contracts of Go functions that the statement reaches, proved by walking their text, and plain laws over them (texts put together). -/
import Derived.Test.YtfhambfgjigneaaKS5
import Derived.Test.YtfhambfgjigneaaKS1
import Derived.Test.YtfhambfgjigneaaKS4
set_option linter.unusedVariables false
set_option linter.unusedSimpArgs false
set_option maxHeartbeats 64000000
set_option maxRecDepth 100000
namespace Go.Proofs.Ytfhambfgjigneaa
open Go.RowKit
def sumN (f : Nat → Rat) : Nat → Rat
 | 0 => 0
 | n + 1 => sumN f n + f n
theorem sumN_congr {f g : Nat → Rat} : ∀ {n : Nat}, (∀ i, i < n → f i = g i) → sumN f n = sumN g n
 | 0, _ => rfl
 | n + 1, h => by rw [sumN, sumN, sumN_congr fun i hi => h i (Nat.lt_succ_of_lt hi), h n (Nat.lt_succ_self n)]
theorem sumN_zero {f : Nat → Rat} : ∀ {n : Nat}, (∀ i, i < n → f i = 0) → sumN f n = 0
 | 0, _ => rfl
 | n + 1, h => by rw [sumN, sumN_zero fun i hi => h i (Nat.lt_succ_of_lt hi), h n (Nat.lt_succ_self n)]; grind
theorem sumN_add (f g : Nat → Rat) : ∀ n, sumN (fun i => f i + g i) n = sumN f n + sumN g n
 | 0 => by simp only [sumN]; grind
 | n + 1 => by rw [sumN, sumN, sumN, sumN_add f g n]; grind
theorem sumN_mul (c : Rat) (f : Nat → Rat) : ∀ n, sumN (fun i => c * f i) n = c * sumN f n
 | 0 => by rw [sumN, sumN]; grind
 | n + 1 => by rw [sumN, sumN, sumN_mul c f n]; grind
theorem sumN_comm (f : Nat → Nat → Rat) (m : Nat) : ∀ n, sumN (fun i => sumN (fun j => f i j) m) n = sumN (fun j => sumN (fun i => f i j) n) m
 | 0 => by rw [sumN]; exact (sumN_zero fun _ _ => rfl).symm
 | n + 1 => by rw [sumN, sumN_comm f m n, ← sumN_add]; exact sumN_congr fun _ _ => rfl
theorem sumN_le {f g : Nat → Rat} : ∀ {n : Nat}, (∀ i, i < n → f i ≤ g i) → sumN f n ≤ sumN g n
 | 0, _ => Rat.le_refl
 | n + 1, h => by
  have h1 := sumN_le fun i hi => h i (Nat.lt_succ_of_lt hi)
  have h2 := h n (Nat.lt_succ_self n)
  rw [sumN, sumN]; grind
theorem sumN_succ' (f : Nat → Rat) : ∀ n, sumN f (n + 1) = f 0 + sumN (fun i => f (i + 1)) n
 | 0 => by simp only [sumN]; grind
 | n + 1 => by rw [sumN, sumN_succ' f n, sumN]; grind
theorem foldl_sumN : ∀ (l : List Rat) (a : Rat), l.foldl (· + ·) a = a + sumN (fun i => l.getD i 0) l.length
 | [], a => by simp only [List.foldl_nil, List.length_nil, sumN]; grind
 | x :: l, a => by
  rw [List.foldl_cons, foldl_sumN l, List.length_cons, sumN_succ']
  simp only [List.getD_cons_zero, List.getD_cons_succ]
  grind
theorem zip_sumN (a b : List Rat) (n : Nat) (ha : a.length = n) (hb : b.length = n) : (List.zipWith (· * ·) a b).foldl (· + ·) 0 = sumN (fun i => a.getD i 0 * b.getD i 0) n := by
 rw [foldl_sumN, List.length_zipWith, ha, hb, Nat.min_self, Rat.zero_add]
 refine sumN_congr fun i hi => ?_
 rw [List.getD_eq_getElem?_getD, List.getElem?_zipWith, List.getD_eq_getElem?_getD, List.getD_eq_getElem?_getD, List.getElem?_eq_getElem (by omega : i < a.length), List.getElem?_eq_getElem (by omega : i < b.length)]
 rfl
theorem weak_dual {m n : Nat} {A : Nat → Nat → Rat} {b y x g : Nat → Rat} (hy : ∀ i, i < m → y i * sumN (fun v => A i v * x v) n ≤ y i * b i)
  (hx : ∀ v, v < n → g v * x v ≤ sumN (fun i => y i * A i v) m * x v) : sumN (fun v => g v * x v) n ≤ sumN (fun i => y i * b i) m := by
 refine Rat.le_trans (sumN_le hx) (Rat.le_trans ?_ (sumN_le hy))
 rw [show sumN (fun i => sumN (fun i_1 => y i_1 * A i_1 i) m * x i) n = sumN (fun i => y i * sumN (fun v => A i v * x v) n) m from ?_]
 ·exact Rat.le_refl
 ·rw [show sumN (fun i => sumN (fun j => y j * A j i) m * x i) n = sumN (fun i => sumN (fun j => y j * A j i * x i) m) n from sumN_congr fun i _ => by
   rw [Rat.mul_comm, ← sumN_mul]; exact sumN_congr fun j _ => Rat.mul_comm _ _]
  rw [sumN_comm]
  refine sumN_congr fun j _ => ?_
  rw [← sumN_mul]
  exact sumN_congr fun v _ => Rat.mul_assoc _ _ _
theorem nth_map {fs : List RawF} {v : Nat} (hv : v < fs.length) : (fs.map fixQ).getD v 0 = fixQ (nthF fs v) := by
 unfold nthF
 simp only [List.getD_eq_getElem?_getD, List.getElem?_map, List.getElem?_eq_getElem hv]
 rfl
theorem dot_sumN {a : List RawF} {x : List Rat} {n : Nat} (ha : a.length = n) (hx : x.length = n) : dotQ (a.map fixQ) x = sumN (fun v => fixQ (nthF a v) * x.getD v 0) n := by
 unfold dotQ sumQ
 rw [zip_sumN _ _ n (by rw [List.length_map]; exact ha) hx]
 exact sumN_congr fun i hi => by rw [nth_map (by omega)]
theorem zipf_sumN {α : Type} (f : α → Rat) (rows : List α) (ys : List Rat) (h : ys.length = rows.length) : sumQ (List.zipWith (fun r q => q * f r) rows ys) = sumN (fun i => ys.getD i 0 * (rows.map f).getD i 0) rows.length := by
 unfold sumQ
 rw [foldl_sumN, List.length_zipWith, h, Nat.min_self, Rat.zero_add]
 refine sumN_congr fun i hi => ?_
 simp only [List.getD_eq_getElem?_getD, List.getElem?_zipWith, List.getElem?_map, List.getElem?_eq_getElem hi, List.getElem?_eq_getElem (show i < ys.length by omega)]
 rfl
theorem ord_zero {a b : Rat} : ordQ a b = 0 ↔ a = b := by
 unfold ordQ
 by_cases h : a = b
 ·simp [h]
 ·rw [if_neg h]; split <;> simp [h]
theorem ord_neg {a b : Rat} : ordQ a b < 0 ↔ a < b := by
 unfold ordQ
 by_cases h : a = b
 ·subst h; simp [Rat.lt_irrefl]
 ·rw [if_neg h]; split <;> rename_i h2 <;> simp [h2]
theorem ord_m1 {a b : Rat} : ordQ a b = -1 ↔ a < b := by
 unfold ordQ
 by_cases h : a = b
 ·subst h; simp [Rat.lt_irrefl]
 ·rw [if_neg h]; split <;> rename_i h2 <;> simp [h2]
theorem ord_pos {a b : Rat} : 0 < ordQ a b ↔ b < a := by
 unfold ordQ
 by_cases h : a = b
 ·subst h; simp [Rat.lt_irrefl]
 ·rw [if_neg h]
  split <;> rename_i h2
  ·simp; grind
  ·simp; grind
theorem ord_p1 {a b : Rat} : ordQ a b = 1 ↔ b < a := by
 rw [← ord_pos]
 unfold ordQ
 split
 ·simp
 ·split <;> simp
theorem ord_le {a b : Rat} : ordQ a b ≤ 0 ↔ a ≤ b := by
 have := @ord_pos a b
 have h2 := @Rat.not_lt b a
 constructor
 ·intro h; exact h2.1 fun h3 => by have := this.2 h3; omega
 ·intro h; have := mt this.1 (h2.2 h); omega
structure FitsN (p : ProgF) (n : Nat) (X : Nat → Rat) : Prop where
 sg : ∀ v, v < n → freeAt p v = false → 0 ≤ X v
 rows : ∀ r, r ∈ p.rows → (r.s = 0 → sumN (fun v => fixQ (nthF r.a v) * X v) n = fixQ r.b) ∧ (r.s = -1 → sumN (fun v => fixQ (nthF r.a v) * X v) n ≤ fixQ r.b) ∧ (r.s = 1 → fixQ r.b ≤ sumN (fun v => fixQ (nthF r.a v) * X v) n)
noncomputable def vecA (x : List RawF) (v : Nat) : Rat := (x.map fixQ).getD v 0
theorem holds_n {s : Int} {a b : Rat} (h : holdsB s a b = true) : (s = 0 → a = b) ∧ (s = -1 → a ≤ b) ∧ (s = 1 → b ≤ a) := by
 unfold holdsB at h
 simp only [Bool.or_eq_true, Bool.and_eq_true, decide_eq_true_eq] at h
 rcases h with h | ⟨h1, h2⟩
 ·have e := ord_zero.1 h
  subst e
  exact ⟨fun _ => rfl, fun _ => Rat.le_refl, fun _ => Rat.le_refl⟩
 ·refine ⟨fun h3 => absurd h3 h1, fun h3 => ?_, fun h3 => ?_⟩
  ·rw [h3] at h2; exact Rat.le_of_lt (ord_m1.1 h2)
  ·rw [h3] at h2; exact Rat.le_of_lt (ord_p1.1 h2)
section
variable {p : ProgF} {c : CertF} {x : List RawF} {cm k : Nat}
theorem signed_n {n : Nat} (hf : (p.free.length : Int) = p.vars) (hl : x.length = n) (hn : n = p.vars.toNat) (h : signedB p.free (x.map fixQ) = true) : ∀ v, v < n → freeAt p v = false → 0 ≤ vecA x v := fun v hv hfr => by
 unfold signedB at h
 rw [List.all_eq_true] at h
 have h1 : v < p.free.length := by omega
 have h2 : v < (x.map fixQ).length := by rw [List.length_map]; omega
 have h3 := h (p.free[v], (x.map fixQ)[v]) (List.mem_of_getElem? (i := v) (by rw [List.getElem?_zip_eq_some]; exact ⟨List.getElem?_eq_getElem h1, List.getElem?_eq_getElem h2⟩))
 have h4 : p.free[v] = false := by
  unfold freeAt at hfr
  rw [List.getD_eq_getElem?_getD, List.getElem?_eq_getElem h1] at hfr
  exact hfr
 rw [h4] at h3
 simp only [Bool.false_or, Bool.not_eq_true', decide_eq_false_iff_not, signQ_ord, ord_neg] at h3
 unfold vecA
 rw [List.getD_eq_getElem?_getD, List.getElem?_eq_getElem h2]
 exact Rat.not_lt.1 h3
theorem cap_row (hp : withinB p 20 30 = true) (hx : wordsB x k = true) (hk1 : 1 ≤ k) (hk : k ≤ 31) (hr : rightP p = 0) (hl : (x.length : Int) = p.vars) {a : List RawF} (ha : (a.length : Int) = p.vars) (hw : wordsB a 6 = true) : capQ (dotQ (a.map fixQ) (x.map fixQ)) = sumN (fun v => fixQ (nthF a v) * vecA x v) p.vars.toNat := by
 have hv := withinB_ok hp
 rw [cap_dotQ (fit_list hw (by decide)) (fit_list hx hk1) (n := 20) (by rw [List.length_map]; have := hv.1; omega) (by omega), dot_sumN (n := p.vars.toNat) (by omega) (by rw [List.length_map]; omega)]
 rfl
theorem fits_n (hp : withinB p 20 30 = true) (hx : wordsB x k = true) (hk1 : 1 ≤ k) (hk : k ≤ 31) (hr : rightP p = 0) (h : fitsB p x = true) : (x.length : Int) = p.vars ∧ FitsN p p.vars.toNat (vecA x) := by
 obtain ⟨_, _, _, _, _, h6⟩ := withinB_ok hp
 have hrl := rightP_len hr
 unfold fitsB at h
 simp only [Bool.and_eq_true, decide_eq_true_eq] at h
 obtain ⟨⟨hl, hs⟩, hrows⟩ := h
 refine ⟨hl, signed_n hrl.1 (by omega) rfl hs, fun r hm => ?_⟩
 have h1 := List.all_eq_true.1 hrows r hm
 unfold rowHolds at h1
 rw [cap_row hp hx hk1 hk hr hl (hrl.2.2.2.2.2 r hm).1 (h6 r hm).2.1] at h1
 exact holds_n h1
theorem value_n (hp : withinB p 20 30 = true) (hx : wordsB x k = true) (hk1 : 1 ≤ k) (hk : k ≤ 31) (hr : rightP p = 0) (hl : (x.length : Int) = p.vars) : capQ (dotQ (p.goal.map fixQ) (x.map fixQ)) = sumN (fun v => fixQ (nthF p.goal v) * vecA x v) p.vars.toNat := by
 obtain ⟨_, _, _, _, h5, _⟩ := withinB_ok hp
 exact cap_row hp hx hk1 hk hr hl (rightP_len hr).2.1 h5
noncomputable def colA (p : ProgF) (i v : Nat) : Rat := (p.rows.map fun r => fixQ (nthF r.a v)).getD i 0
noncomputable def rhsA (p : ProgF) (i : Nat) : Rat := (p.rows.map fun r => fixQ r.b).getD i 0
structure BoundN (p : ProgF) (n : Nat) (G : Nat → Rat) (Y : Nat → Rat) : Prop where
 sg : ∀ i r, p.rows[i]? = some r → (r.s = -1 → 0 ≤ Y i) ∧ (r.s = 1 → Y i ≤ 0)
 col : ∀ v, v < n → G v ≤ sumN (fun i => Y i * colA p i v) p.rows.length ∧ (freeAt p v = true → sumN (fun i => Y i * colA p i v) p.rows.length = G v)
theorem bounds_n (hp : withinB p 20 30 = true) (hc : certB c cm = true) (g : Option (List RawF)) (G : Nat → Rat) (hG : ∀ v, v < p.vars.toNat → colV p.rows (c.y.map fixQ) g v = colQ p.rows (c.y.map fixQ) v - G v) (h : boundsB p c.y g = true) : c.y.length = p.rows.length ∧ BoundN p p.vars.toNat G (vecA c.y) := by
 obtain ⟨_, h2, _, _, _, h6⟩ := withinB_ok hp
 obtain ⟨_, _, hy, _⟩ := certB_ok hc
 unfold boundsB at h
 simp only [Bool.and_eq_true, decide_eq_true_eq] at h
 obtain ⟨hl, hs, hcol⟩ := h
 refine ⟨hl, fun i r hi => ?_, fun v hv => ?_⟩
 ·unfold signsB at hs
  rw [List.all_eq_true] at hs
  have hil := (List.getElem?_eq_some_iff.1 hi).1
  have h2 : i < (c.y.map fixQ).length := by rw [List.length_map]; omega
  have h3 := hs (r, (c.y.map fixQ)[i]) (List.mem_of_getElem? (i := i) (by rw [List.getElem?_zip_eq_some]; exact ⟨hi, List.getElem?_eq_getElem h2⟩))
  have e : vecA c.y i = (c.y.map fixQ)[i] := by unfold vecA; rw [List.getD_eq_getElem?_getD, List.getElem?_eq_getElem h2]; rfl
  unfold badSign at h3
  simp only [Bool.not_eq_true', Bool.or_eq_false_iff, Bool.and_eq_false_iff, decide_eq_false_iff_not, signQ_ord, ord_neg, gt_iff_lt, ord_pos] at h3
  rw [e]
  exact ⟨fun h4 => Rat.not_lt.1 (h3.1.resolve_left fun h5 => h5 h4), fun h4 => Rat.not_lt.1 (h3.2.resolve_left fun h5 => h5 h4)⟩
 ·have h1 := List.all_eq_true.1 hcol v (List.mem_range.2 hv)
  unfold colOk at h1
  rw [hG v hv] at h1
  have e : colQ p.rows (c.y.map fixQ) v = sumN (fun i => vecA c.y i * colA p i v) p.rows.length := by
   unfold colQ
   rw [(fold_sum (k := 18) (n := 30) (l := colL p.rows (c.y.map fixQ) v) (fit_zipf (k1 := 6) (k2 := 12) (f := fun (r : RowF) => fixQ (nthF r.a v)) p.rows (c.y.map fixQ) (fun r hr => fit_nth (h6 r hr).2.1 (by decide) v) (fit_list hy (by decide))) (by unfold colL; rw [List.length_zipWith]; omega) (by decide)).1]
   exact zipf_sumN (fun r : RowF => fixQ (nthF r.a v)) p.rows _ (by rw [List.length_map]; exact hl)
  rw [e] at h1
  simp only [Bool.not_eq_true', Bool.or_eq_false_iff, Bool.and_eq_false_iff, decide_eq_false_iff_not, signQ_ord, ord_neg, gt_iff_lt, ord_pos] at h1
  have h7 : G v ≤ sumN (fun i => vecA c.y i * colA p i v) p.rows.length := by have := Rat.not_lt.1 h1.1; grind
  refine ⟨h7, fun hf => ?_⟩
  rw [hf] at h1
  have := Rat.not_lt.1 (h1.2.resolve_right (by decide))
  grind
theorem rights_n (hp : withinB p 20 30 = true) (hc : certB c cm = true) (hl : c.y.length = p.rows.length) : rightsQ p c.y = sumN (fun i => vecA c.y i * rhsA p i) p.rows.length := by
 obtain ⟨_, h2, _, _, _, h6⟩ := withinB_ok hp
 obtain ⟨_, _, hy, _⟩ := certB_ok hc
 unfold rightsQ
 rw [cap_dotQ (k1 := 12) (k2 := 6) (n := 30) (fit_list hy (by decide)) (fun q hq => by
  obtain ⟨r, hr, rfl⟩ := List.mem_map.1 hq
  exact fit_words (h6 r hr).2.2 (by decide)) (by rw [List.length_map]; omega) (by decide)]
 unfold dotQ sumQ
 rw [zip_sumN _ _ p.rows.length (by rw [List.length_map]; exact hl) (by rw [List.length_map])]
 rfl
theorem weak_n {n : Nat} {X Y G : Nat → Rat} (hs : ∀ r, r ∈ p.rows → -1 ≤ r.s ∧ r.s ≤ 1) (hf : FitsN p n X) (hb : BoundN p n G Y) : sumN (fun v => G v * X v) n ≤ sumN (fun i => Y i * rhsA p i) p.rows.length := by
 refine weak_dual (A := colA p) (fun i hi => ?_) (fun v hv => ?_)
 ·obtain ⟨r, hr⟩ : ∃ r, p.rows[i]? = some r := ⟨_, List.getElem?_eq_getElem hi⟩
  have e1 : ∀ v, colA p i v = fixQ (nthF r.a v) := fun v => by unfold colA; rw [List.getD_eq_getElem?_getD, List.getElem?_map, hr]; rfl
  have e2 : rhsA p i = fixQ r.b := by unfold rhsA; rw [List.getD_eq_getElem?_getD, List.getElem?_map, hr]; rfl
  rw [e2, sumN_congr fun v _ => by rw [e1 v]]
  obtain ⟨h0, hm, h1⟩ := hf.rows r (List.mem_of_getElem? hr)
  obtain ⟨g0, g1⟩ := hb.sg i r hr
  generalize sumN (fun v => fixQ (nthF r.a v) * X v) n = d at *
  have hss := hs r (List.mem_of_getElem? hr)
  rcases (show r.s = 0 ∨ r.s = -1 ∨ r.s = 1 by omega) with h | h | h
  ·rw [h0 h]; exact Rat.le_refl
  ·exact Rat.mul_le_mul_of_nonneg_left (hm h) (g0 h)
  ·have := Rat.mul_nonneg (a := -(Y i)) (b := d - fixQ r.b) (by have := g1 h; grind) (by have := h1 h; grind)
   grind
 ·obtain ⟨c1, c2⟩ := hb.col v hv
  cases hfr : freeAt p v with
  | true => rw [c2 hfr]; exact Rat.le_refl
  | false => exact Rat.mul_le_mul_of_nonneg_right c1 (hf.sg v hv hfr)
theorem judge_best (hp : withinB p 20 30 = true) (hc : certB c cm = true) (hk : c.kind = 1) (h : judgeB p c = true) : rightP p = 0 ∧ (c.x.length : Int) = p.vars ∧ FitsN p p.vars.toNat (vecA c.x) ∧ ∀ X, FitsN p p.vars.toNat X → sumN (fun v => fixQ (nthF p.goal v) * X v) p.vars.toNat ≤ sumN (fun v => fixQ (nthF p.goal v) * vecA c.x v) p.vars.toNat := by
 unfold judgeB at h
 by_cases hr : rightP p = 0
 case neg => rw [if_pos hr] at h; cases h
 rw [if_neg (show ¬ rightP p ≠ 0 from fun h => h hr), if_pos hk] at h
 simp only [Bool.and_eq_true, decide_eq_true_eq] at h
 obtain ⟨h1, h2, h3⟩ := h
 obtain ⟨hl, hf⟩ := fits_n hp (certB_ok hc).2.1 (by decide) (by decide) hr h1
 obtain ⟨_, _, _, _, h5, _⟩ := withinB_ok hp
 obtain ⟨hyl, hb⟩ := bounds_n hp hc (some p.goal) (fun v => fixQ (nthF p.goal v)) (fun v _ => by
  have h1 := col_fit hp hc v
  have h3 := fit_add h1 (fit_neg (fit_nth h5 (by decide) v)) (Nat.le_refl _)
  unfold colV
  simp only
  rw [capQ_fits (Nat.le_trans h3.size (by decide))]
  grind) h2
 refine ⟨hr, hl, hf, fun X hX => ?_⟩
 have h4 := weak_n (fun r hm => ((rightP_len hr).2.2.2.2.2 r hm).2) hX hb
 rw [← rights_n hp hc hyl, ord_zero.1 h3, value_n hp (certB_ok hc).2.1 (by decide) (by decide) hr hl] at h4
 exact h4
theorem judge_none (hp : withinB p 20 30 = true) (hc : certB c cm = true) (hk : c.kind = 2) (h : judgeB p c = true) (X : Nat → Rat) (hX : FitsN p p.vars.toNat X) : False := by
 unfold judgeB at h
 by_cases hr : rightP p = 0
 case neg => rw [if_pos hr] at h; cases h
 rw [if_neg (show ¬ rightP p ≠ 0 from fun h => h hr), if_neg (by omega), if_pos hk] at h
 simp only [Bool.and_eq_true, decide_eq_true_eq] at h
 obtain ⟨h2, h3⟩ := h
 obtain ⟨hyl, hb⟩ := bounds_n hp hc none (fun _ => 0) (fun v _ => by unfold colV; simp only; grind) h2
 have h4 := weak_n (fun r hm => ((rightP_len hr).2.2.2.2.2 r hm).2) hX hb
 rw [← rights_n hp hc hyl] at h4
 rw [signQ_ord, ord_neg] at h3
 rw [sumN_zero fun i _ => by grind] at h4
 exact absurd h3 (Rat.not_lt.2 h4)
theorem judge_kind (h : judgeB p c = true) : c.kind = 1 ∨ c.kind = 2 ∨ c.kind = 3 := by
 unfold judgeB at h
 split at h
 ·cases h
 ·split at h
  ·omega
  ·split at h
   ·omega
   ·split at h
    ·omega
    ·cases h
theorem sound_plain (hp : withinB p 20 30 = true) (hc : certB c cm = true) (hx : wordsB x 12 = true) (h : judgeB p c = true) (hf : fitsP p x = true) : c.kind = 3 ∨ c.kind = 1 ∧ ordQ (valueP p x) (valueP p c.x) ≤ 0 := by
 unfold fitsP at hf
 simp only [Bool.and_eq_true, decide_eq_true_eq] at hf
 obtain ⟨hr, hf⟩ := hf
 obtain ⟨hl, hF⟩ := fits_n hp hx (by decide) (by decide) hr hf
 rcases judge_kind h with hk | hk | hk
 ·right
  refine ⟨hk, ?_⟩
  obtain ⟨_, hl2, _, hall⟩ := judge_best hp hc hk h
  unfold valueP
  rw [if_neg (by simp [hr, hl]), if_neg (by simp [hr, hl2]), value_n hp hx (by decide) (by decide) hr hl, value_n hp (certB_ok hc).2.1 (by decide) (by decide) hr hl2, ord_le]
  exact hall _ hF
 ·exact (judge_none hp hc hk h _ hF).elim
 ·exact Or.inl hk
end
section
variable {p : ProgF} {c : CertF} {x : List RawF} {cm k : Nat}
end
def QuoPost (w : World) (q : Rat) (e : Ending) (w' : World) : Prop := ∃ v, e = .returned (.tuple #[v, .int .i64 0]) ∧ FQ w' v q ∧ Below w.heap.size w w'
theorem size_quot (f g : RawF) (h : fixQ g ≠ 0) : sizeQ (fixQ f * (fixQ g)⁻¹) ≤ 4000000000 := by
 have h1 := (fit_mul (fit_fix f) (c := 8192) (b := 4096) (q := (fixQ g)⁻¹) (by
  have := sizeQ_fix g
  rw [← size_inv h] at this
  unfold sizeQ at this
  exact ⟨by omega, by omega⟩) (by omega)).size
 omega
theorem fdiv_calls (w : World) (v v2 : Value) (f g : RawF) (h : FR w v f) (h2 : FR w v2 g) (hg : fixQ g ≠ 0) : Calls Try.prog 125 #[v, v2] w fun e w' => QuoPost w (capQ (fixQ f * (fixQ g)⁻¹)) e w' := by
 obtain ⟨A1, k1, c1, A2, k2, c2, rfl, HF⟩ := h.opened
 obtain ⟨A3, k3, c3, A4, k4, c4, rfl, HG⟩ := h2.opened
 have HNZ := Hd hg
 have us : (signQ (fixQ g) == 0) = false := bneI' fun e => hg (signQ_zero_iff.1 e)
 clear h h2 hg
 go_enter Try.func125, Try.ntmps125
 go_wp2_with fail
 have H0 := Hd (HS.three (w := w) #[.bool f.neg, .slice A1 k1 c1, .slice A2 k2 c2] #[.bool g.neg, .slice A3 k3 c3, .slice A4 k4 c4] #[.bool false, .slice none 0 0, .slice none 0 0] 40 40 40)
 generalize ((w.alloc (.cells #[.bool f.neg, .slice A1 k1 c1, .slice A2 k2 c2] 40)).alloc (.cells #[.bool g.neg, .slice A3 k3 c3, .slice A4 k4 c4] 40)).alloc (.cells #[.bool false, .slice none 0 0, .slice none 0 0] 40) = W0 at *
 refine (taken_calls _ _ g (HG.out.of_below H0.out.2)).mono ?_
 rintro e w1 ⟨v, rfl, hv, hb⟩
 obtain ⟨A5, n5, c5, A6, n6, c6, rfl, HV⟩ := hv.opened'
 have H1 := Hd (H0.out.step hb)
 clear hv hb
 go_wp2_with fail
 have hbn := below_new w1 (.cells #[.slice A5 n5 c5, .slice A6 n6 c6, .bool (negQ (fixQ g))] 85)
 have HB := Hd (Blk.new w1 85 #[.slice A5 n5 c5, .slice A6 n6 c6, .bool (negQ (fixQ g))])
 have H2 := Hd (H1.out.step hbn)
 have HV2 := Hd (HV.out.of_below hbn)
 obtain ⟨gr, hgr⟩ : ∃ x, x = w1.heap.size := ⟨_, rfl⟩
 rw [← hgr] at HB ⊢
 generalize w1.alloc (.cells #[.slice A5 n5 c5, .slice A6 n6 c6, .bool (negQ (fixQ g))] 85) = W2 at *
 clear hgr hbn
 refine (sign_calls _ _ (fixQ g) HV2.out).mono ?_
 rintro e w3 ⟨rfl, hb⟩
 have H3 := Hd (H2.out.step hb)
 have HB3 := Hd (HB.out.below hb HB.out.lt)
 have HV3 := Hd (HV2.out.of_below hb)
 clear hb
 go_wp2_with fail
 obtain ⟨x0, x1, x2⟩ := (H3.out.blk 2 rfl).c3
 obtain ⟨y0, y1, y2⟩ := HB3.out.c3
 have l0 := (H3.out.blk 2 rfl).lt
 have l1 := HB3.out.lt
 refine wp_chainF (l := [_, _, _, _, _, _, _, _]) (S := Below w3.heap.size w3) 6 [([0, 2], 1), ([], 3), ([], 4), ([], 5)] [] (by kernel_rfl) (by kernel_rfl) (by kernel_rfl) rfl (Below.drew (Below.refl _ _)) ?_
 refine ⟨?_, _, ?_, rfl, ?_⟩
 rotate_left
 ·repeat (refine pu ?_; (try simp only [SQ]))
  exact rfl
 have D0 : Hid (Below w3.heap.size w3 w3.drew) := Below.drew (Below.refl _ _)
 have B0 := Hd (below_next H3.out.2 D0.out)
 go_wp2_with fail
 refine (taken_calls _ _ f (HF.out.of_below B0.out)).mono ?_
 rintro e w4 ⟨v, rfl, hv, hb⟩
 obtain ⟨A7, n7, c7, A8, n8, c8, rfl, HV4⟩ := hv.opened'
 have D4 := Hd (below_next D0.out hb)
 clear hv hb
 go_wp2_with fail
 refine And.intro D4.out ⟨_, _, rfl, rfl, ?_⟩
 go_wp2_with fail
 refine (over_calls _ _ (fixQ g) (HV3.out.of_below D4.out) HNZ.out).mono ?_
 rintro e w5 ⟨v, rfl, hv, hb⟩
 obtain ⟨A9, n9, c9, A10, n10, c10, rfl, HV5⟩ := hv.opened'
 have D5 := Hd (below_next D4.out hb)
 have HV45 := Hd (HV4.out.of_below hb)
 clear hv hb
 go_wp2_with fail
 refine And.intro D5.out ⟨_, _, rfl, rfl, ?_⟩
 go_wp2_with fail
 refine (times_calls _ _ _ _ _ HV45.out HV5.out (by have := sizeQ_fix f; omega) (by rw [size_inv HNZ.out]; have := sizeQ_fix g; omega)).mono ?_
 rintro e w6 ⟨v, rfl, hv, hb⟩
 obtain ⟨A11, n11, c11, A12, n12, c12, rfl, HV6⟩ := hv.opened'
 have D6 := Hd (below_next D5.out hb)
 clear hv hb
 go_wp2_with fail
 refine And.intro D6.out ⟨_, _, rfl, rfl, ?_⟩
 go_wp2_with fail
 refine (told_calls _ _ _ HV6.out (size_quot f g HNZ.out)).mono ?_
 rintro e w7 ⟨v, rfl, hv, hb⟩
 obtain ⟨A13, n13, c13, A14, n14, c14, rfl, HV7⟩ := hv.opened
 have D7 := Hd (below_next D6.out hb)
 have H7 := Hd (H3.out.step D7.out)
 clear hv hb x0 x1 x2 y0 y1 y2 l0 l1
 go_wp2_with fail
 refine And.intro D7.out ⟨_, rfl, ?_⟩
 obtain ⟨e0, e1, e2⟩ := (H7.out.blk 0 rfl).c3
 obtain ⟨f0, f1, f2⟩ := (H7.out.blk 0 rfl).f3
 have l2 := (H7.out.blk 0 rfl).lt
 go_wp2_with fail
 refine NoPanic.normal ?_
 go_wp2_with fail
 exact ret40i Try.results125 rfl rfl ((H7.out.blk 0 rfl).put3 _ _ _) ⟨_, rfl, HV7.out.put3 (H7.out.blk 0 rfl) ni40 _ _ _, below_put3 H7.out.2 (by omega) _ _ _⟩
def Only (g : Nat) (w w1 : World) : Prop := Keeps w w1 ∧ (∀ k, k < w.heap.size → k ≠ g → w1.heap[k]? = w.heap[k]?) ∧ (w.os = w1.os ∧ w.tape = w1.tape ∧ w.output = w1.output)
theorem Only.of_below {g : Nat} {w w1 : World} (h : Below w.heap.size w w1) : Only g w w1 := ⟨Keeps.of_below h, fun k hk _ => h.block k hk, h.os.symm, h.tape.symm, h.output.symm⟩
theorem Only.trans {g : Nat} {a b c : World} (h : Only g a b) (h2 : Only g b c) : Only g a c :=
 ⟨h.1.trans h2.1, fun k hk hne => (h2.2.1 k (Nat.lt_of_lt_of_le hk h.1.1) hne).trans (h.2.1 k hk hne), h.2.2.1.trans h2.2.2.1, h.2.2.2.1.trans h2.2.2.2.1, h.2.2.2.2.trans h2.2.2.2.2⟩
theorem Only.blk {g k t : Nat} {w w1 : World} {cs : Array Value} (h : Only g w w1) (hb : Blk w k t cs) (hne : k ≠ g) : Blk w1 k t cs := (h.2.1 k hb.lt hne).trans hb
def ChgS (base : Nat) (w w1 : World) : Prop := Keeps w w1 ∧ (∀ k, k < w.heap.size → (k < base ∨ ((∀ cs, ¬ Blk w k 40 cs) ∧ ∀ cs, ¬ Blk w k 3 cs)) → w1.heap[k]? = w.heap[k]?) ∧ (w.os = w1.os ∧ w.tape = w1.tape ∧ w.output = w1.output)
theorem ChgS.of_below {base : Nat} {w w1 : World} (h : Below w.heap.size w w1) : ChgS base w w1 := ⟨Keeps.of_below h, fun k hk _ => h.block k hk, h.os.symm, h.tape.symm, h.output.symm⟩
theorem ChgS.trans {base : Nat} {a b c : World} (h : ChgS base a b) (h2 : ChgS base b c) : ChgS base a c := by
 refine ⟨h.1.trans h2.1, fun k hk hh => ?_, h.2.2.1.trans h2.2.2.1, h.2.2.2.1.trans h2.2.2.2.1, h.2.2.2.2.trans h2.2.2.2.2⟩
 have h3 := h.2.1 k hk hh
 refine (h2.2.1 k (Nat.lt_of_lt_of_le hk h.1.1) ?_).trans h3
 rcases hh with hh | hh
 ·exact .inl hh
 ·exact .inr ⟨fun cs hb => hh.1 cs (h3.symm.trans hb), fun cs hb => hh.2 cs (h3.symm.trans hb)⟩
theorem ChgS.of_only {base g t : Nat} {w w1 : World} {cs : Array Value} (h : Only g w w1) (hb : Blk w g t cs) (hg : base ≤ g) (ht : t = 40 ∨ t = 3) : ChgS base w w1 := by
 refine ⟨h.1, fun k hk hh => h.2.1 k hk fun e => ?_, h.2.2⟩
 subst e
 rcases hh with hh | hh
 ·omega
 ·rcases ht with rfl | rfl
  ·exact hh.1 cs hb
  ·exact hh.2 cs hb
theorem Blk.chgS {base g t : Nat} {w w1 : World} {cs : Array Value} (h : Blk w g t cs) (hc : ChgS base w w1) (h40 : t ≠ 40) (h3 : t ≠ 3) : Blk w1 g t cs := by
 refine (hc.2.1 g h.lt (.inr ⟨fun cs' hb => h40 ?_, fun cs' hb => h3 ?_⟩)).trans h
 ·have := h.symm.trans hb
  injection this with this
  injection this
 ·have := h.symm.trans hb
  injection this with this
  injection this
theorem ChgS.below {base : Nat} {w w1 : World} (h : ChgS base w w1) (hb : base ≤ w.heap.size) : Below base w w1 :=
 ⟨h.2.2.1.symm, h.2.2.2.1.symm, h.2.2.2.2.symm, h.1.1, fun k hk => h.2.1 k (Nat.lt_of_lt_of_le hk hb) (.inl hk)⟩
def RowV (w : World) (g : Nat) (qs : List Rat) : Prop := ∃ cs : Array Value, Blk w g 40 cs ∧ (∀ u ∈ cs, notWord u = true) ∧ ∀ (j : Nat) (x : Rat), qs[j]? = some x → ∃ a b c, cs[j * 3]? = some a ∧ cs[j * 3 + 1]? = some b ∧ cs[j * 3 + 2]? = some c ∧ FQ w (.agg #[a, b, c]) x
theorem RowV.same {w w1 : World} {g : Nat} {qs : List Rat} (h : RowV w g qs) (he : w1.heap[g]? = w.heap[g]?) (hk : Keeps w w1) : RowV w1 g qs := by
 obtain ⟨cs, hb, hn, hx⟩ := h
 refine ⟨cs, he.trans hb, hn, fun j x hj => ?_⟩
 obtain ⟨a, b, c, e0, e1, e2, hE⟩ := hx j x hj
 exact ⟨a, b, c, e0, e1, e2, FQ.keeps hE hk⟩
theorem QO.v {base : Nat} {w : World} {g n c : Nat} {qs : List Rat} (h : QO base w (.slice (some ⟨g, 0, none⟩) n c) qs) : RowV w g qs ∧ base ≤ g := by
 obtain ⟨xs, h1, h2⟩ := h
 rcases h1.2 with ⟨e, _⟩ | ⟨g', cap, cur, e, hbg, hb, hnc, _, hcs, htake, hw⟩
 ·cases e
 ·injection e with e _ _
  injection e with e
  injection e with e
  subst e
  refine ⟨⟨cur, hb, hw, fun j x hj => ?_⟩, hbg⟩
  obtain ⟨vs, hv, hc, hE⟩ := h2 j x hj
  have hjl := (List.getElem?_eq_some_iff.1 hj).1
  have get : ∀ i u, vs[i]? = some u → cur[j * 3 + i]? = some u := fun i u hi => by
   have h3 := hc i u hi
   rw [← htake, List.getElem?_take] at h3
   split at h3
   ·simpa using h3
   ·cases h3
  have e0 : ∃ a, vs[0]? = some a := ⟨vs[0], Array.getElem?_eq_getElem (by omega)⟩
  have e1 : ∃ a, vs[1]? = some a := ⟨vs[1], Array.getElem?_eq_getElem (by omega)⟩
  have e2 : ∃ a, vs[2]? = some a := ⟨vs[2], Array.getElem?_eq_getElem (by omega)⟩
  obtain ⟨a, e0⟩ := e0
  obtain ⟨b, e1⟩ := e1
  obtain ⟨d, e2⟩ := e2
  have hvs : vs = #[a, b, d] := by
   refine Array.ext_getElem? fun i => ?_
   match i with
   | 0 => exact e0
   | 1 => exact e1
   | 2 => exact e2
   | k + 3 => rw [Array.getElem?_eq_none (by omega), Array.getElem?_eq_none (by simp)]
  subst hvs
  exact ⟨a, b, d, by have := get 0 a e0; simpa using this, get 1 b e1, get 2 d e2, hE⟩
theorem RowV.set {w w1 : World} {g i : Nat} {qs : List Rat} {q : Rat} {a b c : Value} (h : RowV w g qs) (hi : i < qs.length) (hw : w1 = ((w.setCell ⟨g, i * 3, none⟩ a).setCell ⟨g, i * 3 + 1, none⟩ b).setCell ⟨g, i * 3 + 2, none⟩ c) (hk : Keeps w w1) (hq : FQ w (.agg #[a, b, c]) q) (hn : ∀ u ∈ #[a, b, c], notWord u = true) : RowV w1 g (qs.set i q) := by
 subst hw
 obtain ⟨cs, hb, hcn, he⟩ := h
 have hset : ∀ {xs : Array Value} {i : Nat} {v : Value}, (∀ x ∈ xs, notWord x = true) → notWord v = true → ∀ x ∈ xs.setIfInBounds i v, notWord x = true := fun {xs i v} h1 h2 x hx => by
  rcases Array.mem_or_eq_of_mem_setIfInBounds hx with h | h
  ·exact h1 x h
  ·rw [h]; exact h2
 have hil : i * 3 + 2 < cs.size := by
  obtain ⟨_, _, _, _, _, e2, _⟩ := he i _ (List.getElem?_eq_getElem hi)
  exact (Array.getElem?_eq_some_iff.1 e2).1
 refine ⟨_, ((hb.put (i * 3) a).put (i * 3 + 1) b).put (i * 3 + 2) c, hset (hset (hset hcn (hn _ (by simp))) (hn _ (by simp))) (hn _ (by simp)), fun j y hy => ?_⟩
 by_cases hj : j = i
 ·subst hj
  rw [List.getElem?_set_self hi] at hy
  injection hy with hxy
  subst hxy
  refine ⟨a, b, c, ?_, ?_, ?_, FQ.keeps hq hk⟩
  ·rw [Array.getElem?_setIfInBounds_ne (by omega), Array.getElem?_setIfInBounds_ne (by omega), Array.getElem?_setIfInBounds_self]; rw [if_pos (by omega)]
  ·rw [Array.getElem?_setIfInBounds_ne (by omega), Array.getElem?_setIfInBounds_self]; rw [if_pos (by simp; omega)]
  ·rw [Array.getElem?_setIfInBounds_self]; rw [if_pos (by simp; omega)]
 ·rw [List.getElem?_set_ne (by omega)] at hy
  obtain ⟨a', b', c', h0, h1, h2, h3⟩ := he j y hy
  refine ⟨a', b', c', ?_, ?_, ?_, FQ.keeps h3 hk⟩
  ·rw [Array.getElem?_setIfInBounds_ne (by omega), Array.getElem?_setIfInBounds_ne (by omega), Array.getElem?_setIfInBounds_ne (by omega)]; exact h0
  ·rw [Array.getElem?_setIfInBounds_ne (by omega), Array.getElem?_setIfInBounds_ne (by omega), Array.getElem?_setIfInBounds_ne (by omega)]; exact h1
  ·rw [Array.getElem?_setIfInBounds_ne (by omega), Array.getElem?_setIfInBounds_ne (by omega), Array.getElem?_setIfInBounds_ne (by omega)]; exact h2
def IRow (w : World) (g : Nat) (l : List Int) : Prop := ∃ cs : Array Value, Blk w g 3 cs ∧ (∀ u ∈ cs, notWord u = true) ∧ ∀ (j : Nat) (x : Int), l[j]? = some x → cs[j]? = some (Value.int .i64 x)
structure View (base : Nat) (H : Nat → Option (List Rat)) (I : Nat → Option (List Int)) (w : World) : Prop where
 size : base ≤ w.heap.size
 frac : ∀ g qs, H g = some qs → base ≤ g ∧ (∀ q ∈ qs, Small q) ∧ RowV w g qs
 int : ∀ g l, I g = some l → base ≤ g ∧ IRow w g l
def upd {α : Type} (H : Nat → Option α) (g : Nat) (x : α) : Nat → Option α := fun k => if k = g then some x else H k
theorem upd_self {α : Type} (H : Nat → Option α) (g : Nat) (x : α) : upd H g x g = some x := if_pos rfl
theorem upd_ne {α : Type} {H : Nat → Option α} {g k : Nat} {x : α} (h : k ≠ g) : upd H g x k = H k := if_neg h
theorem upd_upd {α : Type} (H : Nat → Option α) (g : Nat) (x y : α) : upd (upd H g x) g y = upd H g y := by
 funext k
 unfold upd
 split <;> rfl
theorem upd_same {α : Type} {H : Nat → Option α} {g : Nat} {x : α} (h : H g = some x) : upd H g x = H := by
 funext k
 unfold upd
 split
 ·rename_i e; rw [e, h]
 ·rfl
section
variable {base : Nat} {H : Nat → Option (List Rat)} {I : Nat → Option (List Int)} {w w1 : World}
theorem View.below (h : View base H I w) (hb : Below w.heap.size w w1) : View base H I w1 := by
 refine ⟨Nat.le_trans h.size hb.size, fun g qs hg => ?_, fun g l hg => ?_⟩
 ·obtain ⟨h1, h2, h3⟩ := h.frac g qs hg
  have hlt : g < w.heap.size := by obtain ⟨cs, hb, _⟩ := h3; exact hb.lt
  exact ⟨h1, h2, h3.same (hb.block g hlt) (Keeps.of_below hb)⟩
 ·obtain ⟨h1, cs, h2, h3, h4⟩ := h.int g l hg
  exact ⟨h1, cs, h2.below hb h2.lt, h3, h4⟩
theorem View.lt {g : Nat} {qs : List Rat} (h : View base H I w) (hg : H g = some qs) : g < w.heap.size := by
 obtain ⟨_, _, cs, hb, _⟩ := h.frac g qs hg
 exact hb.lt
theorem View.ge {g : Nat} {qs : List Rat} (h : View base H I w) (hg : H g = some qs) : base ≤ g := (h.frac g qs hg).1
theorem View.blk {g : Nat} {qs : List Rat} (h : View base H I w) (hg : H g = some qs) : ∃ cs, Blk w g 40 cs ∧ ∀ u ∈ cs, notWord u = true := by
 obtain ⟨_, _, cs, hb, hn, _⟩ := h.frac g qs hg
 exact ⟨cs, hb, hn⟩
theorem View.small {g i : Nat} {qs : List Rat} {q : Rat} (h : View base H I w) (hg : H g = some qs) (hi : qs[i]? = some q) : Small q := (h.frac g qs hg).2.1 q (List.mem_of_getElem? hi)
theorem View.at_ {g i : Nat} {qs : List Rat} {q : Rat} (h : View base H I w) (hg : H g = some qs) (hi : qs[i]? = some q) :
  ∃ A1 n1 c1 A2 n2 c2, w.cell? ⟨g, i * 3, none⟩ = some (.bool (negQ q)) ∧ w.cell? ⟨g, i * 3 + 1, none⟩ = some (.slice A1 n1 c1) ∧ w.cell? ⟨g, i * 3 + 2, none⟩ = some (.slice A2 n2 c2) ∧ Hid (FQ w (.agg #[.bool (negQ q), .slice A1 n1 c1, .slice A2 n2 c2]) q) := by
 obtain ⟨_, _, cs, hb, hn, hx⟩ := h.frac g qs hg
 obtain ⟨a, b, c, e0, e1, e2, hE⟩ := hx i q hi
 have hE' : FQ w (.agg #[a, b, c]) q := hE
 obtain ⟨A1, n1, c1, A2, n2, c2, e, HQ⟩ := hE'.opened
 injection e with e
 injection e with e
 injection e with ea e
 injection e with eb e
 injection e with ec _
 subst ea eb ec
 exact ⟨A1, n1, c1, A2, n2, c2, hb.cell e0, hb.cell e1, hb.cell e2, HQ⟩
theorem View.free {g : Nat} {qs : List Rat} (h : View base H I w) (hg : H g = some qs) (j : Nat) : w.frozen? ⟨g, j, none⟩ = false := by
 obtain ⟨cs, hb, _⟩ := h.blk hg
 exact hb.frozen j
def put3 (w : World) (g o : Nat) (a b c : Value) : World := ((w.setCell ⟨g, o, none⟩ a).setCell ⟨g, o + 1, none⟩ b).setCell ⟨g, o + 2, none⟩ c
theorem put3_only {g o : Nat} {a b c : Value} {t : Nat} {cs : Array Value} (hb : Blk w g t cs) (hn : ∀ u ∈ cs, notWord u = true) : Only g w (put3 w g o a b c) := by
 have hsz : w.heap.size ≤ (put3 w g o a b c).heap.size := by simp [put3, World.setCell]
 have hot : ∀ k, k < w.heap.size → k ≠ g → (put3 w g o a b c).heap[k]? = w.heap[k]? := fun k _ hkg => by
  unfold put3
  rw [Below.heap_setCell _ _ _ k hkg, Below.heap_setCell _ _ _ k hkg, Below.heap_setCell _ _ _ k hkg]
 exact ⟨Keeps.apart hb hn hsz hot, hot, rfl, rfl, rfl⟩
theorem View.set {g i : Nat} {qs : List Rat} {q : Rat} {s : Bool} {A1 A2 : Option Addr} {n1 c1 n2 c2 : Nat} (h : View base H I w) (hg : H g = some qs) (hi : i < qs.length) (hs : Small q) (hq : FQ w (.agg #[.bool s, .slice A1 n1 c1, .slice A2 n2 c2]) q) (hI : I g = none) :
  View base (upd H g (qs.set i q)) I (put3 w g (i * 3) (.bool s) (.slice A1 n1 c1) (.slice A2 n2 c2)) ∧ Only g w (put3 w g (i * 3) (.bool s) (.slice A1 n1 c1) (.slice A2 n2 c2)) := by
 obtain ⟨cs, hb, hn⟩ := h.blk hg
 have ho : Only g w (put3 w g (i * 3) (.bool s) (.slice A1 n1 c1) (.slice A2 n2 c2)) := put3_only hb hn
 refine ⟨⟨Nat.le_trans h.size ho.1.1, fun k ks hk => ?_, fun k l hk => ?_⟩, ho⟩
 ·by_cases e : k = g
  ·subst e
   rw [upd_self] at hk
   injection hk with hk
   subst hk
   obtain ⟨h1, h2, h3⟩ := h.frac k qs hg
   refine ⟨h1, fun x hx => ?_, RowV.set h3 hi rfl ho.1 hq (by simp [notWord])⟩
   rcases List.mem_or_eq_of_mem_set hx with hx | rfl
   ·exact h2 x hx
   ·exact hs
  ·rw [upd_ne e] at hk
   obtain ⟨h1, h2, h3⟩ := h.frac k ks hk
   have hlt : k < w.heap.size := by obtain ⟨cs, hb, _⟩ := h3; exact hb.lt
   exact ⟨h1, h2, h3.same (ho.2.1 k hlt e) ho.1⟩
 ·obtain ⟨h1, cs', h2, h3, h4⟩ := h.int k l hk
  have e : k ≠ g := fun e => by rw [e, hI] at hk; cases hk
  exact ⟨h1, cs', ho.blk h2 e, h3, h4⟩
theorem View.add {g : Nat} {qs : List Rat} (h : View base H I w) (hr : RowV w g qs) (hg : base ≤ g) (hs : ∀ q ∈ qs, Small q) : View base (upd H g qs) I w := by
 refine ⟨h.size, fun k ks hk => ?_, h.int⟩
 by_cases e : k = g
 ·subst e
  rw [upd_self] at hk
  injection hk with hk
  subst hk
  exact ⟨hg, hs, hr⟩
 ·rw [upd_ne e] at hk
  exact h.frac k ks hk
theorem View.iat {g i : Nat} {l : List Int} {x : Int} (h : View base H I w) (hg : I g = some l) (hi : l[i]? = some x) : w.cell? ⟨g, i, none⟩ = some (.int .i64 x) ∧ g < w.heap.size ∧ ∀ j, w.frozen? ⟨g, j, none⟩ = false := by
 obtain ⟨_, cs, hb, _, hx⟩ := h.int g l hg
 exact ⟨hb.cell (hx i x hi), hb.lt, hb.frozen⟩
theorem View.iset {g i : Nat} {l : List Int} {x : Int} (h : View base H I w) (hg : I g = some l) (hi : i < l.length) (hH : H g = none) :
  View base H (upd I g (l.set i x)) (w.setCell ⟨g, i, none⟩ (.int .i64 x)) ∧ Only g w (w.setCell ⟨g, i, none⟩ (.int .i64 x)) := by
 obtain ⟨hbg, cs, hb, hn, hx⟩ := h.int g l hg
 have hsz : w.heap.size ≤ (w.setCell ⟨g, i, none⟩ (.int .i64 x)).heap.size := by simp [World.setCell]
 have hot : ∀ k, k < w.heap.size → k ≠ g → (w.setCell ⟨g, i, none⟩ (.int .i64 x)).heap[k]? = w.heap[k]? := fun k _ hkg => Below.heap_setCell _ _ _ k hkg
 have ho : Only g w (w.setCell ⟨g, i, none⟩ (.int .i64 x)) := ⟨Keeps.apart hb hn hsz hot, hot, rfl, rfl, rfl⟩
 refine ⟨⟨Nat.le_trans h.size ho.1.1, fun k ks hk => ?_, fun k m hk => ?_⟩, ho⟩
 ·have e : k ≠ g := fun e => by rw [e, hH] at hk; cases hk
  obtain ⟨h1, h2, h3⟩ := h.frac k ks hk
  have hlt : k < w.heap.size := by obtain ⟨cs, hb, _⟩ := h3; exact hb.lt
  exact ⟨h1, h2, h3.same (ho.2.1 k hlt e) ho.1⟩
 ·by_cases e : k = g
  ·subst e
   rw [upd_self] at hk
   injection hk with hk
   subst hk
   refine ⟨hbg, _, hb.put i _, fun u hu => ?_, fun j y hj => ?_⟩
   ·rcases Array.mem_or_eq_of_mem_setIfInBounds hu with hu | rfl
    ·exact hn u hu
    ·rfl
   ·have hil : i < cs.size := (Array.getElem?_eq_some_iff.1 (hx i _ (List.getElem?_eq_getElem hi))).1
    by_cases hij : j = i
    ·subst hij
     rw [List.getElem?_set_self hi] at hj
     injection hj with hj
     subst hj
     rw [Array.getElem?_setIfInBounds_self, if_pos hil]
    ·rw [List.getElem?_set_ne (by omega)] at hj
     rw [Array.getElem?_setIfInBounds_ne (by omega)]
     exact hx j y hj
  ·rw [upd_ne e] at hk
   obtain ⟨h1, cs', h2, h3, h4⟩ := h.int k m hk
   exact ⟨h1, cs', ho.blk h2 e, h3, h4⟩
end
theorem View.sep {base : Nat} {H : Nat → Option (List Rat)} {I : Nat → Option (List Int)} {w : World} {g : Nat} {qs : List Rat} (h : View base H I w) (hg : H g = some qs) : I g = none := by
 cases e : I g with
 | none => rfl
 | some l =>
  obtain ⟨_, cs, h1, _⟩ := h.int g l e
  obtain ⟨cs', h2, _⟩ := h.blk hg
  have := h1.symm.trans h2
  injection this with this
  injection this with _ this
  cases this
theorem View.sepi {base : Nat} {H : Nat → Option (List Rat)} {I : Nat → Option (List Int)} {w : World} {g : Nat} {l : List Int} (h : View base H I w) (hg : I g = some l) : H g = none := by
 cases e : H g with
 | none => rfl
 | some qs => rw [h.sep e] at hg; cases hg
def VH (H : Nat → Option (List Rat)) (v : Value) (qs : List Rat) : Prop := (qs = [] ∧ v = .slice none 0 0) ∨ ∃ g c, v = .slice (some ⟨g, 0, none⟩) qs.length c ∧ H g = some qs
def VI (I : Nat → Option (List Int)) (v : Value) (l : List Int) : Prop := (l = [] ∧ v = .slice none 0 0) ∨ ∃ g c, v = .slice (some ⟨g, 0, none⟩) l.length c ∧ I g = some l
def subQ (a b : Rat) : Rat := capQ (a + -b)
def mulQ (a b : Rat) : Rat := capQ (a * b)
def quoQ (a b : Rat) : Rat := capQ (a * b⁻¹)
def mix {α : Type} (X L : List α) (i : Nat) : List α := X.take i ++ L.drop i
theorem mix_zero {α : Type} (X L : List α) : mix X L 0 = L := by simp [mix]
theorem mix_all {α : Type} {X L : List α} (h : X.length = L.length) : mix X L L.length = X := by simp [mix, ← h]
theorem mix_length {α : Type} {X L : List α} (h : X.length = L.length) (i : Nat) : (mix X L i).length = L.length := by simp [mix]; omega
theorem mix_at {α : Type} {X L : List α} (h : X.length = L.length) {i : Nat} {x : α} (hi : L[i]? = some x) : (mix X L i)[i]? = some x := by
 have hl := (List.getElem?_eq_some_iff.1 hi).1
 unfold mix
 rw [List.getElem?_append_right (by simp; omega)]
 simp only [List.length_take]
 rw [show i - min i X.length = 0 by omega, List.getElem?_drop]
 simpa using hi
theorem mix_set {α : Type} {X L : List α} (h : X.length = L.length) {i : Nat} {x : α} (hi : X[i]? = some x) : (mix X L i).set i x = mix X L (i + 1) := by
 obtain ⟨hl, e⟩ := List.getElem?_eq_some_iff.1 hi
 unfold mix
 rw [List.set_append_right _ _ (by simp; omega)]
 simp only [List.length_take]
 rw [show i - min i X.length = 0 by omega, List.drop_eq_getElem_cons (by omega : i < L.length), List.set_cons_zero, List.take_add_one, hi]
 simp
theorem mix_skip {α : Type} {X L : List α} (h : X.length = L.length) {i : Nat} {x : α} (hi : X[i]? = some x) (hL : L[i]? = some x) : mix X L (i + 1) = mix X L i := by
 rw [← mix_set h hi]
 have := mix_at h hL
 obtain ⟨hl, e⟩ := List.getElem?_eq_some_iff.1 this
 rw [← e, List.set_getElem_self]
noncomputable def takeE (by_ l r : Rat) : Rat := if r = 0 then l else subQ l (mulQ by_ r)
noncomputable def takeQ (by_ : Rat) (L R : List Rat) : List Rat := L.zipWith (takeE by_) R
theorem takeQ_length {by_ : Rat} {L R : List Rat} (h : R.length = L.length) : (takeQ by_ L R).length = L.length := by simp [takeQ, h]
theorem takeQ_at {by_ : Rat} {L R : List Rat} {i : Nat} {l r : Rat} (hl : L[i]? = some l) (hr : R[i]? = some r) : (takeQ by_ L R)[i]? = some (takeE by_ l r) := by
 unfold takeQ
 rw [List.getElem?_zipWith, hl, hr]
theorem small_cap (q : Rat) : Small (capQ q) := capQ_size q
def TakePost (base gl : Nat) (H : Nat → Option (List Rat)) (I : Nat → Option (List Int)) (L : List Rat) (w : World) (e : Ending) (w' : World) : Prop := e = .returned (.tuple #[]) ∧ View base (upd H gl L) I w' ∧ Only gl w w'
theorem take_calls (base : Nat) (H : Nat → Option (List Rat)) (I : Nat → Option (List Int)) (w : World) (gl gr cl cr : Nat) (L R : List Rat) (vb : Value) (by_ : Rat) (hv : View base H I w) (hL : H gl = some L) (hR : H gr = some R) (hne : gl ≠ gr) (hlen : R.length = L.length) (hb : FQ w vb by_) (hs : Small by_) (hll : L.length ≤ 1000000000) :
  Calls Try.prog 126 #[.slice (some ⟨gl, 0, none⟩) L.length cl, .slice (some ⟨gr, 0, none⟩) L.length cr, vb] w fun e w' => TakePost base gl H I (takeQ by_ L R) w e w' := by
 obtain ⟨A1, n1, c1, A2, n2, c2, rfl, HB⟩ := hb.opened
 have HV := Hd hv
 have HL := Hd hL
 have HR := Hd hR
 have HS1 := Hd hs
 have HLN := Hd hlen
 have HTL : Hid ((takeQ by_ L R).length = L.length) := takeQ_length hlen
 have HNE := Hd hne
 have hgl := hv.lt hL
 have hgr := hv.lt hR
 have HGL := Hd hgl
 have HGR := Hd hgr
 clear hv hL hR hb hs hlen hne hgl hgr
 go_enter Try.func126, Try.ntmps126
 go_wp2_with fail
 have hbn := below_new w (.cells #[.bool (negQ by_), .slice A1 n1 c1, .slice A2 n2 c2] 40)
 have HV0 := Hd (HV.out.below hbn)
 have HX0 := Hd (Blk.new w 40 #[.bool (negQ by_), .slice A1 n1 c1, .slice A2 n2 c2])
 have HB0 := Hd (HB.out.of_below hbn)
 have HO0 := Hd (Only.of_below (g := gl) hbn)
 obtain ⟨gb, hgb⟩ : ∃ g, g = w.heap.size := ⟨_, rfl⟩
 have HGB : Hid (gb ≠ gl) := by unfold Hid; rw [hgb]; exact Nat.ne_of_gt HGL.out
 rw [← hgb] at HX0 ⊢
 generalize w.alloc (.cells #[.bool (negQ by_), .slice A1 n1 c1, .slice A2 n2 c2] 40) = W0 at *
 clear hgb hbn HB
 go_loopw [10] (fun vi wr => ∃ i : Nat, i ≤ L.length ∧ vi = .int .i64 (i : Int) ∧ View base (upd H gl (mix (takeQ by_ L R) L i)) I wr ∧ Blk wr gb 40 #[.bool (negQ by_), .slice A1 n1 c1, .slice A2 n2 c2] ∧ FQ wr (.agg #[.bool (negQ by_), .slice A1 n1 c1, .slice A2 n2 c2]) by_ ∧ Only gl w wr) (fun vi _ => L.length - (intOf vi).toNat)
 case atStart => exact ⟨0, Nat.zero_le _, rfl, by rw [mix_zero, upd_same HL.out]; exact HV0.out, HX0.out, HB0.out, HO0.out⟩
 case round =>
  obtain ⟨i, hi, rfl, hv, hx, hb, ho⟩ := hrel
  have HVr := Hd hv
  have HXr := Hd hx
  have HBr := Hd hb
  have HOr := Hd ho
  clear hv hx hb ho HV0 HX0 HB0 HO0
  by_cases hlt : i < L.length
  ·obtain ⟨l, hl⟩ : ∃ x, L[i]? = some x := ⟨L[i], List.getElem?_eq_getElem hlt⟩
   obtain ⟨r, hr⟩ : ∃ x, R[i]? = some x := ⟨R[i]'(by rw [HLN.out]; exact hlt), List.getElem?_eq_getElem _⟩
   have HUR : Hid (upd H gl (mix (takeQ by_ L R) L i) gr = some R) := by unfold Hid; rw [upd_ne HNE.out.symm]; exact HR.out
   have HUL : Hid (upd H gl (mix (takeQ by_ L R) L i) gl = some (mix (takeQ by_ L R) L i)) := upd_self _ _ _
   have HML := Hd (mix_at HTL.out hl)
   have HTI := Hd (takeQ_at (by_ := by_) hl hr)
   have HSR : Hid (Small r) := HVr.out.small HUR.out hr
   have HSL : Hid (Small l) := HVr.out.small HUL.out HML.out
   have HLI := Hd hl
   have HMN : Hid (i < (mix (takeQ by_ L R) L i).length) := by unfold Hid; rw [mix_length HTL.out]; exact hlt
   obtain ⟨A3, n3, c3, A4, n4, c4, k0, k1, k2, HFR⟩ := HVr.out.at_ HUR.out hr
   have hgr := HVr.out.lt HUR.out
   have m1 : (i : Int) < (L.length : Int) := by omega
   have m3 : (i : Int).toNat = i := by omega
   have m4 : (0 : Int) ≤ (i : Int) := by omega
   clear hl hr
   go_wp2_with fail
   have hbn := below_new wr (.cells #[.bool (negQ r), .slice A3 n3 c3, .slice A4 n4 c4] 40)
   have HV1 := Hd (HVr.out.below hbn)
   have HX1 := Hd (HXr.out.below hbn HXr.out.lt)
   have HB1 := Hd (HBr.out.of_below hbn)
   have HR1 := Hd (HFR.out.of_below hbn)
   have HY1 := Hd (Blk.new wr 40 #[.bool (negQ r), .slice A3 n3 c3, .slice A4 n4 c4])
   have HO1 := Hd (HOr.out.trans (Only.of_below hbn))
   obtain ⟨g7, hg7⟩ : ∃ g, g = wr.heap.size := ⟨_, rfl⟩
   have HG7 : Hid (g7 ≠ gl) := by unfold Hid; rw [hg7]; exact Nat.ne_of_gt (HVr.out.lt HUL.out)
   rw [← hg7] at HY1 ⊢
   generalize wr.alloc (.cells #[.bool (negQ r), .slice A3 n3 c3, .slice A4 n4 c4] 40) = W1 at *
   clear hg7 hbn k0 k1 k2 hgr
   refine (sgn_calls _ _ (rawQ r) (FR.of_fq HR1.out HSR.out)).mono ?_
   rintro e w2 ⟨rfl, hb⟩
   rw [fixQ_raw _ HSR.out]
   have HV2 := Hd (HV1.out.below hb)
   have HX2 := Hd (HX1.out.below hb HX1.out.lt)
   have HB2 := Hd (HB1.out.of_below hb)
   have HR2 := Hd (HR1.out.of_below hb)
   have HY2 := Hd (HY1.out.below hb HY1.out.lt)
   have HO2 := Hd (HO1.out.trans (Only.of_below hb))
   clear hb
   by_cases q : r = 0
   ·have u : (signQ r != 0) = false := beqI (signQ_zero_iff.2 q)
    have HNX : Hid (mix (takeQ by_ L R) L (i + 1) = mix (takeQ by_ L R) L i) := mix_skip HTL.out (by rw [HTI.out]; unfold takeE; rw [if_pos q]) HLI.out
    clear q
    go_wp2_with fail
    go_roundw
    case rel => exact ⟨i + 1, by omega, by go_num, by rw [HNX.out]; exact HV2.out, HX2.out, HB2.out, HO2.out⟩
    case measure => simp [intOf]; omega
   ·have u : (signQ r != 0) = true := bneI fun e => q (signQ_zero_iff.1 e)
    have HNX : Hid ((mix (takeQ by_ L R) L i).set i (subQ l (mulQ by_ r)) = mix (takeQ by_ L R) L (i + 1)) := mix_set HTL.out (by rw [HTI.out]; unfold takeE; rw [if_neg q])
    clear q
    obtain ⟨A5, n5, c5, A6, n6, c6, k0, k1, k2, HFL⟩ := HV2.out.at_ HUL.out HML.out
    have hgl := HV2.out.lt HUL.out
    obtain ⟨x0, x1, x2⟩ := HX2.out.c3
    have hlx := HX2.out.lt
    obtain ⟨y0, y1, y2⟩ := HY2.out.c3
    have hly := HY2.out.lt
    go_wp2_with fail
    refine wp_chainF (l := [_, _, _, _, _, _, _, _, _, _, _, _]) (S := Below w2.heap.size w2) 10 [([0, 1, 2, 3, 4, 5, 6, 7], 8), ([], 9)] [] (by kernel_rfl) (by kernel_rfl) (by kernel_rfl) rfl (Below.drew (Below.refl _ _)) ?_
    refine ⟨?_, _, ?_, rfl, ?_⟩
    rotate_left
    ·repeat (refine pu ?_; (try simp only [SQ]))
     exact rfl
    have D0 : Hid (Below w2.heap.size w2 w2.drew) := Below.drew (Below.refl _ _)
    go_wp2_with fail
    refine (fmul_calls _ _ _ (rawQ by_) (rawQ r) (FR.of_fq (HB2.out.of_below D0.out) HS1.out) (FR.of_fq (HR2.out.of_below D0.out) HSR.out)).mono ?_
    rintro e w4 ⟨v, rfl, hv, hb⟩
    rw [fixQ_raw _ HS1.out, fixQ_raw _ HSR.out] at hv
    have D4 := Hd (below_next D0.out hb)
    have HM4 := Hd hv
    clear hv hb
    go_wp2_with fail
    refine And.intro D4.out ⟨_, _, rfl, rfl, ?_⟩
    go_wp2_with fail
    refine (fsub_calls _ _ _ (rawQ l) (rawQ (capQ (by_ * r))) (FR.of_fq (HFL.out.of_below D4.out) HSL.out) (FR.of_fq HM4.out (small_cap _))).mono ?_
    rintro e w5 ⟨v, rfl, hv, hb⟩
    rw [fixQ_raw _ HSL.out, fixQ_raw _ (small_cap _)] at hv
    obtain ⟨A7, n7, c7, A8, n8, c8, rfl, HF5⟩ := hv.opened
    have D5 := Hd (below_next D4.out hb)
    have HV5 := Hd (HV2.out.below D5.out)
    have HX5 := Hd (HX2.out.below D5.out HX2.out.lt)
    have HB5 := Hd (HB2.out.of_below D5.out)
    have HO5 := Hd (HO2.out.trans (Only.of_below D5.out))
    clear hv hb
    go_wp2_with fail
    refine And.intro D5.out ⟨_, rfl, ?_⟩
    have f0 := HV5.out.free HUL.out (i * 3)
    have f1 := HV5.out.free HUL.out (i * 3 + 1)
    have f2 := HV5.out.free HUL.out (i * 3 + 2)
    have j0 : w5.cell? ⟨gl, i * 3, none⟩ = _ := ((bcell D5.out).1 gl _ hgl).trans k0
    have j1 : w5.cell? ⟨gl, i * 3 + 1, none⟩ = _ := ((bcell D5.out).1 gl _ hgl).trans k1
    have j2 : w5.cell? ⟨gl, i * 3 + 2, none⟩ = _ := ((bcell D5.out).1 gl _ hgl).trans k2
    clear k0 k1 k2 x0 x1 x2 y0 y1 y2 hlx hly
    go_wp2_with fail
    refine NoPanic.normal ?_
    have hst := HV5.out.set HUL.out HMN.out (small_cap _) HF5.out (HV5.out.sep HUL.out)
    go_wp2_with fail
    go_roundw
    case rel => exact ⟨i + 1, by omega, by go_num, by rw [← HNX.out, ← upd_upd]; exact hst.1, hst.2.blk HX5.out HGB.out, HB5.out.keeps hst.2.1, HO5.out.trans hst.2⟩
    case measure => simp [intOf]; omega
  ·obtain rfl : i = L.length := by omega
   rw [mix_all HTL.out] at HVr
   go_wp2_with fail
   go_end0
   exact ⟨rfl, HVr.out, HOr.out⟩
structure Shape where
 p0 : Value
 p1 : Value
 p2 : Value
 p3 : Value
 rows : Value
 right : Value
 base : Value
 plus : Value
 minus : Value
 real : Nat
 width : Nat
 id : Value
 turned : Value
def Shape.cells (s : Shape) : Array Value := #[s.p0, s.p1, s.p2, s.p3, s.rows, s.right, s.base, s.plus, s.minus, .int .i64 (s.real : Int), .int .i64 (s.width : Int), s.id, s.turned]
def VRows (w : World) (v : Value) (width : Nat) (gs : List (Nat × Nat)) : Prop :=
 (gs = [] ∧ v = .slice none 0 0) ∨ ∃ gR c cur, v = .slice (some ⟨gR, 0, none⟩) gs.length c ∧ Blk w gR 23 cur ∧ ∀ (i : Nat) (p : Nat × Nat), gs[i]? = some p → cur[i]? = some (.slice (some ⟨p.1, 0, none⟩) width p.2)
def TabW (w : World) (gt : Nat) (S : Shape) (gs : List (Nat × Nat)) (tn : List Bool) : Prop := Blk w gt 121 S.cells ∧ VRows w S.rows S.width gs ∧ FrO 0 w S.turned tn
theorem BL.same {w w1 : World} {A : Option Addr} {n c : Nat} {bs : List Bool} (h : BL w (.slice A n c) bs) (hs : w.heap.size ≤ w1.heap.size) (he : 0 < bs.length → ∀ g o, A = some ⟨g, o, none⟩ → w1.heap[g]? = w.heap[g]?) : BL w1 (.slice A n c) bs := by
 obtain ⟨A', c', e, hlc, hr⟩ := h
 injection e with e1 e2 e3
 subst e1 e3
 refine ⟨A, c, by rw [e2], hlc, fun hp => ?_⟩
 obtain ⟨g, o, hA, hg, hx⟩ := hr hp
 refine ⟨g, o, hA, Nat.lt_of_lt_of_le hg hs, fun j x hj => ?_⟩
 obtain ⟨vs, h3, h4, h5⟩ := hx j x hj
 refine ⟨vs, h3, fun i u hi => ?_, h5⟩
 have h6 := h4 i u hi
 have h7 := he hp g o hA
 simp only [World.cell?] at h6 ⊢
 rw [h7]
 exact h6
theorem FrO.chgS {base : Nat} {w w1 : World} {v : Value} {bs : List Bool} (h : FrO 0 w v bs) (hc : ChgS base w w1) : FrO 0 w1 v bs := by
 obtain ⟨A, c, rfl, hlc⟩ := h.1.slice
 have same : 0 < bs.length → ∀ g o, A = some ⟨g, o, none⟩ → w1.heap[g]? = w.heap[g]? := fun hp g o hA => by
  obtain ⟨A', c', e, _, hr⟩ := h.1
  injection e with e1 _ _
  subst e1
  obtain ⟨g', o', hA', hg', _⟩ := hr hp
  rw [hA] at hA'
  injection hA' with hA'
  injection hA' with hA' _
  subst hA'
  rcases h.2 g (by rw [hA]; rfl) hp with h3 | ⟨cs, h3⟩
  ·omega
  ·refine hc.2.1 g hg' (.inr ⟨fun cs' h4 => ?_, fun cs' h4 => ?_⟩)
   ·have := h3.symm.trans h4
    injection this with this
    injection this with _ this
    cases this
   ·have := h3.symm.trans h4
    injection this with this
    injection this with _ this
    cases this
 refine ⟨h.1.same hc.1.1 same, fun g hg hl => ?_⟩
 rcases h.2 g hg hl with h3 | ⟨cs, h3⟩
 ·omega
 ·exact .inr ⟨cs, h3.chgS hc (by decide) (by decide)⟩
theorem TabW.chg {base gt : Nat} {w w1 : World} {S : Shape} {gs : List (Nat × Nat)} {tn : List Bool} (h : TabW w gt S gs tn) (hc : ChgS base w w1) : TabW w1 gt S gs tn := by
 refine ⟨h.1.chgS hc (by decide) (by decide), ?_, h.2.2.chgS hc⟩
 rcases h.2.1 with h1 | ⟨gR, c, cur, e, hb, hx⟩
 ·exact .inl h1
 ·exact .inr ⟨gR, c, cur, e, hb.chgS hc (by decide) (by decide), hx⟩
theorem TabW.below {gt : Nat} {w w1 : World} {S : Shape} {gs : List (Nat × Nat)} {tn : List Bool} (h : TabW w gt S gs tn) (hb : Below w.heap.size w w1) : TabW w1 gt S gs tn := h.chg (ChgS.of_below (base := 0) hb)
structure Tab where
 rows : List (List Rat)
 right : List Rat
 base : List Int
 plus : List Int
 minus : List Int
 id : List Int
structure TabV (H : Nat → Option (List Rat)) (I : Nat → Option (List Int)) (S : Shape) (gs : List (Nat × Nat)) (T : Tab) : Prop where
 len : gs.length = T.rows.length
 row : ∀ (i : Nat) (p : Nat × Nat) (q : List Rat), gs[i]? = some p → T.rows[i]? = some q → H p.1 = some q ∧ q.length = S.width
 nodup : (gs.map Prod.fst).Nodup
 right : VH H S.right T.right
 rightLen : T.right.length = T.rows.length
 base : VI I S.base T.base
 baseLen : T.base.length = T.rows.length
 plus : VI I S.plus T.plus
 minus : VI I S.minus T.minus
 id : VI I S.id T.id
 idLen : T.id.length = T.rows.length
 apart : ∀ g c n, S.right = .slice (some ⟨g, 0, none⟩) n c → g ∉ gs.map Prod.fst
theorem VH.slice {H : Nat → Option (List Rat)} {v : Value} {qs : List Rat} (h : VH H v qs) : ∃ A c, v = .slice A qs.length c := by
 rcases h with ⟨rfl, rfl⟩ | ⟨g, c, rfl, _⟩
 ·exact ⟨_, _, rfl⟩
 ·exact ⟨_, _, rfl⟩
theorem VH.at_ {H : Nat → Option (List Rat)} {A : Option Addr} {n c : Nat} {qs : List Rat} (h : VH H (.slice A n c) qs) (hp : 0 < qs.length) : ∃ g, A = some ⟨g, 0, none⟩ ∧ H g = some qs := by
 rcases h with ⟨rfl, _⟩ | ⟨g, c, e, hg⟩
 ·exact absurd hp (by simp)
 ·injection e with e _ _
  exact ⟨g, e, hg⟩
theorem VI.slice {I : Nat → Option (List Int)} {v : Value} {l : List Int} (h : VI I v l) : ∃ A c, v = .slice A l.length c := by
 rcases h with ⟨rfl, rfl⟩ | ⟨g, c, rfl, _⟩
 ·exact ⟨_, _, rfl⟩
 ·exact ⟨_, _, rfl⟩
theorem VI.at_ {I : Nat → Option (List Int)} {A : Option Addr} {n c : Nat} {l : List Int} (h : VI I (.slice A n c) l) (hp : 0 < l.length) : ∃ g, A = some ⟨g, 0, none⟩ ∧ I g = some l := by
 rcases h with ⟨rfl, _⟩ | ⟨g, c, e, hg⟩
 ·exact absurd hp (by simp)
 ·injection e with e _ _
  exact ⟨g, e, hg⟩
theorem VRows.slice {w : World} {v : Value} {k : Nat} {gs : List (Nat × Nat)} (h : VRows w v k gs) : ∃ A c, v = .slice A gs.length c := by
 rcases h with ⟨rfl, rfl⟩ | ⟨g, c, cur, rfl, _⟩
 ·exact ⟨_, _, rfl⟩
 ·exact ⟨_, _, rfl⟩
theorem VRows.at_ {w : World} {A : Option Addr} {n c k i : Nat} {gs : List (Nat × Nat)} {p : Nat × Nat} (h : VRows w (.slice A n c) k gs) (hp : gs[i]? = some p) : ∃ g, A = some ⟨g, 0, none⟩ ∧ g < w.heap.size ∧ w.cell? ⟨g, i, none⟩ = some (.slice (some ⟨p.1, 0, none⟩) k p.2) := by
 rcases h with ⟨rfl, _⟩ | ⟨g, c, cur, e, hb, hx⟩
 ·simp at hp
 ·injection e with e _ _
  exact ⟨g, e, hb.lt, hb.cell (hx i p hp)⟩
theorem Blk.c13 {W : World} {g t : Nat} {c0 c1 c2 c3 c4 c5 c6 c7 c8 c9 c10 c11 c12 : Value} (h : Blk W g t #[c0, c1, c2, c3, c4, c5, c6, c7, c8, c9, c10, c11, c12]) :
  W.cell? ⟨g, 0, none⟩ = some c0 ∧ W.cell? ⟨g, 4, none⟩ = some c4 ∧ W.cell? ⟨g, 5, none⟩ = some c5 ∧ W.cell? ⟨g, 6, none⟩ = some c6 ∧ W.cell? ⟨g, 7, none⟩ = some c7 ∧ W.cell? ⟨g, 8, none⟩ = some c8 ∧ W.cell? ⟨g, 9, none⟩ = some c9 ∧ W.cell? ⟨g, 10, none⟩ = some c10 ∧ W.cell? ⟨g, 11, none⟩ = some c11 ∧ W.cell? ⟨g, 12, none⟩ = some c12 :=
 ⟨h.cell rfl, h.cell rfl, h.cell rfl, h.cell rfl, h.cell rfl, h.cell rfl, h.cell rfl, h.cell rfl, h.cell rfl, h.cell rfl⟩
theorem wpl_copyQ {ops : Array Oper} {rest : List Oper} {o : Oper} {a : Act} {Q : Exit → Act → World → Prop} {W : World} (hgd : o.guard = none) (s x : Operand) (ho : o.op = .call { callee := .builtin .append, args := #[s, x], argTypes := #[23, 23] }) {g n c : Nat} {qs : List Rat}
  (hs : a.eval s = .slice none 0 0) (hx : a.eval x = .slice (some ⟨g, 0, none⟩) n c) (hn : n = qs.length) (hr : RowV W g qs) (hp : 0 < qs.length) (hl : qs.length ≤ 1000000000)
  (h : ∀ g' c' w', W.heap.size ≤ g' → g' < w'.heap.size → RowV w' g' qs → Below W.heap.size W w' → wpList Try.prog ops Q rest (a.put o.dst (.slice (some ⟨g', 0, none⟩) n c')) w') : wpList Try.prog ops Q (o :: rest) a W := by
 subst hn
 obtain ⟨cs, hb, hw, hc⟩ := hr
 have hsz : qs.length * 3 ≤ cs.size := by
  obtain ⟨_, _, _, _, _, e2, _⟩ := hc (qs.length - 1) _ (List.getElem?_eq_getElem (by omega))
  have := (Array.getElem?_eq_some_iff.1 e2).1
  omega
 have hnl : (cs.toList.take (qs.length * 3)).length = qs.length * 3 := by simp; omega
 have hone : ∀ u ∈ cs.toList.take (qs.length * 3), u.oneCell' = true := fun u hu => by
  obtain ⟨j, hj⟩ := List.getElem?_of_mem hu
  have hjl := (List.getElem?_eq_some_iff.1 hj).1
  rw [hnl] at hjl
  obtain ⟨a', b', c', e0, e1, e2, hE⟩ := hc (j / 3) _ (List.getElem?_eq_getElem (by omega))
  obtain ⟨A1, n1, c1, A2, n2, c2, e, _⟩ := hE.opened
  injection e with e
  injection e with e
  injection e with ea e
  injection e with eb e
  injection e with ec _
  subst ea eb ec
  have hj' : cs[j]? = some u := by
   obtain ⟨h1, h2⟩ := List.getElem?_eq_some_iff.1 hj
   rw [List.getElem_take] at h2
   have hjc : j < cs.size := by omega
   rw [Array.getElem?_eq_getElem hjc]
   simpa using h2
  have h3 : j % 3 = 0 ∨ j % 3 = 1 ∨ j % 3 = 2 := by omega
  rcases h3 with h3 | h3 | h3
  ·rw [show j / 3 * 3 = j by omega] at e0
   rw [e0] at hj'
   injection hj' with hj'
   rw [← hj']; rfl
  ·rw [show j / 3 * 3 + 1 = j by omega] at e1
   rw [e1] at hj'
   injection hj' with hj'
   rw [← hj']; rfl
  ·rw [show j / 3 * 3 + 2 = j by omega] at e2
   rw [e2] at hj'
   injection hj' with hj'
   rw [← hj']; rfl
 refine wpl_appendR hgd s x 23 ho (base := W.heap.size) zeroF 56 Try.underlying23 info40z rfl zeroF_words (.slice none 0 0) 0 [] hs (OwnR.nil _ _ _ _) ⟨g, 0, none⟩ qs.length c (cs.toList.take (qs.length * 3)) hx hnl (fun j u hj => ?_) hone (fun u hu => hw u (by simpa using List.mem_of_mem_take hu)) hp (by omega) (by omega) (Nat.le_refl _) fun v' w' h3 h4 h5 h6 => ?_
 ·obtain ⟨h1, h2⟩ := List.getElem?_eq_some_iff.1 hj
  rw [List.getElem_take] at h2
  exact lit_cells hb j u (by rw [← h2]; exact List.getElem?_eq_getElem _)
 ·rw [Nat.zero_add, List.nil_append] at h3
  have hbl : Below W.heap.size W w' := below_none (Below.refl _ _) h4 (by intro k hk; simp [Value.ownBlock] at hk)
  have hk : Keeps W w' := h5
  rcases h3.2 with ⟨e, h0⟩ | ⟨g', cap, cur, rfl, hbg, hb', hnc, _, hcs, htake, hw'⟩
  ·omega
  ·refine h g' cap w' hbg hb'.lt ⟨cur, hb', hw', fun j y hj => ?_⟩ hbl
   have hjl := (List.getElem?_eq_some_iff.1 hj).1
   obtain ⟨a', b', c', e0, e1, e2, hE⟩ := hc j y hj
   have get : ∀ i u, i < 3 → cs[j * 3 + i]? = some u → cur[j * 3 + i]? = some u := fun i u hi hu => by
    have : (cur.toList.take (qs.length * 3))[j * 3 + i]? = some u := by
     rw [htake, List.getElem?_take, if_pos (by omega)]
     simpa using hu
    rw [List.getElem?_take] at this
    split at this
    ·simpa using this
    ·cases this
   exact ⟨a', b', c', by have := get 0 a' (by omega) (by simpa using e0); simpa using this, get 1 b' (by omega) e1, get 2 c' (by omega) e2, FQ.keeps hE hk⟩
noncomputable def redStep (cost out : List Rat) (b : Int) (row : List Rat) : List Rat := if cost.getD b.toNat 0 = 0 then out else takeQ (cost.getD b.toNat 0) out row
noncomputable def redN (cost : List Rat) (base : List Int) (rows : List (List Rat)) : Nat → List Rat
 | 0 => cost
 | i + 1 => redStep cost (redN cost base rows i) (base.getD i 0) (rows.getD i [])
noncomputable def reducedQ (cost : List Rat) (T : Tab) : List Rat := redN cost T.base T.rows T.rows.length
theorem redN_length {cost : List Rat} {base : List Int} {rows : List (List Rat)} (h : ∀ r ∈ rows, r.length = cost.length) : ∀ i, i ≤ rows.length → (redN cost base rows i).length = cost.length
 | 0, _ => rfl
 | i + 1, hi => by
  have h1 := redN_length h i (by omega) (base := base)
  have h2 : (rows.getD i []).length = cost.length := by
   rw [List.getD_eq_getElem?_getD, List.getElem?_eq_getElem (by omega)]
   exact h _ (List.getElem_mem _)
  unfold redN redStep
  split
  ·exact h1
  ·rw [takeQ_length (by rw [h1, h2]), h1]
theorem getD_at {α : Type} {l : List α} {i : Nat} {x d : α} (h : l[i]? = some x) : l.getD i d = x := by rw [List.getD_eq_getElem?_getD, h]; rfl
theorem View.key {base : Nat} {H : Nat → Option (List Rat)} {I : Nat → Option (List Int)} {w : World} {g k : Nat} {qs : List Rat} (h : View base H I w) (hg : H g = some qs) (hk : w.heap.size ≤ k) : g ≠ k := by have := h.lt hg; omega
theorem below_put3' {B : Nat} {w w1 : World} (h : Below B w w1) {g : Nat} (ha : B ≤ g) (o : Nat) (x y z : Value) : Below B w (put3 w1 g o x y z) :=
 Below.setCell (Below.setCell (Below.setCell h (p := ⟨g, o, none⟩) ha x) (p := ⟨g, o + 1, none⟩) ha y) (p := ⟨g, o + 2, none⟩) ha z
def RedPost (base : Nat) (H : Nat → Option (List Rat)) (I : Nat → Option (List Int)) (L : List Rat) (w : World) (e : Ending) (w' : World) : Prop := ∃ go co, e = .returned (.slice (some ⟨go, 0, none⟩) L.length co) ∧ w.heap.size ≤ go ∧ go < w'.heap.size ∧ View base (upd H go L) I w' ∧ Below w.heap.size w w'
theorem treduced_calls (base : Nat) (H : Nat → Option (List Rat)) (I : Nat → Option (List Int)) (w : World) (gt : Nat) (S : Shape) (gs : List (Nat × Nat)) (tn : List Bool) (T : Tab) (gc cc : Nat) (cost : List Rat) (hv : View base H I w) (hT : TabW w gt S gs tn) (hV : TabV H I S gs T) (hc : H gc = some cost) (hcl : cost.length = S.width) (hb : ∀ b ∈ T.base, 0 ≤ b ∧ b < (cost.length : Int)) (hp : 0 < cost.length) (hll : cost.length ≤ 1000000) (hml : T.rows.length ≤ 1000000) :
  Calls Try.prog 104 #[.pointer (some ⟨gt, 0, none⟩), .slice (some ⟨gc, 0, none⟩) cost.length cc] w fun e w' => RedPost base H I (reducedQ cost T) w e w' := by
 have HV := Hd hv
 have HTV := Hd hV
 have HC := Hd hc
 have HBB := Hd hb
 obtain ⟨p0, p1, p2, p3, vRows, vRight, vBase, vPlus, vMinus, real, width, vId, vTurned⟩ := S
 obtain ⟨Ab, cb, eb⟩ := hV.base.slice
 obtain rfl : vBase = _ := eb
 obtain ⟨AR, cR, eR⟩ := hT.2.1.slice
 obtain rfl : vRows = _ := eR
 have HT := Hd hT
 have HBS : Hid (Blk w gt 121 #[p0, p1, p2, p3, .slice AR gs.length cR, vRight, .slice Ab T.base.length cb, vPlus, vMinus, .int .i64 (real : Int), .int .i64 (width : Int), vId, vTurned]) := hT.1
 have hwd : cost.length = width := hcl
 have HRL : Hid (∀ r ∈ T.rows, r.length = cost.length) := fun r hr => by
  obtain ⟨i, hi⟩ := List.getElem?_of_mem hr
  have hil := (List.getElem?_eq_some_iff.1 hi).1
  have := (hV.row i _ r (List.getElem?_eq_getElem (by rw [hV.len]; exact hil)) hi).2
  rw [this, hcl]
 have hbl : T.base.length = T.rows.length := hV.baseLen
 have hgl : gs.length = T.rows.length := hV.len
 have HBL := Hd hbl
 have HGL := Hd hgl
 have HWD := Hd hwd
 clear hv hT hV hc hcl hb hwd hbl hgl
 obtain ⟨m, hm⟩ : ∃ m, m = T.rows.length := ⟨_, rfl⟩
 have HM := Hd hm
 obtain ⟨x0, x4, x5, x6, x7, x8, x9, x10, x11, x12⟩ := HBS.out.c13
 have hlt := HBS.out.lt
 go_enter Try.func104, Try.ntmps104
 go_wp2_with (at_builtin; refine wpl_copyQ rfl (.const (.slice none 0 0)) (.tmp 10) rfl rfl rfl rfl (HV.out.frac _ _ HC.out).2.2 hp (by omega) ?_; intro go co W1 hgo hgo2 hrv hbl; have HGO := Hd hgo; have HGO2 := Hd hgo2; have HRV := Hd hrv; have HB1 := Hd hbl; obtain ⟨x0, x4, x5, x6, x7, x8, x9, x10, x11, x12⟩ := (HBS.out.below hbl HBS.out.lt).c13; have hlt := (HBS.out.below hbl HBS.out.lt).lt; clear hgo hgo2 hrv hbl)
 clear x0 x4 x5 x6 x7 x8 x9 x10 x11 x12 hlt
 obtain ⟨rN, hrN⟩ : ∃ f, f = redN cost T.base T.rows := ⟨_, rfl⟩
 have HRN := Hd hrN
 have HNL : Hid (∀ i, i ≤ T.rows.length → (rN i).length = cost.length) := by unfold Hid; rw [hrN]; exact redN_length HRL.out
 have HN0 : Hid (rN 0 = cost) := by unfold Hid; rw [hrN]; rfl
 have HGK : Hid (H go = none) := by
  unfold Hid
  cases e : H go with
  | none => rfl
  | some z => exact absurd (HV.out.lt e) (by have := HGO.out; omega)
 have HSC : Hid (∀ q ∈ cost, Small q) := (HV.out.frac _ _ HC.out).2.1
 have HV1 : Hid (View base (upd H go (rN 0)) I W1) := by
  unfold Hid
  rw [HN0.out]
  exact (HV.out.below HB1.out).add HRV.out (Nat.le_trans HV.out.size HGO.out) HSC.out
 clear hrN hm
 go_loopw [17] (fun vi wr => ∃ i : Nat, i ≤ T.base.length ∧ vi = .int .i64 (i : Int) ∧ View base (upd H go (rN i)) I wr ∧ Below w.heap.size w wr) (fun vi _ => T.base.length - (intOf vi).toNat)
 case atStart => exact ⟨0, Nat.zero_le _, rfl, HV1.out, HB1.out⟩
 case round =>
  obtain ⟨i, hi, rfl, hv, hbl⟩ := hrel
  have HVr := Hd hv
  have HBr := Hd hbl
  clear hv hbl HV1 HB1 HRV HGO2
  by_cases hlt : i < T.base.length
  ·have him : i < T.rows.length := by have := HBL.out; omega
   obtain ⟨b, hb⟩ : ∃ x, T.base[i]? = some x := ⟨T.base[i], List.getElem?_eq_getElem hlt⟩
   obtain ⟨row, hrow⟩ : ∃ x, T.rows[i]? = some x := ⟨T.rows[i], List.getElem?_eq_getElem him⟩
   obtain ⟨⟨gi, ci⟩, hgi⟩ : ∃ x, gs[i]? = some x := ⟨gs[i]'(by have := HGL.out; omega), List.getElem?_eq_getElem _⟩
   have hbr := HBB.out b (List.mem_of_getElem? hb)
   obtain ⟨n, rfl⟩ : ∃ n : Nat, b = n := ⟨b.toNat, by omega⟩
   obtain ⟨q, hq⟩ : ∃ x, cost[n]? = some x := ⟨cost[n]'(by omega), List.getElem?_eq_getElem _⟩
   obtain ⟨gb, rfl, hgb⟩ := HTV.out.base.at_ (by show 0 < T.base.length; omega)
   obtain ⟨gR, rfl, hgR, hcR⟩ := (HT.out.below HBr.out).2.1.at_ hgi
   have HROW := Hd (HTV.out.row i _ row hgi hrow).1
   have HRWL : Hid (row.length = cost.length) := HRL.out row (List.mem_of_getElem? hrow)
   have hgne : gc ≠ go := HV.out.key HC.out HGO.out
   have HKC : Hid (upd H go (rN i) gc = some cost) := by unfold Hid; rw [upd_ne hgne]; exact HC.out
   have HKR : Hid (upd H go (rN i) gi = some row) := by unfold Hid; rw [upd_ne (HV.out.key HROW.out HGO.out)]; exact HROW.out
   have HKO : Hid (upd H go (rN i) go = some (rN i)) := upd_self _ _ _
   have HNS : Hid (rN (i + 1) = if q = 0 then rN i else takeQ q (rN i) row) := by
    unfold Hid
    rw [HRN.out]
    show redStep cost (redN cost T.base T.rows i) (T.base.getD i 0) (T.rows.getD i []) = _
    rw [getD_at hb, getD_at hrow]
    unfold redStep
    rw [Int.toNat_natCast, getD_at hq]
   have HSQ : Hid (Small q) := HSC.out q (List.mem_of_getElem? hq)
   have HQ := Hd hq
   have HHB := Hd hgb
   obtain ⟨k0, _, _⟩ := HVr.out.iat hgb hb
   have hgbl := (HVr.out.iat hgb hb).2.1
   obtain ⟨A1, n1, c1, A2, n2, c2, q0, q1, q2, HFQ⟩ := HVr.out.at_ HKC.out hq
   have hgcl := HVr.out.lt HKC.out
   obtain ⟨x0, x4, x5, x6, x7, x8, x9, x10, x11, x12⟩ := (HBS.out.below HBr.out HBS.out.lt).c13
   have hltt := (HBS.out.below HBr.out HBS.out.lt).lt
   have m1 : (i : Int) < (T.base.length : Int) := by omega
   have m2 : (n : Int) < (cost.length : Int) := hbr.2
   have m3 : (i : Int).toNat = i := by omega
   have m4 : (0 : Int) ≤ (i : Int) := by omega
   have m5 : (n : Int).toNat = n := by omega
   have m6 : (0 : Int) ≤ (n : Int) := by omega
   have m7 : (i : Int) < (gs.length : Int) := by have := HGL.out; omega
   clear hb hrow hgi hq hgb hbr hgne
   go_wp2_with fail
   refine (sgn_calls _ _ (rawQ q) (FR.of_fq HFQ.out HSQ.out)).mono ?_
   rintro e w2 ⟨rfl, hb⟩
   rw [fixQ_raw _ HSQ.out]
   have HV2 := Hd (HVr.out.below hb)
   have HB2 := Hd (below_next HBr.out hb)
   have k9 : w2.cell? ⟨gR, i, none⟩ = some (.slice (some ⟨gi, 0, none⟩) width ci) := by rw [(bcell hb).1 gR _ hgR]; exact hcR
   have hgR2 : gR < w2.heap.size := Nat.lt_of_lt_of_le hgR hb.size
   clear hb x0 x4 x5 x6 x7 x8 x9 x10 x11 x12 hltt q0 q1 q2 k0 hcR hgR
   obtain ⟨x0, x4, x5, x6, x7, x8, x9, x10, x11, x12⟩ := (HBS.out.below HB2.out HBS.out.lt).c13
   have hltt := (HBS.out.below HB2.out HBS.out.lt).lt
   by_cases qz : q = 0
   ·have u : (signQ q == 0) = true := beqI' (signQ_zero_iff.2 qz)
    have HNX : Hid (rN (i + 1) = rN i) := by unfold Hid; rw [HNS.out, if_pos qz]
    clear qz
    go_wp2_with fail
    go_roundw
    case rel => exact ⟨i + 1, by omega, by go_num, by rw [HNX.out]; exact HV2.out, HB2.out⟩
    case measure => simp [intOf]; omega
   have u : (signQ q == 0) = false := bneI' fun e => qz (signQ_zero_iff.1 e)
   have HNX : Hid (rN (i + 1) = takeQ q (rN i) row) := by unfold Hid; rw [HNS.out, if_neg qz]
   clear qz
   go_wp2_with fail
   obtain ⟨L, hL⟩ : ∃ L, L = rN i := ⟨_, rfl⟩
   have HLL : Hid (L.length = cost.length) := by unfold Hid; rw [hL]; exact HNL.out i (by have := HBL.out; omega)
   rw [← hL] at HV2 HNX HKO
   have HLN : Hid (row.length = L.length) := by unfold Hid; rw [HRWL.out, HLL.out]
   have HTL : Hid ((takeQ q L row).length = L.length) := takeQ_length HLN.out
   have HWL : Hid (width = L.length) := by unfold Hid; rw [HLL.out, HWD.out]
   clear hL x0 x4 x5 x6 x7 x8 x9 x10 x11 x12 hltt k9 hgR2
   obtain ⟨wo, rfl⟩ : ∃ wo, wo = wr := ⟨_, rfl⟩
   go_loopw [36] (fun vi wr => ∃ j : Nat, j ≤ width ∧ vi = .int .i64 (j : Int) ∧ View base (upd H go (mix (takeQ q L row) L j)) I wr ∧ Below w.heap.size w wr) (fun vi _ => width - (intOf vi).toNat)
   case atStart => exact ⟨0, Nat.zero_le _, rfl, by rw [mix_zero]; exact HV2.out, HB2.out⟩
   case round =>
    obtain ⟨j, hj, rfl, hv, hbl⟩ := hrel
    have HVj := Hd hv
    have HBj := Hd hbl
    clear hv hbl HV2 HB2
    by_cases hjt : j < width
    ·have hjl : j < L.length := by have := HWL.out; omega
     obtain ⟨l, hl⟩ : ∃ x, L[j]? = some x := ⟨L[j], List.getElem?_eq_getElem hjl⟩
     obtain ⟨r, hr⟩ : ∃ x, row[j]? = some x := ⟨row[j]'(by rw [HLN.out]; exact hjl), List.getElem?_eq_getElem _⟩
     have HUR : Hid (upd H go (mix (takeQ q L row) L j) gi = some row) := by unfold Hid; rw [upd_ne (HV.out.key HROW.out HGO.out)]; exact HROW.out
     have HUC : Hid (upd H go (mix (takeQ q L row) L j) gc = some cost) := by unfold Hid; rw [upd_ne (HV.out.key HC.out HGO.out)]; exact HC.out
     have HUL : Hid (upd H go (mix (takeQ q L row) L j) go = some (mix (takeQ q L row) L j)) := upd_self _ _ _
     have HML := Hd (mix_at HTL.out hl)
     have HTI := Hd (takeQ_at (by_ := q) hl hr)
     have HSR : Hid (Small r) := HVj.out.small HUR.out hr
     have HSL : Hid (Small l) := HVj.out.small HUL.out HML.out
     have HLI := Hd hl
     have HMN : Hid (j < (mix (takeQ q L row) L j).length) := by unfold Hid; rw [mix_length HTL.out]; exact hjl
     obtain ⟨A3, n3, c3, A4, n4, c4, k0, k1, k2, HFR⟩ := HVj.out.at_ HUR.out hr
     have hgr := HVj.out.lt HUR.out
     have mj1 : (j : Int) < (width : Int) := by omega
     have mj2 : (j : Int) < (cost.length : Int) := by have := HWD.out; omega
     have mj3 : (j : Int).toNat = j := by omega
     have mj4 : (0 : Int) ≤ (j : Int) := by omega
     clear hl hr
     go_wp2_with fail
     have hbn := below_new wr (.cells #[.bool (negQ r), .slice A3 n3 c3, .slice A4 n4 c4] 40)
     have HV1 := Hd (HVj.out.below hbn)
     have HB1 := Hd (below_next HBj.out hbn)
     have HR1 := Hd (HFR.out.of_below hbn)
     have HY1 := Hd (Blk.new wr 40 #[.bool (negQ r), .slice A3 n3 c3, .slice A4 n4 c4])
     obtain ⟨g7, hg7⟩ : ∃ g, g = wr.heap.size := ⟨_, rfl⟩
     rw [← hg7] at HY1 ⊢
     generalize wr.alloc (.cells #[.bool (negQ r), .slice A3 n3 c3, .slice A4 n4 c4] 40) = W1 at *
     clear hg7 hbn k0 k1 k2 hgr
     refine (sgn_calls _ _ (rawQ r) (FR.of_fq HR1.out HSR.out)).mono ?_
     rintro e w4 ⟨rfl, hb⟩
     rw [fixQ_raw _ HSR.out]
     have HV4 := Hd (HV1.out.below hb)
     have HB4 := Hd (below_next HB1.out hb)
     have HR4 := Hd (HR1.out.of_below hb)
     have HY4 := Hd (HY1.out.below hb HY1.out.lt)
     clear hb
     by_cases rz : r = 0
     ·have u2 : (signQ r != 0) = false := beqI (signQ_zero_iff.2 rz)
      have HMX : Hid (mix (takeQ q L row) L (j + 1) = mix (takeQ q L row) L j) := mix_skip HTL.out (by rw [HTI.out]; unfold takeE; rw [if_pos rz]) HLI.out
      clear rz
      go_wp2_with fail
      go_roundw
      case rel => exact ⟨j + 1, by omega, by go_num, by rw [HMX.out]; exact HV4.out, HB4.out⟩
      case measure => simp [intOf]; omega
     ·have u2 : (signQ r != 0) = true := bneI fun e => rz (signQ_zero_iff.1 e)
      have HMX : Hid ((mix (takeQ q L row) L j).set j (subQ l (mulQ q r)) = mix (takeQ q L row) L (j + 1)) := mix_set HTL.out (by rw [HTI.out]; unfold takeE; rw [if_neg rz])
      clear rz
      obtain ⟨A5, n5, c5, A6, n6, c6, k0, k1, k2, HFL⟩ := HV4.out.at_ HUL.out HML.out
      have hgl := HV4.out.lt HUL.out
      obtain ⟨A7, n7, c7, A8, n8, c8, l0, l1, l2, HFC⟩ := HV4.out.at_ HUC.out HQ.out
      have hgc := HV4.out.lt HUC.out
      obtain ⟨y0, y1, y2⟩ := HY4.out.c3
      have hly := HY4.out.lt
      go_wp2_with fail
      refine wp_chainF (l := [_, _, _, _, _, _, _, _, _, _, _, _, _, _, _]) (S := Below w4.heap.size w4) 13 [([0, 1, 2, 3, 4, 5, 6, 7, 8, 9, 10], 11), ([], 12)] [] (by kernel_rfl) (by kernel_rfl) (by kernel_rfl) rfl (Below.drew (Below.refl _ _)) ?_
      refine ⟨?_, _, ?_, rfl, ?_⟩
      rotate_left
      ·repeat (refine pu ?_; (try simp only [SQ]))
       exact rfl
      have D0 : Hid (Below w4.heap.size w4 w4.drew) := Below.drew (Below.refl _ _)
      go_wp2_with fail
      refine (fmul_calls _ _ _ (rawQ q) (rawQ r) (FR.of_fq (HFC.out.of_below D0.out) HSQ.out) (FR.of_fq (HR4.out.of_below D0.out) HSR.out)).mono ?_
      rintro e w5 ⟨v, rfl, hv, hb⟩
      rw [fixQ_raw _ HSQ.out, fixQ_raw _ HSR.out] at hv
      have D5 := Hd (below_next D0.out hb)
      have HM5 := Hd hv
      clear hv hb
      go_wp2_with fail
      refine And.intro D5.out ⟨_, _, rfl, rfl, ?_⟩
      go_wp2_with fail
      refine (fsub_calls _ _ _ (rawQ l) (rawQ (capQ (q * r))) (FR.of_fq (HFL.out.of_below D5.out) HSL.out) (FR.of_fq HM5.out (small_cap _))).mono ?_
      rintro e w6 ⟨v, rfl, hv, hb⟩
      rw [fixQ_raw _ HSL.out, fixQ_raw _ (small_cap _)] at hv
      obtain ⟨D7, n9, c9, D8, n10, c10, rfl, HF6⟩ := hv.opened
      have D6 := Hd (below_next D5.out hb)
      have HV6 := Hd (HV4.out.below D6.out)
      have HB6 := Hd (below_next HB4.out D6.out)
      clear hv hb
      go_wp2_with fail
      refine And.intro D6.out ⟨_, rfl, ?_⟩
      have f0 := HV6.out.free HUL.out (j * 3)
      have f1 := HV6.out.free HUL.out (j * 3 + 1)
      have f2 := HV6.out.free HUL.out (j * 3 + 2)
      have j0 : w6.cell? ⟨go, j * 3, none⟩ = _ := ((bcell D6.out).1 go _ hgl).trans k0
      have j1 : w6.cell? ⟨go, j * 3 + 1, none⟩ = _ := ((bcell D6.out).1 go _ hgl).trans k1
      have j2 : w6.cell? ⟨go, j * 3 + 2, none⟩ = _ := ((bcell D6.out).1 go _ hgl).trans k2
      clear k0 k1 k2 l0 l1 l2 y0 y1 y2 hly hgc
      go_wp2_with fail
      refine NoPanic.normal ?_
      have hst := HV6.out.set HUL.out HMN.out (small_cap _) HF6.out (HV6.out.sep HUL.out)
      have hb7 := below_put3' HB6.out HGO.out (j * 3) (.bool (negQ (capQ (l + -(capQ (q * r)))))) (.slice D7 n9 c9) (.slice D8 n10 c10)
      go_wp2_with fail
      go_roundw
      case rel => exact ⟨j + 1, by omega, by go_num, by rw [← HMX.out, ← upd_upd]; exact hst.1, hb7⟩
      case measure => simp [intOf]; omega
    ·obtain rfl : j = width := by omega
     have hmx : mix (takeQ q L row) L j = takeQ q L row := by rw [HWL.out]; exact mix_all HTL.out
     rw [hmx, ← HNX.out] at HVj
     clear hmx
     go_wp2_with fail
     go_roundw
     case rel => exact ⟨i + 1, by omega, by go_num, HVj.out, HBj.out⟩
     case measure => simp [intOf]; omega
  ·obtain rfl : i = T.base.length := by omega
   go_wp2_with fail
   go_ret
   exact ⟨go, co, by rw [show (reducedQ cost T).length = cost.length from redN_length HRL.out _ (Nat.le_refl _)]; rfl, HGO.out, HVr.out.lt (upd_self _ _ _), by unfold reducedQ; rw [← HRN.out, ← HBL.out]; exact HVr.out, HBr.out⟩
def RowP (w : World) (g n : Nat) (qs : List Rat) : Prop := ∃ cs : Array Value, Blk w g 40 cs ∧ (∀ u ∈ cs, notWord u = true) ∧ cs.size = n * 3 ∧ ∀ (j : Nat) (x : Rat), qs[j]? = some x → ∃ a b c, cs[j * 3]? = some a ∧ cs[j * 3 + 1]? = some b ∧ cs[j * 3 + 2]? = some c ∧ FQ w (.agg #[a, b, c]) x
theorem RowP.v {w : World} {g n : Nat} {qs : List Rat} (h : RowP w g n qs) : RowV w g qs := by
 obtain ⟨cs, hb, hn, _, hx⟩ := h
 exact ⟨cs, hb, hn, hx⟩
theorem RowP.lt {w : World} {g n : Nat} {qs : List Rat} (h : RowP w g n qs) : g < w.heap.size := by
 obtain ⟨cs, hb, _⟩ := h
 exact hb.lt
theorem RowP.below {w w1 : World} {g n : Nat} {qs : List Rat} (h : RowP w g n qs) (hb : Below w.heap.size w w1) : RowP w1 g n qs := by
 obtain ⟨cs, h1, hn, hs, hx⟩ := h
 refine ⟨cs, h1.below hb h1.lt, hn, hs, fun j x hj => ?_⟩
 obtain ⟨a, b, c, e0, e1, e2, hE⟩ := hx j x hj
 exact ⟨a, b, c, e0, e1, e2, hE.of_below hb⟩
theorem RowP.made (w : World) (n : Nat) : RowP (w.alloc (.cells (madeCells #[.bool false, .slice none 0 0, .slice none 0 0] (n * 3)) 40)) w.heap.size n [] := by
 obtain ⟨cs, hb, hs, hn, _⟩ := Row3.made (E := EFQ) w 40 n #[.bool false, .slice none 0 0, .slice none 0 0] rfl (by simp [notInt])
 exact ⟨cs, hb, fun u hu => notWord_of_notInt (hn u hu), hs, fun j x hj => by simp at hj⟩
theorem RowP.cells {w : World} {g n : Nat} {qs : List Rat} (h : RowP w g n qs) {i : Nat} (hi : i < n) : ∃ a b c, w.cell? ⟨g, i * 3, none⟩ = some a ∧ w.cell? ⟨g, i * 3 + 1, none⟩ = some b ∧ w.cell? ⟨g, i * 3 + 2, none⟩ = some c := by
 obtain ⟨cs, hb, _, hs, _⟩ := h
 exact ⟨_, _, _, hb.cell (Array.getElem?_eq_getElem (by omega)), hb.cell (Array.getElem?_eq_getElem (by omega)), hb.cell (Array.getElem?_eq_getElem (by omega))⟩
theorem RowP.free {w : World} {g n : Nat} {qs : List Rat} (h : RowP w g n qs) (j : Nat) : w.frozen? ⟨g, j, none⟩ = false := by
 obtain ⟨cs, hb, _⟩ := h
 exact hb.frozen j
theorem RowP.at_ {w : World} {g n i : Nat} {qs : List Rat} {q : Rat} (h : RowP w g n qs) (hi : qs[i]? = some q) :
  ∃ A1 n1 c1 A2 n2 c2, w.cell? ⟨g, i * 3, none⟩ = some (.bool (negQ q)) ∧ w.cell? ⟨g, i * 3 + 1, none⟩ = some (.slice A1 n1 c1) ∧ w.cell? ⟨g, i * 3 + 2, none⟩ = some (.slice A2 n2 c2) ∧ Hid (FQ w (.agg #[.bool (negQ q), .slice A1 n1 c1, .slice A2 n2 c2]) q) := by
 obtain ⟨cs, hb, hn, hs, hx⟩ := h
 obtain ⟨a, b, c, e0, e1, e2, hE⟩ := hx i q hi
 obtain ⟨A1, n1, c1, A2, n2, c2, e, HQ⟩ := hE.opened
 injection e with e
 injection e with e
 injection e with ea e
 injection e with eb e
 injection e with ec _
 subst ea eb ec
 exact ⟨A1, n1, c1, A2, n2, c2, hb.cell e0, hb.cell e1, hb.cell e2, HQ⟩
theorem RowP.put {w : World} {g n i : Nat} {qs qs' : List Rat} {q : Rat} {a b c : Value} (h : RowP w g n qs) (hi : i < n) (hq : FQ w (.agg #[a, b, c]) q) (hn : ∀ u ∈ #[a, b, c], notWord u = true) (hqs : ∀ (j : Nat) (x : Rat), qs'[j]? = some x → (j = i ∧ x = q) ∨ (j ≠ i ∧ qs[j]? = some x)) : RowP (put3 w g (i * 3) a b c) g n qs' ∧ Only g w (put3 w g (i * 3) a b c) := by
 obtain ⟨cs, hb, hcn, hs, he⟩ := h
 have ho : Only g w (put3 w g (i * 3) a b c) := put3_only hb hcn
 have hset : ∀ {xs : Array Value} {i : Nat} {v : Value}, (∀ x ∈ xs, notWord x = true) → notWord v = true → ∀ x ∈ xs.setIfInBounds i v, notWord x = true := fun {xs i v} h1 h2 x hx => by
  rcases Array.mem_or_eq_of_mem_setIfInBounds hx with h | h
  ·exact h1 x h
  ·rw [h]; exact h2
 refine ⟨⟨_, ((hb.put (i * 3) a).put (i * 3 + 1) b).put (i * 3 + 2) c, hset (hset (hset hcn (hn _ (by simp))) (hn _ (by simp))) (hn _ (by simp)), by simp [hs], fun j y hy => ?_⟩, ho⟩
 rcases hqs j y hy with ⟨rfl, rfl⟩ | ⟨hj, hy'⟩
 ·refine ⟨a, b, c, ?_, ?_, ?_, FQ.keeps hq ho.1⟩
  ·rw [Array.getElem?_setIfInBounds_ne (by omega), Array.getElem?_setIfInBounds_ne (by omega), Array.getElem?_setIfInBounds_self]; rw [if_pos (by omega)]
  ·rw [Array.getElem?_setIfInBounds_ne (by omega), Array.getElem?_setIfInBounds_self]; rw [if_pos (by simp; omega)]
  ·rw [Array.getElem?_setIfInBounds_self]; rw [if_pos (by simp; omega)]
 ·obtain ⟨a', b', c', h0, h1, h2, h3⟩ := he j y hy'
  refine ⟨a', b', c', ?_, ?_, ?_, FQ.keeps h3 ho.1⟩
  ·rw [Array.getElem?_setIfInBounds_ne (by omega), Array.getElem?_setIfInBounds_ne (by omega), Array.getElem?_setIfInBounds_ne (by omega)]; exact h0
  ·rw [Array.getElem?_setIfInBounds_ne (by omega), Array.getElem?_setIfInBounds_ne (by omega), Array.getElem?_setIfInBounds_ne (by omega)]; exact h1
  ·rw [Array.getElem?_setIfInBounds_ne (by omega), Array.getElem?_setIfInBounds_ne (by omega), Array.getElem?_setIfInBounds_ne (by omega)]; exact h2
theorem put_last {qs : List Rat} {q : Rat} : ∀ (j : Nat) (x : Rat), (qs ++ [q])[j]? = some x → (j = qs.length ∧ x = q) ∨ (j ≠ qs.length ∧ qs[j]? = some x) := fun j x hj => by
 rw [List.getElem?_append] at hj
 split at hj
 ·exact .inr ⟨by omega, hj⟩
 ·have h0 : j - qs.length = 0 := by
   have := (List.getElem?_eq_some_iff.1 hj).1
   simp at this
   omega
  rw [h0] at hj
  exact .inl ⟨by omega, by simpa using hj.symm⟩
theorem put_again {qs : List Rat} {p q : Rat} : ∀ (j : Nat) (x : Rat), (qs ++ [q])[j]? = some x → (j = qs.length ∧ x = q) ∨ (j ≠ qs.length ∧ (qs ++ [p])[j]? = some x) := fun j x hj => by
 rcases put_last j x hj with h | ⟨h, h2⟩
 ·exact .inl h
 ·exact .inr ⟨h, by rw [List.getElem?_append_left (List.getElem?_eq_some_iff.1 h2).1]; exact h2⟩
theorem put_last' {qs : List Rat} {q : Rat} {i : Nat} (h : qs.length = i) : ∀ (j : Nat) (x : Rat), (qs ++ [q])[j]? = some x → (j = i ∧ x = q) ∨ (j ≠ i ∧ qs[j]? = some x) := by subst h; exact put_last
theorem put_again' {qs : List Rat} {p q : Rat} {i : Nat} (h : qs.length = i) : ∀ (j : Nat) (x : Rat), (qs ++ [q])[j]? = some x → (j = i ∧ x = q) ∨ (j ≠ i ∧ (qs ++ [p])[j]? = some x) := by subst h; exact put_again
noncomputable def pointE (cols : List Rat) (p m : Int) : Rat := if 0 ≤ m then subQ (cols.getD p.toNat 0) (cols.getD m.toNat 0) else cols.getD p.toNat 0
noncomputable def pointQ (T : Tab) (cols : List Rat) : List Rat := T.plus.zipWith (pointE cols) T.minus
theorem small_point {T : Tab} {cols : List Rat} (h : ∀ q ∈ cols, Small q) : ∀ q ∈ pointQ T cols, Small q := by
 intro q hq
 obtain ⟨j, hj⟩ := List.getElem?_of_mem hq
 unfold pointQ at hj
 rw [List.getElem?_zipWith] at hj
 cases hp : T.plus[j]? with
 | none => rw [hp] at hj; simp at hj
 | some p =>
  cases hm : T.minus[j]? with
  | none => rw [hp, hm] at hj; simp at hj
  | some m =>
   rw [hp, hm] at hj
   have e : pointE cols p m = q := by simpa using hj
   rw [← e]
   unfold pointE
   split
   ·exact small_cap _
   ·exact getD_small h _
def RedCap (base : Nat) (H : Nat → Option (List Rat)) (I : Nat → Option (List Int)) (L : List Rat) (w : World) (e : Ending) (w' : World) : Prop := ∃ go co, e = .returned (.slice (some ⟨go, 0, none⟩) L.length co) ∧ w.heap.size ≤ go ∧ go < w'.heap.size ∧ View base (upd H go L) I w' ∧ Below w.heap.size w w' ∧ L.length ≤ co
theorem point_calls (base : Nat) (H : Nat → Option (List Rat)) (I : Nat → Option (List Int)) (w : World) (gt : Nat) (S : Shape) (gs : List (Nat × Nat)) (tn : List Bool) (T : Tab) (gc cc : Nat) (cols : List Rat) (hv : View base H I w) (hT : TabW w gt S gs tn) (hV : TabV H I S gs T) (h0 : S.p0 = .int .i64 (T.plus.length : Int)) (hc : H gc = some cols) (hpm : T.minus.length = T.plus.length) (hpl : ∀ p ∈ T.plus, 0 ≤ p ∧ p < (cols.length : Int)) (hmi : ∀ m ∈ T.minus, m < (cols.length : Int)) (hpp : 0 < T.plus.length) (hll : T.plus.length ≤ 1000000) :
  Calls Try.prog 108 #[.pointer (some ⟨gt, 0, none⟩), .slice (some ⟨gc, 0, none⟩) cols.length cc] w fun e w' => RedCap base H I (pointQ T cols) w e w' := by
 have HV := Hd hv
 have HTV := Hd hV
 have HC := Hd hc
 have HPL := Hd hpl
 have HMI := Hd hmi
 have HPM := Hd hpm
 obtain ⟨p0, p1, p2, p3, vRows, vRight, vBase, vPlus, vMinus, real, width, vId, vTurned⟩ := S
 obtain rfl : p0 = _ := h0
 obtain ⟨Ap, cp, ep⟩ := hV.plus.slice
 obtain rfl : vPlus = _ := ep
 obtain ⟨Am, cm, em⟩ := hV.minus.slice
 obtain rfl : vMinus = _ := em
 have HT := Hd hT
 have HBS : Hid (Blk w gt 121 #[.int .i64 (T.plus.length : Int), p1, p2, p3, vRows, vRight, vBase, .slice Ap T.plus.length cp, .slice Am T.minus.length cm, .int .i64 (real : Int), .int .i64 (width : Int), vId, vTurned]) := hT.1
 have HSC : Hid (∀ q ∈ cols, Small q) := (HV.out.frac _ _ HC.out).2.1
 clear hv hT hV hc hpl hmi hpm
 obtain ⟨xs, hxs⟩ : ∃ l, l = pointQ T cols := ⟨_, rfl⟩
 have HXS := Hd hxs
 have HXL : Hid (xs.length = T.plus.length) := by unfold Hid; rw [hxs]; unfold pointQ; rw [List.length_zipWith, HPM.out, Nat.min_self]
 rw [← hxs]
 clear hxs
 obtain ⟨x0, x4, x5, x6, x7, x8, x9, x10, x11, x12⟩ := HBS.out.c13
 have hlt := HBS.out.lt
 have hmk := run_make3 23 40 _ Try.underlying23 info40m T.plus.length (by omega)
 go_enter Try.func108, Try.ntmps108
 go_wp2_with fail
 have HP0 := Hd (RowP.made w T.plus.length)
 have HB0 := Hd (below_new w (.cells (madeCells #[.bool false, .slice none 0 0, .slice none 0 0] (T.plus.length * 3)) 40))
 clear hmk x0 x4 x5 x6 x7 x8 x9 x10 x11 x12 hlt
 generalize w.alloc (.cells (madeCells #[.bool false, .slice none 0 0, .slice none 0 0] (T.plus.length * 3)) 40) = W0 at *
 obtain ⟨go, hgo⟩ : ∃ g, g = w.heap.size := ⟨_, rfl⟩
 rw [← hgo] at HP0 ⊢
 have HGO : Hid (w.heap.size ≤ go) := by unfold Hid; omega
 clear hgo
 go_loopw [15] (fun vi wr => ∃ i : Nat, i ≤ T.plus.length ∧ vi = .int .i64 (i : Int) ∧ RowP wr go T.plus.length (xs.take i) ∧ Below w.heap.size w wr) (fun vi _ => T.plus.length - (intOf vi).toNat)
 case atStart => exact ⟨0, Nat.zero_le _, rfl, by rw [List.take_zero]; exact HP0.out, HB0.out⟩
 case round =>
  obtain ⟨i, hi, rfl, hrp, hbl⟩ := hrel
  have HRP := Hd hrp
  have HBr := Hd hbl
  clear hrp hbl HP0 HB0
  by_cases hlt : i < T.plus.length
  ·obtain ⟨p, hp⟩ : ∃ x, T.plus[i]? = some x := ⟨T.plus[i], List.getElem?_eq_getElem hlt⟩
   obtain ⟨mm, hm⟩ : ∃ x, T.minus[i]? = some x := ⟨T.minus[i]'(by rw [HPM.out]; exact hlt), List.getElem?_eq_getElem _⟩
   have hpr := HPL.out p (List.mem_of_getElem? hp)
   have hmr := HMI.out mm (List.mem_of_getElem? hm)
   obtain ⟨n, rfl⟩ : ∃ n : Nat, p = n := ⟨p.toNat, by omega⟩
   obtain ⟨q, hq⟩ : ∃ x, cols[n]? = some x := ⟨cols[n]'(by omega), List.getElem?_eq_getElem _⟩
   obtain ⟨gp, rfl, hgp⟩ := HTV.out.plus.at_ (by show 0 < T.plus.length; omega)
   obtain ⟨gm, rfl, hgm⟩ := HTV.out.minus.at_ (by show 0 < T.minus.length; have := HPM.out; omega)
   have HVr := Hd (HV.out.below HBr.out)
   have HXT : Hid ((xs.take i).length = i) := by unfold Hid; rw [List.length_take, HXL.out]; omega
   have HXN : Hid (xs.take (i + 1) = xs.take i ++ [pointE cols n mm]) := by
    unfold Hid
    rw [List.take_add_one, HXS.out]
    unfold pointQ
    rw [List.getElem?_zipWith, hp, hm]
    rfl
   have HQ := Hd hq
   have HSQ : Hid (Small q) := HSC.out q (List.mem_of_getElem? hq)
   have HGM := Hd hgm
   have HMM := Hd hm
   obtain ⟨k0, hgpl, _⟩ := HVr.out.iat hgp hp
   obtain ⟨A1, n1, c1, A2, n2, c2, q0, q1, q2, HFQ⟩ := HVr.out.at_ HC.out hq
   have hgcl := HVr.out.lt HC.out
   obtain ⟨x0, x4, x5, x6, x7, x8, x9, x10, x11, x12⟩ := (HBS.out.below HBr.out HBS.out.lt).c13
   have hltt := (HBS.out.below HBr.out HBS.out.lt).lt
   obtain ⟨o0, o1, o2, z0, z1, z2⟩ := HRP.out.cells hlt
   have f0 := HRP.out.free (i * 3)
   have f1 := HRP.out.free (i * 3 + 1)
   have f2 := HRP.out.free (i * 3 + 2)
   have m1 : (i : Int) < (T.plus.length : Int) := by omega
   have m1' : (i : Int) < (T.minus.length : Int) := by have := HPM.out; omega
   have m2 : (n : Int) < (cols.length : Int) := hpr.2
   have m3 : (i : Int).toNat = i := by omega
   have m4 : (0 : Int) ≤ (i : Int) := by omega
   have m5 : (n : Int).toNat = n := by omega
   have m6 : (0 : Int) ≤ (n : Int) := by omega
   clear hp hm hq hgp hgm hpr
   go_upto_region 6 with (fail)
   have hst := HRP.out.put (q := q) (qs' := xs.take i ++ [q]) hlt HFQ.out (by simp [notWord]) (put_last' HXT.out)
   have hb1 := below_put3' HBr.out HGO.out (i * 3) (.bool (negQ q)) (.slice A1 n1 c1) (.slice A2 n2 c2)
   have HR1 := Hd hst.1
   have HB1 := Hd hb1
   clear hst hb1 k0 hgpl q0 q1 q2 hgcl x0 x4 x5 x6 x7 x8 x9 x10 x11 x12 hltt z0 z1 z2 f0 f1 f2
   obtain ⟨W1, hW1⟩ : ∃ W, W = ((wr.setCell ⟨go, i * 3, none⟩ (.bool (negQ q))).setCell ⟨go, i * 3 + 1, none⟩ (.slice A1 n1 c1)).setCell ⟨go, i * 3 + 2, none⟩ (.slice A2 n2 c2) := ⟨_, rfl⟩
   rw [← hW1]
   rw [show put3 wr go (i * 3) (.bool (negQ q)) (.slice A1 n1 c1) (.slice A2 n2 c2) = W1 from hW1.symm] at HR1 HB1
   clear hW1
   have HV1 := Hd (HV.out.below HB1.out)
   obtain ⟨k1, hgml, _⟩ := HV1.out.iat HGM.out HMM.out
   obtain ⟨x0, x4, x5, x6, x7, x8, x9, x10, x11, x12⟩ := (HBS.out.below HB1.out HBS.out.lt).c13
   have hltt := (HBS.out.below HB1.out HBS.out.lt).lt
   by_cases hz : 0 ≤ mm
   case neg =>
    have u : decide (0 ≤ mm) = false := decide_eq_false hz
    have u' : mm < 0 := by omega
    have HNX : Hid (xs.take (i + 1) = xs.take i ++ [q]) := by unfold Hid; rw [HXN.out]; unfold pointE; rw [if_neg hz, Int.toNat_natCast, getD_at HQ.out]
    clear hz
    go_wp2_with fail
    go_roundw
    case rel => exact ⟨i + 1, by omega, by go_num, by rw [HNX.out]; exact HR1.out, HB1.out⟩
    case measure => simp [intOf]; omega
   obtain ⟨n', rfl⟩ : ∃ n : Nat, mm = n := ⟨mm.toNat, by omega⟩
   obtain ⟨q', hq'⟩ : ∃ x, cols[n']? = some x := ⟨cols[n']'(by omega), List.getElem?_eq_getElem _⟩
   have HNX : Hid (xs.take (i + 1) = xs.take i ++ [subQ q q']) := by unfold Hid; rw [HXN.out]; unfold pointE; rw [if_pos hz, Int.toNat_natCast, Int.toNat_natCast, getD_at HQ.out, getD_at hq']
   have HSQ' : Hid (Small q') := HSC.out q' (List.mem_of_getElem? hq')
   obtain ⟨A3, n3, c3, A4, n4, c4, q0, q1, q2, HFQ'⟩ := HV1.out.at_ HC.out hq'
   have hgcl := HV1.out.lt HC.out
   obtain ⟨A5, n5, c5, A6, n6, c6, z0, z1, z2, HFO⟩ := HR1.out.at_ (i := i) (q := q) (by rw [List.getElem?_append_right (by rw [HXT.out]; exact Nat.le_refl _), HXT.out, Nat.sub_self]; rfl)
   have hgol := HR1.out.lt
   have m7 : (n' : Int) < (cols.length : Int) := hmr
   have m8 : (n' : Int).toNat = n' := by omega
   have m9 : (0 : Int) ≤ (n' : Int) := by omega
   have u : decide ((0 : Int) ≤ (n' : Int)) = true := decide_eq_true hz
   clear hz hq' hmr
   go_wp2_with fail
   refine wp_chainF (l := [_, _, _, _, _, _, _, _, _, _, _, _, _, _, _, _, _, _, _]) (S := Below W1.heap.size W1) 17 [([0, 1, 2, 3, 4, 5, 6, 7, 8, 9, 10, 11, 12, 13, 14, 15], 16)] [] (by kernel_rfl) (by kernel_rfl) (by kernel_rfl) rfl (Below.drew (Below.refl _ _)) ?_
   refine ⟨?_, _, ?_, rfl, ?_⟩
   rotate_left
   ·repeat (refine pu ?_; (try simp only [SQ]))
    exact rfl
   have D0 : Hid (Below W1.heap.size W1 W1.drew) := Below.drew (Below.refl _ _)
   go_wp2_with fail
   refine (fsub_calls _ _ _ (rawQ q) (rawQ q') (FR.of_fq (HFO.out.of_below D0.out) HSQ.out) (FR.of_fq (HFQ'.out.of_below D0.out) HSQ'.out)).mono ?_
   rintro e w6 ⟨v, rfl, hv, hb⟩
   rw [fixQ_raw _ HSQ.out, fixQ_raw _ HSQ'.out] at hv
   obtain ⟨D7, n9, c9, D8, n10, c10, rfl, HF6⟩ := hv.opened
   have D6 := Hd (below_next D0.out hb)
   have HR6 := Hd (HR1.out.below D6.out)
   have HB6 := Hd (below_next HB1.out D6.out)
   clear hv hb
   go_wp2_with fail
   refine And.intro D6.out ⟨_, rfl, ?_⟩
   have f0 := HR6.out.free (i * 3)
   have f1 := HR6.out.free (i * 3 + 1)
   have f2 := HR6.out.free (i * 3 + 2)
   have j0 : w6.cell? ⟨go, i * 3, none⟩ = _ := ((bcell D6.out).1 go _ hgol).trans z0
   have j1 : w6.cell? ⟨go, i * 3 + 1, none⟩ = _ := ((bcell D6.out).1 go _ hgol).trans z1
   have j2 : w6.cell? ⟨go, i * 3 + 2, none⟩ = _ := ((bcell D6.out).1 go _ hgol).trans z2
   clear z0 z1 z2 q0 q1 q2 x0 x4 x5 x6 x7 x8 x9 x10 x11 x12 hltt k1 hgml hgcl
   go_wp2_with fail
   refine NoPanic.normal ?_
   have hst := HR6.out.put (q := subQ q q') (qs' := xs.take i ++ [subQ q q']) hlt HF6.out (by simp [notWord]) (put_again' HXT.out)
   have hb7 := below_put3' HB6.out HGO.out (i * 3) (.bool (negQ (capQ (q + -q')))) (.slice D7 n9 c9) (.slice D8 n10 c10)
   go_wp2_with fail
   go_roundw
   case rel => exact ⟨i + 1, by omega, by go_num, by rw [HNX.out]; exact hst.1, hb7⟩
   case measure => simp [intOf]; omega
  ·obtain rfl : i = T.plus.length := by omega
   have hxa : xs.take T.plus.length = xs := List.take_of_length_le (by rw [HXL.out]; exact Nat.le_refl _)
   rw [hxa] at HRP
   have HSX : Hid (∀ q ∈ xs, Small q) := by unfold Hid; rw [HXS.out]; exact small_point HSC.out
   clear hxa
   go_wp2_with fail
   go_ret
   exact ⟨go, _, by rw [HXL.out]; rfl, HGO.out, HRP.out.lt, (HV.out.below HBr.out).add HRP.out.v (Nat.le_trans HV.out.size HGO.out) HSX.out, HBr.out, by rw [HXL.out]; exact Nat.le_refl _⟩
noncomputable def multE (cost gain : List Rat) (c : Int) (t : Bool) : Rat := if t = true then -(subQ (cost.getD c.toNat 0) (gain.getD c.toNat 0)) else subQ (cost.getD c.toNat 0) (gain.getD c.toNat 0)
noncomputable def multQ (T : Tab) (tn : List Bool) (cost gain : List Rat) : List Rat := T.id.zipWith (multE cost gain) tn
theorem small_mult {T : Tab} {tn : List Bool} {cost gain : List Rat} : ∀ q ∈ multQ T tn cost gain, Small q := by
 intro q hq
 obtain ⟨j, hj⟩ := List.getElem?_of_mem hq
 unfold multQ at hj
 rw [List.getElem?_zipWith] at hj
 cases hp : T.id[j]? with
 | none => rw [hp] at hj; simp at hj
 | some p =>
  cases hm : tn[j]? with
  | none => rw [hp, hm] at hj; simp at hj
  | some m =>
   rw [hp, hm] at hj
   have e : multE cost gain p m = q := by simpa using hj
   rw [← e]
   unfold multE
   split
   ·exact small_neg (small_cap _)
   ·exact small_cap _
theorem mult_calls (base : Nat) (H : Nat → Option (List Rat)) (I : Nat → Option (List Int)) (w : World) (gt : Nat) (S : Shape) (gs : List (Nat × Nat)) (tn : List Bool) (T : Tab) (gc cc gg cg : Nat) (cost gain : List Rat) (hv : View base H I w) (hT : TabW w gt S gs tn) (hV : TabV H I S gs T) (hc : H gc = some cost) (hg : H gg = some gain) (hgl : gain.length = cost.length) (htn : tn.length = T.id.length) (hid : ∀ c ∈ T.id, 0 ≤ c ∧ c < (cost.length : Int)) (hll : T.id.length ≤ 1000000) :
  Calls Try.prog 106 #[.pointer (some ⟨gt, 0, none⟩), .slice (some ⟨gc, 0, none⟩) cost.length cc, .slice (some ⟨gg, 0, none⟩) cost.length cg] w fun e w' => RedCap base H I (multQ T tn cost gain) w e w' := by
 have HV := Hd hv
 have HTV := Hd hV
 have HC := Hd hc
 have HG := Hd hg
 have HGL := Hd hgl
 have HTN := Hd htn
 have HID := Hd hid
 have hgsl : gs.length = T.id.length := by rw [hV.len, hV.idLen]
 obtain ⟨p0, p1, p2, p3, vRows, vRight, vBase, vPlus, vMinus, real, width, vId, vTurned⟩ := S
 obtain ⟨Ai, ci, ei⟩ := hV.id.slice
 obtain rfl : vId = _ := ei
 obtain ⟨At, ct, et, _⟩ := hT.2.2.1.slice
 obtain rfl : vTurned = _ := et
 obtain ⟨AR, cR, eR⟩ := hT.2.1.slice
 obtain rfl : vRows = _ := eR
 have HT := Hd hT
 have HBS : Hid (Blk w gt 121 #[p0, p1, p2, p3, .slice AR gs.length cR, vRight, vBase, vPlus, vMinus, .int .i64 (real : Int), .int .i64 (width : Int), .slice Ai T.id.length ci, .slice At tn.length ct]) := hT.1
 have HSC : Hid (∀ q ∈ cost, Small q) := (HV.out.frac _ _ HC.out).2.1
 have HSG : Hid (∀ q ∈ gain, Small q) := (HV.out.frac _ _ HG.out).2.1
 have HGS := Hd hgsl
 clear hv hT hV hc hg hgl htn hid hgsl
 obtain ⟨xs, hxs⟩ : ∃ l, l = multQ T tn cost gain := ⟨_, rfl⟩
 have HXS := Hd hxs
 have HXL : Hid (xs.length = T.id.length) := by unfold Hid; rw [hxs]; unfold multQ; rw [List.length_zipWith, HTN.out, Nat.min_self]
 rw [← hxs]
 clear hxs
 obtain ⟨m, hm⟩ : ∃ m, m = T.id.length := ⟨_, rfl⟩
 rw [HTN.out, HGS.out, ← hm] at HBS
 have HM := Hd hm
 rw [← hm] at hll
 clear hm
 obtain ⟨x0, x4, x5, x6, x7, x8, x9, x10, x11, x12⟩ := HBS.out.c13
 have hlt := HBS.out.lt
 have hmk := run_make3 23 40 _ Try.underlying23 info40m m (by omega)
 go_enter Try.func106, Try.ntmps106
 go_wp2_with fail
 have HP0 := Hd (RowP.made w m)
 have HB0 := Hd (below_new w (.cells (madeCells #[.bool false, .slice none 0 0, .slice none 0 0] (m * 3)) 40))
 clear hmk x0 x4 x5 x6 x7 x8 x9 x10 x11 x12 hlt
 generalize w.alloc (.cells (madeCells #[.bool false, .slice none 0 0, .slice none 0 0] (m * 3)) 40) = W0 at *
 obtain ⟨go, hgo⟩ : ∃ g, g = w.heap.size := ⟨_, rfl⟩
 rw [← hgo] at HP0 ⊢
 have HGO : Hid (w.heap.size ≤ go) := by unfold Hid; omega
 clear hgo
 go_loopw [21] (fun vi wr => ∃ i : Nat, i ≤ m ∧ vi = .int .i64 (i : Int) ∧ RowP wr go m (xs.take i) ∧ Below w.heap.size w wr) (fun vi _ => m - (intOf vi).toNat)
 case atStart => exact ⟨0, Nat.zero_le _, rfl, by rw [List.take_zero]; exact HP0.out, HB0.out⟩
 case round =>
  obtain ⟨i, hi, rfl, hrp, hbl⟩ := hrel
  have HRP := Hd hrp
  have HBr := Hd hbl
  clear hrp hbl HP0 HB0
  by_cases hlt : i < m
  ·obtain ⟨c, hc⟩ : ∃ x, T.id[i]? = some x := ⟨T.id[i]'(by rw [← HM.out]; exact hlt), List.getElem?_eq_getElem _⟩
   obtain ⟨tb, htb⟩ : ∃ x, tn[i]? = some x := ⟨tn[i]'(by rw [HTN.out, ← HM.out]; exact hlt), List.getElem?_eq_getElem _⟩
   have hcr := HID.out c (List.mem_of_getElem? hc)
   obtain ⟨n, rfl⟩ : ∃ n : Nat, c = n := ⟨c.toNat, by omega⟩
   obtain ⟨q, hq⟩ : ∃ x, cost[n]? = some x := ⟨cost[n]'(by omega), List.getElem?_eq_getElem _⟩
   obtain ⟨q', hq'⟩ : ∃ x, gain[n]? = some x := ⟨gain[n]'(by rw [HGL.out]; omega), List.getElem?_eq_getElem _⟩
   obtain ⟨gi, rfl, hgi⟩ := HTV.out.id.at_ (by show 0 < T.id.length; rw [← HM.out]; omega)
   obtain ⟨gT, oT, rfl, hgT, t0⟩ := BL.at1 (HT.out.below HBr.out).2.2.1 htb
   have HVr := Hd (HV.out.below HBr.out)
   have HXT : Hid ((xs.take i).length = i) := by unfold Hid; rw [List.length_take, HXL.out, ← HM.out]; omega
   have HXN : Hid (xs.take (i + 1) = xs.take i ++ [if tb = true then -(subQ q q') else subQ q q']) := by
    unfold Hid
    rw [List.take_add_one, HXS.out]
    unfold multQ
    rw [List.getElem?_zipWith, hc, htb]
    show _ ++ [multE cost gain n tb] = _
    unfold multE
    rw [Int.toNat_natCast, getD_at hq, getD_at hq']
   have HSQ : Hid (Small q) := HSC.out q (List.mem_of_getElem? hq)
   have HSQ' : Hid (Small q') := HSG.out q' (List.mem_of_getElem? hq')
   obtain ⟨k0, hgil, _⟩ := HVr.out.iat hgi hc
   obtain ⟨A1, n1, c1, A2, n2, c2, q0, q1, q2, HFQ⟩ := HVr.out.at_ HC.out hq
   have hgcl := HVr.out.lt HC.out
   obtain ⟨A3, n3, c3, A4, n4, c4, g0, g1, g2, HFG⟩ := HVr.out.at_ HG.out hq'
   have hggl := HVr.out.lt HG.out
   obtain ⟨x0, x4, x5, x6, x7, x8, x9, x10, x11, x12⟩ := (HBS.out.below HBr.out HBS.out.lt).c13
   have hltt := (HBS.out.below HBr.out HBS.out.lt).lt
   have m1 : (i : Int) < (m : Int) := by omega
   have m2 : (n : Int) < (cost.length : Int) := hcr.2
   have m3 : (i : Int).toNat = i := by omega
   have m4 : (0 : Int) ≤ (i : Int) := by omega
   have m5 : (n : Int).toNat = n := by omega
   have m6 : (0 : Int) ≤ (n : Int) := by omega
   have HTB := Hd htb
   clear hc hq hq' hgi htb hcr
   go_wp2_with fail
   refine wp_chainF (l := [_, _, _, _, _, _, _, _, _, _, _, _, _]) (S := Below wr.heap.size wr) 11 [([0, 1, 2, 3, 4, 5, 6, 7, 8, 9], 10)] [] (by kernel_rfl) (by kernel_rfl) (by kernel_rfl) rfl (Below.drew (Below.refl _ _)) ?_
   refine ⟨?_, _, ?_, rfl, ?_⟩
   rotate_left
   ·repeat (refine pu ?_; (try simp only [SQ]))
    exact rfl
   have D0 : Hid (Below wr.heap.size wr wr.drew) := Below.drew (Below.refl _ _)
   go_wp2_with fail
   refine (fsub_calls _ _ _ (rawQ q) (rawQ q') (FR.of_fq (HFQ.out.of_below D0.out) HSQ.out) (FR.of_fq (HFG.out.of_below D0.out) HSQ'.out)).mono ?_
   rintro e w6 ⟨v, rfl, hv, hb⟩
   rw [fixQ_raw _ HSQ.out, fixQ_raw _ HSQ'.out] at hv
   obtain ⟨D7, n9, c9, D8, n10, c10, rfl, HF6⟩ := hv.opened
   have D6 := Hd (below_next D0.out hb)
   have HR6 := Hd (HRP.out.below D6.out)
   have HB6 := Hd (below_next HBr.out D6.out)
   clear hv hb q0 q1 q2 g0 g1 g2 x0 x4 x5 x6 x7 x8 x9 x10 x11 x12 hltt k0 hgil hgcl hggl t0 hgT
   go_wp2_with fail
   refine And.intro D6.out ⟨_, rfl, ?_⟩
   obtain ⟨o0, o1, o2, z0, z1, z2⟩ := HR6.out.cells hlt
   have f0 := HR6.out.free (i * 3)
   have f1 := HR6.out.free (i * 3 + 1)
   have f2 := HR6.out.free (i * 3 + 2)
   go_wp2_with fail
   refine NoPanic.normal ?_
   have hst := HR6.out.put (q := subQ q q') (qs' := xs.take i ++ [subQ q q']) hlt HF6.out (by simp [notWord]) (put_last' HXT.out)
   have hb7 := below_put3' HB6.out HGO.out (i * 3) (.bool (negQ (capQ (q + -q')))) (.slice D7 n9 c9) (.slice D8 n10 c10)
   have HR7 := Hd hst.1
   have HB7 := Hd hb7
   have HF7 := Hd (HF6.out.keeps hst.2.1)
   obtain ⟨W1, hW1⟩ : ∃ W, W = ((w6.setCell ⟨go, i * 3, none⟩ (.bool (negQ (capQ (q + -q'))))).setCell ⟨go, i * 3 + 1, none⟩ (.slice D7 n9 c9)).setCell ⟨go, i * 3 + 2, none⟩ (.slice D8 n10 c10) := ⟨_, rfl⟩
   rw [show put3 w6 go (i * 3) (.bool (negQ (capQ (q + -q')))) (.slice D7 n9 c9) (.slice D8 n10 c10) = W1 from hW1.symm] at HR7 HB7 HF7
   rw [← hW1]
   clear hst hb7 hW1 z0 z1 z2 f0 f1 f2
   obtain ⟨x0, x4, x5, x6, x7, x8, x9, x10, x11, x12⟩ := (HBS.out.below HB7.out HBS.out.lt).c13
   have hltt := (HBS.out.below HB7.out HBS.out.lt).lt
   obtain ⟨gT2, oT2, eT, hgT2, t1⟩ := BL.at1 (HT.out.below HB7.out).2.2.1 HTB.out
   injection eT with eT
   injection eT with eT1 eT2
   subst eT1 eT2
   cases tb
   case false =>
    have HNX : Hid (xs.take (i + 1) = xs.take i ++ [subQ q q']) := HXN.out
    go_wp2_with fail
    go_roundw
    case rel => exact ⟨i + 1, by omega, by go_num, by rw [HNX.out]; exact HR7.out, HB7.out⟩
    case measure => simp [intOf]; omega
   case true =>
    have HNX : Hid (xs.take (i + 1) = xs.take i ++ [-(subQ q q')]) := HXN.out
    have hgol := HR7.out.lt
    obtain ⟨A5, n5, c5, A6, n6, c6, z0, z1, z2, HFO⟩ := HR7.out.at_ (i := i) (q := subQ q q') (by rw [List.getElem?_append_right (by rw [HXT.out]; exact Nat.le_refl _), HXT.out, Nat.sub_self]; rfl)
    go_wp2_with fail
    refine (fneg_calls _ _ (rawQ (subQ q q')) (FR.of_fq HFO.out (small_cap _))).mono ?_
    rintro e w8 ⟨v, rfl, hv, hb⟩
    rw [fixQ_raw (subQ q q') (small_cap _)] at hv
    obtain ⟨E7, n11, c11, E8, n12, c12, rfl, HF8⟩ := hv.opened
    have HR8 := Hd (HR7.out.below hb)
    have HB8 := Hd (below_next HB7.out hb)
    clear hv hb z0 z1 z2 x0 x4 x5 x6 x7 x8 x9 x10 x11 x12 hltt t1 hgT2
    obtain ⟨o0', o1', o2', z0, z1, z2⟩ := HR8.out.cells hlt
    have f0 := HR8.out.free (i * 3)
    have f1 := HR8.out.free (i * 3 + 1)
    have f2 := HR8.out.free (i * 3 + 2)
    have hst := HR8.out.put (q := -(subQ q q')) (qs' := xs.take i ++ [-(subQ q q')]) hlt HF8.out (by simp [notWord]) (put_again' HXT.out)
    have hb9 := below_put3' HB8.out HGO.out (i * 3) (.bool (negQ (-(subQ q q')))) (.slice E7 n11 c11) (.slice E8 n12 c12)
    have HST := Hd hst
    have HB9 := Hd hb9
    clear hst hb9
    go_wp2_with fail
    go_roundw
    case rel => exact ⟨i + 1, by omega, by go_num, by rw [HNX.out]; exact HST.out.1, HB9.out⟩
    case measure => simp [intOf]; omega
  ·obtain rfl : i = m := by omega
   have hxa : xs.take i = xs := List.take_of_length_le (by rw [HXL.out, HM.out]; exact Nat.le_refl _)
   rw [hxa] at HRP
   have HSX : Hid (∀ q ∈ xs, Small q) := by unfold Hid; rw [HXS.out]; exact small_mult
   clear hxa
   go_wp2_with fail
   go_ret
   exact ⟨go, _, by rw [HXL.out, ← HM.out]; rfl, HGO.out, HRP.out.lt, (HV.out.below HBr.out).add HRP.out.v (Nat.le_trans HV.out.size HGO.out) HSX.out, HBr.out, by rw [HXL.out, ← HM.out]; exact Nat.le_refl _⟩
theorem zf_words : ∀ u ∈ #[Value.bool false, .slice none 0 0, .slice none 0 0], notWord u = true := by simp [notWord]
noncomputable def pivRow (by_ : Rat) (r : List Rat) : List Rat := r.map fun f => if f = 0 then f else mulQ f by_
noncomputable def pivOther (col : Nat) (row' r : List Rat) : List Rat := if r.getD col 0 = 0 then r else takeQ (r.getD col 0) r row'
noncomputable def pivRight (col : Nat) (rr : Rat) (r : List Rat) (x : Rat) : Rat := if r.getD col 0 = 0 then x else subQ x (mulQ (r.getD col 0) rr)
noncomputable def rowsAt (row col : Nat) (row' : List Rat) (i j : Nat) (r : List Rat) : List Rat := if j = row then row' else if j < i then pivOther col row' r else r
noncomputable def rightAt (row col : Nat) (rr : Rat) (rows : List (List Rat)) (i j : Nat) (x : Rat) : Rat := if j = row then rr else if j < i then pivRight col rr (rows.getD j []) x else x
noncomputable def pivGain (col : Nat) (row' gain : List Rat) : List Rat := if gain.getD col 0 = 0 then gain else takeQ (gain.getD col 0) gain row'
noncomputable def pivBy (T : Tab) (row col : Nat) : Rat := quoQ 1 ((T.rows.getD row []).getD col 0)
noncomputable def pivNew (T : Tab) (row col : Nat) : List Rat := pivRow (pivBy T row col) (T.rows.getD row [])
noncomputable def pivotQ (T : Tab) (row col : Nat) : Tab :=
 ⟨T.rows.mapIdx (rowsAt row col (pivNew T row col) T.rows.length), T.right.mapIdx (rightAt row col (mulQ (T.right.getD row 0) (pivBy T row col)) T.rows T.rows.length), T.base.set row (col : Int), T.plus, T.minus, T.id⟩
theorem ext_at {α : Type} {a b : List α} (hl : a.length = b.length) (h : ∀ (i : Nat) (x y : α), a[i]? = some x → b[i]? = some y → x = y) : a = b :=
 List.ext_getElem hl fun i h1 h2 => h i _ _ (List.getElem?_eq_getElem h1) (List.getElem?_eq_getElem h2)
theorem rowsAt_zero {row col : Nat} {rp x : List Rat} {j : Nat} (h : j ≠ row) : rowsAt row col rp 0 j x = x := by unfold rowsAt; rw [if_neg h, if_neg (Nat.not_lt_zero _)]
theorem rowsAt_row {row col i : Nat} {rp x : List Rat} : rowsAt row col rp i row x = rp := by unfold rowsAt; rw [if_pos rfl]
theorem rowsAt_here {row col i : Nat} {rp x : List Rat} (h : i ≠ row) : rowsAt row col rp i i x = x := by unfold rowsAt; rw [if_neg h, if_neg (Nat.lt_irrefl _)]
theorem rowsAt_next {row col i j : Nat} {rp x : List Rat} (h : j ≠ i) : rowsAt row col rp (i + 1) j x = rowsAt row col rp i j x := by
 unfold rowsAt
 by_cases e : j = row
 ·rw [if_pos e, if_pos e]
 ·rw [if_neg e, if_neg e]
  by_cases hl : j < i
  ·rw [if_pos hl, if_pos (by omega)]
  ·rw [if_neg hl, if_neg (by omega)]
theorem rowsAt_done {row col i : Nat} {rp x : List Rat} (h : i ≠ row) : rowsAt row col rp (i + 1) i x = pivOther col rp x := by unfold rowsAt; rw [if_neg h, if_pos (Nat.lt_succ_self _)]
theorem rowsAt_same {row col i j : Nat} {rp x : List Rat} (h : i = row ∨ (j = i → x.getD col 0 = 0)) : rowsAt row col rp (i + 1) j x = rowsAt row col rp i j x := by
 by_cases e : j = i
 ·subst e
  rcases h with h | h
  ·subst h; rw [rowsAt_row, rowsAt_row]
  ·by_cases hr : j = row
   ·subst hr; rw [rowsAt_row, rowsAt_row]
   ·rw [rowsAt_done hr, rowsAt_here hr]
    unfold pivOther
    rw [if_pos (h rfl)]
 ·exact rowsAt_next e
theorem rightAt_next {row col i j : Nat} {rr x : Rat} {rows : List (List Rat)} (h : j ≠ i) : rightAt row col rr rows (i + 1) j x = rightAt row col rr rows i j x := by
 unfold rightAt
 by_cases e : j = row
 ·rw [if_pos e, if_pos e]
 ·rw [if_neg e, if_neg e]
  by_cases hl : j < i
  ·rw [if_pos hl, if_pos (by omega)]
  ·rw [if_neg hl, if_neg (by omega)]
theorem rightAt_done {row col i : Nat} {rr x : Rat} {rows : List (List Rat)} (h : i ≠ row) : rightAt row col rr rows (i + 1) i x = pivRight col rr (rows.getD i []) x := by unfold rightAt; rw [if_neg h, if_pos (Nat.lt_succ_self _)]
theorem rightAt_here {row col i : Nat} {rr x : Rat} {rows : List (List Rat)} (h : i ≠ row) : rightAt row col rr rows i i x = x := by unfold rightAt; rw [if_neg h, if_neg (Nat.lt_irrefl _)]
theorem rightAt_row {row col i : Nat} {rr x : Rat} {rows : List (List Rat)} : rightAt row col rr rows i row x = rr := by unfold rightAt; rw [if_pos rfl]
theorem ra_zero {row col : Nat} {rr : Rat} {rows : List (List Rat)} {right : List Rat} : right.mapIdx (rightAt row col rr rows 0) = right.set row rr := by
 refine ext_at (by simp) fun j x y hx hy => ?_
 rw [List.getElem?_mapIdx] at hx
 by_cases e : j = row
 ·subst e
  have hl : j < right.length := by have := (List.getElem?_eq_some_iff.1 hy).1; simpa using this
  rw [List.getElem?_set_self hl] at hy
  rw [List.getElem?_eq_getElem hl] at hx
  injection hy with hy
  have hx' : rightAt j col rr rows 0 j right[j] = x := by simpa using hx
  rw [← hx', ← hy, rightAt_row]
 ·rw [List.getElem?_set_ne (fun h => e h.symm)] at hy
  rw [hy] at hx
  have hx' : rightAt row col rr rows 0 j y = x := by simpa using hx
  rw [← hx']
  unfold rightAt
  rw [if_neg e, if_neg (Nat.not_lt_zero _)]
theorem ra_same {row col i : Nat} {rr : Rat} {rows : List (List Rat)} {right : List Rat} (h : i = row ∨ (rows.getD i []).getD col 0 = 0) : right.mapIdx (rightAt row col rr rows (i + 1)) = right.mapIdx (rightAt row col rr rows i) := by
 refine ext_at (by simp) fun j x y hx hy => ?_
 rw [List.getElem?_mapIdx] at hx hy
 cases hr : right[j]? with
 | none => rw [hr] at hx; simp at hx
 | some z =>
  rw [hr] at hx hy
  have hx' : rightAt row col rr rows (i + 1) j z = x := by simpa using hx
  have hy' : rightAt row col rr rows i j z = y := by simpa using hy
  rw [← hx', ← hy']
  by_cases e : j = i
  ·subst e
   by_cases hw : j = row
   ·subst hw; rw [rightAt_row, rightAt_row]
   ·rcases h with h | h
    ·exact absurd h hw
    ·rw [rightAt_done hw, rightAt_here hw]
     unfold pivRight
     rw [if_pos h]
  ·exact rightAt_next e
theorem ra_at {row col i j : Nat} {rr y : Rat} {rows : List (List Rat)} {right : List Rat} (h : right[j]? = some y) : (right.mapIdx (rightAt row col rr rows i))[j]? = some (rightAt row col rr rows i j y) := by
 rw [List.getElem?_mapIdx, h]
 rfl
theorem ra_step {row col i : Nat} {rr y : Rat} {rows : List (List Rat)} {right : List Rat} (hi : i ≠ row) (h : right[i]? = some y) (hf : (rows.getD i []).getD col 0 ≠ 0) : (right.mapIdx (rightAt row col rr rows i)).set i (subQ y (mulQ ((rows.getD i []).getD col 0) rr)) = right.mapIdx (rightAt row col rr rows (i + 1)) := by
 refine ext_at (by simp) fun j x z hx hz => ?_
 rw [List.getElem?_mapIdx] at hz
 by_cases e : j = i
 ·subst e
  rw [List.getElem?_set_self (by have := (List.getElem?_eq_some_iff.1 h).1; simpa using this)] at hx
  injection hx with hx
  rw [h] at hz
  have hz' : rightAt row col rr rows (j + 1) j y = z := by simpa using hz
  rw [← hx, ← hz', rightAt_done hi]
  unfold pivRight
  rw [if_neg hf]
 ·rw [List.getElem?_set_ne (fun h => e h.symm), List.getElem?_mapIdx] at hx
  cases hr : right[j]? with
  | none => rw [hr] at hx; simp at hx
  | some v =>
   rw [hr] at hx hz
   have hx' : rightAt row col rr rows i j v = x := by simpa using hx
   have hz' : rightAt row col rr rows (i + 1) j v = z := by simpa using hz
   rw [← hx', ← hz', rightAt_next e]
theorem nodup_key {gs : List (Nat × Nat)} (h : (gs.map Prod.fst).Nodup) {i j : Nat} {p q : Nat × Nat} (hi : gs[i]? = some p) (hj : gs[j]? = some q) (hne : i ≠ j) : p.1 ≠ q.1 := by
 intro e
 have h1 : (gs.map Prod.fst)[i]? = some p.1 := by rw [List.getElem?_map, hi]; rfl
 have h2 : (gs.map Prod.fst)[j]? = some q.1 := by rw [List.getElem?_map, hj]; rfl
 obtain ⟨l1, e1⟩ := List.getElem?_eq_some_iff.1 h1
 obtain ⟨l2, e2⟩ := List.getElem?_eq_some_iff.1 h2
 have hp := List.pairwise_iff_getElem.1 h
 rcases Nat.lt_or_gt_of_ne hne with hl | hl
 ·exact hp i j l1 l2 hl (by rw [e1, e2, e])
 ·exact hp j i l2 l1 hl (by rw [e1, e2, e])
theorem key_mem {gs : List (Nat × Nat)} {i : Nat} {p : Nat × Nat} (h : gs[i]? = some p) : p.1 ∈ gs.map Prod.fst := List.mem_map.2 ⟨p, List.mem_of_getElem? h, rfl⟩
theorem only_cell {g b : Nat} {w w1 : World} (h : Only g w w1) (hb : b < w.heap.size) (hne : b ≠ g) (o : Nat) : w1.cell? ⟨b, o, none⟩ = w.cell? ⟨b, o, none⟩ := by
 have := h.2.1 b hb hne
 simp only [World.cell?]
 rw [this]
theorem take_calls' (base : Nat) (H : Nat → Option (List Rat)) (I : Nat → Option (List Int)) (w : World) (gl gr cl cr : Nat) (L R : List Rat) (vb : Value) (by_ : Rat) (n : Nat) (hn : n = L.length) (hv : View base H I w) (hL : H gl = some L) (hR : H gr = some R) (hne : gl ≠ gr) (hlen : R.length = L.length) (hb : FQ w vb by_) (hs : Small by_) (hll : L.length ≤ 1000000000) :
  Calls Try.prog 126 #[.slice (some ⟨gl, 0, none⟩) n cl, .slice (some ⟨gr, 0, none⟩) n cr, vb] w fun e w' => TakePost base gl H I (takeQ by_ L R) w e w' := by
 subst hn
 exact take_calls base H I w gl gr cl cr L R vb by_ hv hL hR hne hlen hb hs hll
theorem VI.other {I : Nat → Option (List Int)} {v : Value} {l m : List Int} {g : Nat} (h : VI I v l) (hne : ∀ n c, v ≠ .slice (some ⟨g, 0, none⟩) n c) : VI (upd I g m) v l := by
 rcases h with h | ⟨g', c, e, hg⟩
 ·exact .inl h
 ·refine .inr ⟨g', c, e, ?_⟩
  rw [upd_ne (fun h => hne l.length c (by rw [← h]; exact e)), hg]
def Owned (S : Shape) (gs : List (Nat × Nat)) (k : Nat) : Prop := k ∈ gs.map Prod.fst ∨ ∃ n c, S.right = .slice (some ⟨k, 0, none⟩) n c
def NotBase (S : Shape) (k : Nat) : Prop := ∀ n c, S.base ≠ .slice (some ⟨k, 0, none⟩) n c
def PivPost (base : Nat) (H : Nat → Option (List Rat)) (I : Nat → Option (List Int)) (S : Shape) (gs : List (Nat × Nat)) (T : Tab) (row col : Nat) (G : Option (Nat × List Rat)) (w : World) (e : Ending) (w' : World) : Prop :=
 e = .returned (.tuple #[]) ∧ ∃ H' I', View base H' I' w' ∧ TabV H' I' S gs (pivotQ T row col) ∧ (∀ gg x, G = some (gg, x) → H' gg = some (pivGain col (pivNew T row col) x)) ∧ (∀ k, ¬ Owned S gs k → (∀ x, G ≠ some (k, x)) → H' k = H k) ∧ ChgS base w w' ∧ ∀ k, NotBase S k → I' k = I k
def PivAct (gt : Nat) (row col : Nat) (vg : Value) (gR m cR gi width ci gx : Nat) (e by_ : Rat) (A1 : Option Addr) (n1 c1 : Nat) (A2 : Option Addr) (n2 c2 : Nat) (E1 : Option Addr) (h1 i1 : Nat) (E2 : Option Addr) (h2 i2 : Nat) (F1 : Option Addr) (h3 i3 : Nat) (F2 : Option Addr) (h4 i4 : Nat) : Act :=
 { tmps := #[.pointer (some ⟨gt, 0, none⟩), .int .i64 (row : Int), .int .i64 (col : Int), vg, undef, undef, undef, undef, .pointer (some ⟨gx, 0, none⟩), .int .i64 0, undef, undef, undef, undef, .tuple #[.agg #[.bool (negQ by_), .slice E1 h1 i1, .slice E2 h2 i2], .int .i64 0], .agg #[.bool (negQ (1 : Rat)), .slice F1 h3 i3, .slice F2 h4 i4], .pointer (some ⟨gt, 0, none⟩), .pointer (some ⟨gt, 0, none⟩), .pointer (some ⟨gt, 4, none⟩), .slice (some ⟨gR, 0, none⟩) m cR, .int .i64 (row : Int), .pointer (some ⟨gR, row, none⟩), .slice (some ⟨gi, 0, none⟩) width ci, .int .i64 (col : Int), .pointer (some ⟨gi, col * 3, none⟩), .agg #[.bool (negQ e), .slice A1 n1 c1, .slice A2 n2 c2], .tuple #[.agg #[.bool (negQ by_), .slice E1 h1 i1, .slice E2 h2 i2], .int .i64 0], .agg #[.bool (negQ by_), .slice E1 h1 i1, .slice E2 h2 i2], .int .i64 0, undef, undef, undef, undef, undef, undef, undef, undef, undef, undef, undef, undef, undef, undef, undef, undef, undef, undef, undef, undef, undef, undef, undef, undef, undef, undef, undef, undef, undef, undef, undef, undef, undef, undef, undef, undef, undef, undef, undef, undef, undef, undef, undef, undef, undef, undef, undef, undef, undef, undef, undef, undef, undef, undef, undef, undef, undef, undef, undef, undef, undef, undef, undef, undef, undef, undef, undef, undef, undef, undef, undef, undef, undef, undef, undef, undef, undef, undef, undef, undef, undef, undef, undef, undef, undef, undef, undef, undef, undef, undef, undef, undef, undef, undef, undef, undef, undef, undef, undef, undef, undef, undef, undef, undef, undef, undef, undef, undef, undef, undef, undef, undef, undef, undef, undef, undef, undef, undef, undef, undef, undef, undef, undef, undef, undef, undef, undef, undef, undef, undef, undef, undef, undef, undef, undef, undef, undef, undef, undef, undef], defers := [] }
theorem sq36 (P : Prop) (h : P := by
 have hds := below_put3' D9.out hgx 0 (.bool (negQ by_)) (.slice E1 h1 i1) (.slice E2 h2 i2)
 have HDs := Hd hds
 clear hpo hds z0 z1 z2 f0 f1 f2 hlx
 refine And.intro HDs.out ⟨_, rfl, ?_⟩
 go_wp2_with fail
 refine NoPanic.normal ?_
 exact ⟨rfl, gx, E1, h1, i1, E2, h2, i2, F1, h3, i3, F2, h4, i4, rfl, HDs.out, hgx, HXs.out, HQs.out⟩) : P := h
theorem pivot_calls (base : Nat) (H : Nat → Option (List Rat)) (I : Nat → Option (List Int)) (w : World) (gt : Nat) (S : Shape) (gs : List (Nat × Nat)) (tn : List Bool) (T : Tab) (row col : Nat) (vg : Value) (G : Option (Nat × List Rat)) (hgain : (vg = .slice none 0 0 ∧ G = none) ∨ ∃ gg cg gain, vg = .slice (some ⟨gg, 0, none⟩) S.width cg ∧ H gg = some gain ∧ gain.length = S.width ∧ gg ∉ gs.map Prod.fst ∧ (∀ n c, S.right ≠ .slice (some ⟨gg, 0, none⟩) n c) ∧ G = some (gg, gain)) (hia : (∀ g n c, S.base = .slice (some ⟨g, 0, none⟩) n c → (∀ n c, S.plus ≠ .slice (some ⟨g, 0, none⟩) n c) ∧ (∀ n c, S.minus ≠ .slice (some ⟨g, 0, none⟩) n c) ∧ ∀ n c, S.id ≠ .slice (some ⟨g, 0, none⟩) n c)) (hv : View base H I w) (hT : TabW w gt S gs tn) (hV : TabV H I S gs T) (hrow : row < T.rows.length) (hcol : col < S.width) (he : ((T.rows.getD row []).getD col 0) ≠ 0) (hw : S.width ≤ 1000000) (hml : T.rows.length ≤ 1000000) :
  Calls Try.prog 107 #[.pointer (some ⟨gt, 0, none⟩), .int .i64 (row : Int), .int .i64 (col : Int), vg] w fun e w' => PivPost base H I S gs T row col G w e w' := by
 have HV := Hd hv
 have HTV := Hd hV
 obtain ⟨r, hr⟩ : ∃ x, T.rows[row]? = some x := ⟨T.rows[row], List.getElem?_eq_getElem hrow⟩
 obtain ⟨⟨gi, ci⟩, hgi⟩ : ∃ x, gs[row]? = some x := ⟨gs[row]'(by rw [hV.len]; exact hrow), List.getElem?_eq_getElem _⟩
 have HROW := Hd (hV.row row _ r hgi hr).1
 have hrl := (hV.row row _ r hgi hr).2
 obtain ⟨p0, p1, p2, p3, vRows, vRight, vBase, vPlus, vMinus, real, width, vId, vTurned⟩ := S
 obtain ⟨AR, cR, eR⟩ := hT.2.1.slice
 obtain rfl : vRows = _ := eR
 obtain ⟨gR, rfl, hgR, kR⟩ := hT.2.1.at_ hgi
 obtain ⟨Ar, cr, er⟩ := hV.right.slice
 obtain rfl : vRight = _ := er
 obtain ⟨gr, rfl, hgr⟩ := hV.right.at_ (by rw [hV.rightLen]; omega)
 obtain ⟨Ab, cb, eb⟩ := hV.base.slice
 obtain rfl : vBase = _ := eb
 obtain ⟨gb, rfl, hgb⟩ := hV.base.at_ (by rw [hV.baseLen]; omega)
 have hbs := hT.1
 have HT := Hd hT
 have hcr : col < r.length := by rw [hrl]; exact hcol
 obtain ⟨e, hec⟩ : ∃ x, r[col]? = some x := ⟨r[col], List.getElem?_eq_getElem hcr⟩
 have HNZ : Hid (e ≠ 0) := by unfold Hid; rw [getD_at hr, getD_at hec] at he; exact he
 have hcol' : col < width := hcol
 have hw' : width ≤ 1000000 := hw
 have HRL : Hid (r.length = width) := hrl
 have hgl := hV.len
 obtain ⟨m, hm⟩ : ∃ m, m = T.rows.length := ⟨_, rfl⟩
 have HBS : Hid (Blk w gt 121 #[p0, p1, p2, p3, .slice (some ⟨gR, 0, none⟩) m cR, .slice (some ⟨gr, 0, none⟩) m cr, .slice (some ⟨gb, 0, none⟩) m cb, vPlus, vMinus, .int .i64 (real : Int), .int .i64 (width : Int), vId, vTurned]) := by
  have h1 := hV.rightLen
  have h2 := hV.baseLen
  unfold Hid
  rw [hm, ← h1]
  have := hbs
  unfold Shape.cells at this
  simp only at this
  rw [hgl, h2, ← h1] at this
  exact this
 have HM := Hd hm
 have hrow' : row < m := by omega
 have hmle : m ≤ 1000000 := by omega
 have HEC := Hd hec
 have HRR := Hd hr
 have HGI := Hd hgi
 have HSE : Hid (Small e) := HV.out.small HROW.out hec
 obtain ⟨by_, hby⟩ : ∃ b, b = quoQ 1 e := ⟨_, rfl⟩
 have HBY := Hd hby
 obtain ⟨A1, n1, c1, A2, n2, c2, e0, e1, e2, HFE⟩ := HV.out.at_ HROW.out hec
 have hgil := HV.out.lt HROW.out
 have kR' : w.cell? ⟨gR, row, none⟩ = some (.slice (some ⟨gi, 0, none⟩) width ci) := kR
 obtain ⟨x0, x4, x5, x6, x7, x8, x9, x10, x11, x12⟩ := HBS.out.c13
 have hltt := HBS.out.lt
 have m1 : (row : Int) < (m : Int) := by omega
 have m2 : (col : Int) < (width : Int) := by omega
 have m3 : (row : Int).toNat = row := by omega
 have m4 : (0 : Int) ≤ (row : Int) := by omega
 have m5 : (col : Int).toNat = col := by omega
 have m6 : (0 : Int) ≤ (col : Int) := by omega
 have HGN := Hd hgain
 have HIA := Hd (hia gb T.base.length cb rfl)
 have HGR := Hd hgr
 have HGB := Hd hgb
 have HNE : Hid (gr ≠ gi) := fun e => HTV.out.apart gr cr _ rfl (by rw [e]; exact key_mem HGI.out)
 clear hgain hia hv hT hV hr hgi hrl hgr hgb hbs hcr hec he hm hby kR hcol hw hrow hml hgl
 go_enter Try.func107, Try.ntmps107
 go_wp2_with fail
 refine Code.wp_mono (Q := fun ex a W => ex = .normal ∧ ∃ gx E1 h1 i1 E2 h2 i2 F1 h3 i3 F2 h4 i4, a = PivAct gt row col vg gR m cR gi width ci gx e by_ A1 n1 c1 A2 n2 c2 E1 h1 i1 E2 h2 i2 F1 h3 i3 F2 h4 i4 ∧ Below w.heap.size w W ∧ w.heap.size ≤ gx ∧ Blk W gx 40 #[.bool (negQ by_), .slice E1 h1 i1, .slice E2 h2 i2] ∧ FQ W (.agg #[.bool (negQ by_), .slice E1 h1 i1, .slice E2 h2 i2]) by_) ?_ ?_
 rotate_left
 ·have D0 : Hid (Below w.heap.size w w.drew) := Below.drew (Below.refl _ _)
  refine wp_tree (l := [_, _, _, _, _, _, _, _, _, _, _, _, _, _, _, _, _, _]) (S := Below w.heap.size w) 17 (.two [1, 2, 3, 4, 5, 6, 7, 8, 9, 10] 0 (.two [] 11 (.one [12, 13, 14] 15 (.one [] 16 (.fin []))) 15 (.one [] 11 (.one [12, 13, 14] 16 (.fin [])))) 15 (.one [] 0 (.one [] 11 (.one [12, 13, 14] 16 (.fin []))))) (by kernel_rfl) (by kernel_rfl) (by kernel_rfl) rfl (Below.drew (Below.refl _ _)) ?_
  refine ⟨?_, _, _, ?_, rfl, rfl, ?_, ?_⟩
  rotate_left
  ·repeat (refine pu ?_; (try simp only [SQ]))
   exact rfl
  ·go_wp2_with fail
   refine (number_calls _ 1 (by omega) (by omega)).mono ?_
   rintro ee W1 ⟨v, rfl, hv, hb⟩
   obtain ⟨F1, h3, i3, F2, h4, i4, rfl, HN⟩ := hv.opened
   have D2 := Hd (below_next D0.out hb)
   clear hv hb
   go_wp2_with fail
   refine And.intro D2.out ⟨_, _, _, rfl, rfl, rfl, ?_, ?_⟩
   ·go_wp2_with fail
    refine (fdiv_calls _ _ _ (rawQ 1) (rawQ e) (FR.of_fq HN.out small_one) (FR.of_fq (HFE.out.of_below D2.out) HSE.out) (by rw [fixQ_raw _ HSE.out]; exact HNZ.out)).mono ?_
    rintro ee W3 ⟨v, rfl, hv, hb⟩
    rw [fixQ_raw _ small_one, fixQ_raw _ HSE.out] at hv
    rw [show capQ (1 * e⁻¹) = by_ from HBY.out.symm] at hv
    obtain ⟨E1, h1, i1, E2, h2, i2, rfl, HQ⟩ := hv.opened
    have N4v := Hd (HN.out.of_below hb)
    have D5 := Hd (below_next D2.out hb)
    clear hv hb
    go_wp2_with fail
    refine And.intro D5.out ⟨?_, _, ?_, rfl, ?_⟩
    rotate_left
    ·repeat (refine pu ?_; (try simp only [SQ]))
     exact rfl
    go_wp2_with fail
    have hbn := below_new W3 (.cells #[.bool false, .slice none 0 0, .slice none 0 0] 40)
    have HX := Hd (Blk.new W3 40 #[.bool false, .slice none 0 0, .slice none 0 0])
    have hgx : w.heap.size ≤ W3.heap.size := D5.out.size
    have N7v := Hd (N4v.out.of_below hbn)
    have Q8v := Hd (HQ.out.of_below hbn)
    have D9 := Hd (below_next D5.out hbn)
    obtain ⟨gx, hgx2⟩ : ∃ g, g = W3.heap.size := ⟨_, rfl⟩
    rw [← hgx2] at HX hgx ⊢
    generalize W3.alloc (.cells #[.bool false, .slice none 0 0, .slice none 0 0] 40) = W6 at *
    clear hgx2 hbn
    refine And.intro D9.out ⟨_, _, rfl, rfl, ?_⟩
    obtain ⟨z0, z1, z2⟩ := HX.out.c3
    obtain ⟨f0, f1, f2⟩ := HX.out.f3
    have hlx := HX.out.lt
    go_wp2_with fail
    have hpo := put3_only (o := 0) (a := .bool (negQ by_)) (b := .slice E1 h1 i1) (c := .slice E2 h2 i2) HX.out zf_words
    have HXs := Hd (HX.out.put3 (.bool (negQ by_)) (.slice E1 h1 i1) (.slice E2 h2 i2))
    have HQs := Hd (Q8v.out.keeps hpo.1)
    exact sq36 _
   ·go_wp2_with fail
    have hbn := below_new W1 (.cells #[.bool false, .slice none 0 0, .slice none 0 0] 40)
    have HX := Hd (Blk.new W1 40 #[.bool false, .slice none 0 0, .slice none 0 0])
    have hgx : w.heap.size ≤ W1.heap.size := D2.out.size
    have N4v := Hd (HN.out.of_below hbn)
    have D5 := Hd (below_next D2.out hbn)
    obtain ⟨gx, hgx2⟩ : ∃ g, g = W1.heap.size := ⟨_, rfl⟩
    rw [← hgx2] at HX hgx ⊢
    generalize W1.alloc (.cells #[.bool false, .slice none 0 0, .slice none 0 0] 40) = W3 at *
    clear hgx2 hbn
    refine And.intro D5.out ⟨_, _, rfl, rfl, ?_⟩
    go_wp2_with fail
    refine (fdiv_calls _ _ _ (rawQ 1) (rawQ e) (FR.of_fq N4v.out small_one) (FR.of_fq (HFE.out.of_below D5.out) HSE.out) (by rw [fixQ_raw _ HSE.out]; exact HNZ.out)).mono ?_
    rintro ee W6 ⟨v, rfl, hv, hb⟩
    rw [fixQ_raw _ small_one, fixQ_raw _ HSE.out] at hv
    rw [show capQ (1 * e⁻¹) = by_ from HBY.out.symm] at hv
    obtain ⟨E1, h1, i1, E2, h2, i2, rfl, HQ⟩ := hv.opened
    have N7v := Hd (N4v.out.of_below hb)
    have X8v := Hd (HX.out.below hb HX.out.lt)
    have D9 := Hd (below_next D5.out hb)
    clear hv hb
    go_wp2_with fail
    refine And.intro D9.out ⟨?_, _, ?_, rfl, ?_⟩
    rotate_left
    ·repeat (refine pu ?_; (try simp only [SQ]))
     exact rfl
    obtain ⟨z0, z1, z2⟩ := X8v.out.c3
    obtain ⟨f0, f1, f2⟩ := X8v.out.f3
    have hlx := X8v.out.lt
    go_wp2_with fail
    have hpo := put3_only (o := 0) (a := .bool (negQ by_)) (b := .slice E1 h1 i1) (c := .slice E2 h2 i2) X8v.out zf_words
    have HXs := Hd (X8v.out.put3 (.bool (negQ by_)) (.slice E1 h1 i1) (.slice E2 h2 i2))
    have HQs := Hd (HQ.out.keeps hpo.1)
    exact sq36 _
  ·go_wp2_with fail
   have HX : Hid (Blk ((w.alloc (.cells #[.bool false, .slice none 0 0, .slice none 0 0] 40)).drew) w.heap.size 40 #[.bool false, .slice none 0 0, .slice none 0 0]) := Blk.new w 40 #[.bool false, .slice none 0 0, .slice none 0 0]
   have D2 : Hid (Below w.heap.size w ((w.alloc (.cells #[.bool false, .slice none 0 0, .slice none 0 0] 40)).drew)) := Below.drew (below_new w (.cells #[.bool false, .slice none 0 0, .slice none 0 0] 40))
   have hgx : w.heap.size ≤ w.heap.size := Nat.le_refl _
   generalize (w.alloc (.cells #[.bool false, .slice none 0 0, .slice none 0 0] 40)).drew = W1 at *
   refine And.intro D2.out ⟨_, _, rfl, rfl, ?_⟩
   go_wp2_with fail
   refine (number_calls _ 1 (by omega) (by omega)).mono ?_
   rintro ee W3 ⟨v, rfl, hv, hb⟩
   obtain ⟨F1, h3, i3, F2, h4, i4, rfl, HN⟩ := hv.opened
   have X4v := Hd (HX.out.below hb HX.out.lt)
   have D5 := Hd (below_next D2.out hb)
   clear hv hb
   go_wp2_with fail
   refine And.intro D5.out ⟨_, _, rfl, rfl, ?_⟩
   go_wp2_with fail
   refine (fdiv_calls _ _ _ (rawQ 1) (rawQ e) (FR.of_fq HN.out small_one) (FR.of_fq (HFE.out.of_below D5.out) HSE.out) (by rw [fixQ_raw _ HSE.out]; exact HNZ.out)).mono ?_
   rintro ee W6 ⟨v, rfl, hv, hb⟩
   rw [fixQ_raw _ small_one, fixQ_raw _ HSE.out] at hv
   rw [show capQ (1 * e⁻¹) = by_ from HBY.out.symm] at hv
   obtain ⟨E1, h1, i1, E2, h2, i2, rfl, HQ⟩ := hv.opened
   have X7v := Hd (X4v.out.below hb X4v.out.lt)
   have N8v := Hd (HN.out.of_below hb)
   have D9 := Hd (below_next D5.out hb)
   clear hv hb
   go_wp2_with fail
   refine And.intro D9.out ⟨?_, _, ?_, rfl, ?_⟩
   rotate_left
   ·repeat (refine pu ?_; (try simp only [SQ]))
    exact rfl
   obtain ⟨z0, z1, z2⟩ := X7v.out.c3
   obtain ⟨f0, f1, f2⟩ := X7v.out.f3
   have hlx := X7v.out.lt
   go_wp2_with fail
   have hpo := put3_only (o := 0) (a := .bool (negQ by_)) (b := .slice E1 h1 i1) (c := .slice E2 h2 i2) X7v.out zf_words
   have HXs := Hd (X7v.out.put3 (.bool (negQ by_)) (.slice E1 h1 i1) (.slice E2 h2 i2))
   have HQs := Hd (HQ.out.keeps hpo.1)
   have hds := below_put3' D9.out hgx 0 (.bool (negQ by_)) (.slice E1 h1 i1) (.slice E2 h2 i2)
   have HDs := Hd hds
   clear hpo hds z0 z1 z2 f0 f1 f2 hlx
   refine And.intro HDs.out ⟨_, rfl, ?_⟩
   go_wp2_with fail
   refine NoPanic.normal ?_
   exact ⟨rfl, w.heap.size, E1, h1, i1, E2, h2, i2, F1, h3, i3, F2, h4, i4, rfl, HDs.out, hgx, HXs.out, HQs.out⟩
 ·rintro ex a W0 ⟨rfl, gx, E1, h1, i1, E2, h2, i2, F1, h3, i3, F2, h4, i4, rfl, hbl, hgx, hbx, hbq⟩
  unfold PivAct
  have HB0 := Hd hbl
  have HGX := Hd hgx
  have HBX := Hd hbx
  have HBQ := Hd hbq
  have HC0 := Hd (ChgS.of_below (base := base) hbl)
  have HV0 := Hd (HV.out.below hbl)
  have k0 : W0.cell? ⟨gR, row, none⟩ = some (.slice (some ⟨gi, 0, none⟩) width ci) := by rw [(bcell hbl).1 gR _ hgR]; exact kR'
  have hgR0 : gR < W0.heap.size := Nat.lt_of_lt_of_le hgR hbl.size
  clear hbl hgx hbx hbq x0 x4 x5 x6 x7 x8 x9 x10 x11 x12 hltt kR' hgR e0 e1 e2 hgil HFE
  obtain ⟨x0, x4, x5, x6, x7, x8, x9, x10, x11, x12⟩ := (HBS.out.below HB0.out HBS.out.lt).c13
  have hltt := (HBS.out.below HB0.out HBS.out.lt).lt
  have HGXI : Hid (gx ≠ gi) := by have := HV.out.lt HROW.out; have := HGX.out; unfold Hid; omega
  have HPL : Hid ((pivRow by_ r).length = r.length) := by unfold Hid pivRow; rw [List.length_map]
  have HSB : Hid (Small by_) := by unfold Hid; rw [HBY.out]; exact small_cap _
  go_wp2_with fail
  clear x0 x4 x5 x6 x7 x8 x9 x10 x11 x12 hltt k0 hgR0
  go_loopw [37] (fun vi wr => ∃ j : Nat, j ≤ width ∧ vi = .int .i64 (j : Int) ∧ View base (upd H gi (mix (pivRow by_ r) r j)) I wr ∧ Blk wr gx 40 #[.bool (negQ by_), .slice E1 h1 i1, .slice E2 h2 i2] ∧ FQ wr (.agg #[.bool (negQ by_), .slice E1 h1 i1, .slice E2 h2 i2]) by_ ∧ ChgS base w wr) (fun vi _ => width - (intOf vi).toNat)
  case atStart => exact ⟨0, Nat.zero_le _, rfl, by rw [mix_zero, upd_same HROW.out]; exact HV0.out, HBX.out, HBQ.out, HC0.out⟩
  case round =>
   obtain ⟨j, hj, rfl, hv, hbx, hbq, hcs⟩ := hrel
   have HVj := Hd hv
   have HXj := Hd hbx
   have HQj := Hd hbq
   have HCj := Hd hcs
   clear hv hbx hbq hcs HV0 HBX HBQ HC0
   by_cases hjt : j < width
   ·have hjr : j < r.length := by have := HRL.out; omega
    obtain ⟨f, hf⟩ : ∃ x, r[j]? = some x := ⟨r[j], List.getElem?_eq_getElem hjr⟩
    have HUL : Hid (upd H gi (mix (pivRow by_ r) r j) gi = some (mix (pivRow by_ r) r j)) := upd_self _ _ _
    have HML := Hd (mix_at HPL.out hf)
    have HPT : Hid ((pivRow by_ r)[j]? = some (if f = 0 then f else mulQ f by_)) := by unfold Hid pivRow; rw [List.getElem?_map, hf]; rfl
    have HSF : Hid (Small f) := HVj.out.small HUL.out HML.out
    have HMN : Hid (j < (mix (pivRow by_ r) r j).length) := by unfold Hid; rw [mix_length HPL.out]; exact hjr
    have HFI := Hd hf
    obtain ⟨A3, n3, c3, A4, n4, c4, k0, k1, k2, HFF⟩ := HVj.out.at_ HUL.out HML.out
    have hgil := HVj.out.lt HUL.out
    have mj1 : (j : Int) < (width : Int) := by omega
    have mj3 : (j : Int).toNat = j := by omega
    have mj4 : (0 : Int) ≤ (j : Int) := by omega
    clear hf
    go_wp2_with fail
    have hbn := below_new wr (.cells #[.bool (negQ f), .slice A3 n3 c3, .slice A4 n4 c4] 40)
    have HV1 := Hd (HVj.out.below hbn)
    have HX1 := Hd (HXj.out.below hbn HXj.out.lt)
    have HQ1 := Hd (HQj.out.of_below hbn)
    have HC1 := Hd (HCj.out.trans (ChgS.of_below hbn))
    have HF1 := Hd (HFF.out.of_below hbn)
    have HY1 := Hd (Blk.new wr 40 #[.bool (negQ f), .slice A3 n3 c3, .slice A4 n4 c4])
    obtain ⟨g7, hg7⟩ : ∃ g, g = wr.heap.size := ⟨_, rfl⟩
    rw [← hg7] at HY1 ⊢
    generalize wr.alloc (.cells #[.bool (negQ f), .slice A3 n3 c3, .slice A4 n4 c4] 40) = W1 at *
    clear hg7 hbn k0 k1 k2 hgil
    refine (sgn_calls _ _ (rawQ f) (FR.of_fq HF1.out HSF.out)).mono ?_
    rintro ee w4 ⟨rfl, hb⟩
    rw [fixQ_raw _ HSF.out]
    have HV4 := Hd (HV1.out.below hb)
    have HX4 := Hd (HX1.out.below hb HX1.out.lt)
    have HQ4 := Hd (HQ1.out.of_below hb)
    have HC4 := Hd (HC1.out.trans (ChgS.of_below hb))
    have HF4 := Hd (HF1.out.of_below hb)
    have HY4 := Hd (HY1.out.below hb HY1.out.lt)
    clear hb
    by_cases fz : f = 0
    ·have u2 : (signQ f != 0) = false := beqI (signQ_zero_iff.2 fz)
     have HMX : Hid (mix (pivRow by_ r) r (j + 1) = mix (pivRow by_ r) r j) := mix_skip HPL.out (by rw [HPT.out, if_pos fz]) HFI.out
     clear fz
     go_wp2_with fail
     go_roundw
     case rel => exact ⟨j + 1, by omega, by go_num, by rw [HMX.out]; exact HV4.out, HX4.out, HQ4.out, HC4.out⟩
     case measure => simp [intOf]; omega
    ·have u2 : (signQ f != 0) = true := bneI fun e => fz (signQ_zero_iff.1 e)
     have HMX : Hid ((mix (pivRow by_ r) r j).set j (mulQ f by_) = mix (pivRow by_ r) r (j + 1)) := mix_set HPL.out (by rw [HPT.out, if_neg fz])
     clear fz
     obtain ⟨gR', eR', hgR', k9⟩ := (HT.out.chg HC4.out).2.1.at_ HGI.out
     injection eR' with eR'
     injection eR' with eR' _
     subst eR'
     have k9' : w4.cell? ⟨gR, row, none⟩ = some (.slice (some ⟨gi, 0, none⟩) width ci) := k9
     obtain ⟨x0, x4, x5, x6, x7, x8, x9, x10, x11, x12⟩ := (HBS.out.chgS HC4.out (by decide) (by decide)).c13
     have hltt := (HBS.out.chgS HC4.out (by decide) (by decide)).lt
     obtain ⟨y0, y1, y2⟩ := HY4.out.c3
     have hly := HY4.out.lt
     obtain ⟨z0, z1, z2⟩ := HX4.out.c3
     have hlx := HX4.out.lt
     clear k9
     go_wp2_with fail
     refine wp_chainF (l := [_, _, _, _, _, _, _, _, _, _, _, _, _]) (S := Below w4.heap.size w4) 11 [([0, 1, 2, 3, 4, 5, 6, 7, 8, 9], 10)] [] (by kernel_rfl) (by kernel_rfl) (by kernel_rfl) rfl (Below.drew (Below.refl _ _)) ?_
     refine ⟨?_, _, ?_, rfl, ?_⟩
     rotate_left
     ·repeat (refine pu ?_; (try simp only [SQ]))
      exact rfl
     have D0 : Hid (Below w4.heap.size w4 w4.drew) := Below.drew (Below.refl _ _)
     go_wp2_with fail
     refine (fmul_calls _ _ _ (rawQ f) (rawQ by_) (FR.of_fq (HF4.out.of_below D0.out) HSF.out) (FR.of_fq (HQ4.out.of_below D0.out) HSB.out)).mono ?_
     rintro ee w6 ⟨v, rfl, hv, hb⟩
     rw [fixQ_raw _ HSF.out, fixQ_raw _ HSB.out] at hv
     obtain ⟨D7, n9, c9, D8, n10, c10, rfl, HF6⟩ := hv.opened
     have D6 := Hd (below_next D0.out hb)
     have HV6 := Hd (HV4.out.below D6.out)
     have HX6 := Hd (HX4.out.below D6.out HX4.out.lt)
     have HQ6 := Hd (HQ4.out.of_below D6.out)
     have HC6 := Hd (HC4.out.trans (ChgS.of_below D6.out))
     clear hv hb x0 x4 x5 x6 x7 x8 x9 x10 x11 x12 hltt y0 y1 y2 hly z0 z1 z2 hlx k9' hgR'
     go_wp2_with fail
     refine And.intro D6.out ⟨_, rfl, ?_⟩
     obtain ⟨A5, n5, c5, A6, n6, c6, j0, j1, j2, _⟩ := HV6.out.at_ HUL.out HML.out
     have f0 := HV6.out.free HUL.out (j * 3)
     have f1 := HV6.out.free HUL.out (j * 3 + 1)
     have f2 := HV6.out.free HUL.out (j * 3 + 2)
     go_wp2_with fail
     refine NoPanic.normal ?_
     have hst := HV6.out.set HUL.out HMN.out (small_cap _) HF6.out (HV6.out.sep HUL.out)
     obtain ⟨cs9, hb9, _⟩ := HV6.out.blk HUL.out
     have hcs9 := ChgS.of_only hst.2 hb9 (HV6.out.ge HUL.out) (Or.inl rfl)
     have HST := Hd hst
     have HCS9 := Hd hcs9
     clear hst hcs9 hb9
     go_wp2_with fail
     go_roundw
     case rel => exact ⟨j + 1, by omega, by go_num, by rw [← HMX.out, ← upd_upd]; exact HST.out.1, HST.out.2.blk HX6.out HGXI.out, HQ6.out.keeps HST.out.2.1, HC6.out.trans HCS9.out⟩
     case measure => simp [intOf]; omega
   ·obtain rfl : j = width := by omega
    have hmx : mix (pivRow by_ r) r j = pivRow by_ r := by rw [← HRL.out]; exact mix_all HPL.out
    rw [hmx] at HVj
    clear hmx
    obtain ⟨rp, hrp⟩ : ∃ l, l = pivRow by_ r := ⟨_, rfl⟩
    have HRP := Hd hrp
    have HRPL : Hid (rp.length = j) := by unfold Hid; rw [hrp, HPL.out, HRL.out]
    rw [← hrp] at HVj
    clear hrp
    have hrl2 : row < T.right.length := by rw [HTV.out.rightLen, ← HM.out]; exact hrow'
    obtain ⟨x, hx⟩ : ∃ x, T.right[row]? = some x := ⟨T.right[row], List.getElem?_eq_getElem hrl2⟩
    have HXX := Hd hx
    have HK1 : Hid (upd H gi rp gr = some T.right) := by unfold Hid; rw [upd_ne HNE.out]; exact HGR.out
    have HSX : Hid (Small x) := HVj.out.small HK1.out hx
    obtain ⟨A3, n3, c3, A4, n4, c4, k0, k1, k2, HFX⟩ := HVj.out.at_ HK1.out hx
    have hgrl := HVj.out.lt HK1.out
    obtain ⟨x0, x4, x5, x6, x7, x8, x9, x10, x11, x12⟩ := (HBS.out.chgS HCj.out (by decide) (by decide)).c13
    have hltt := (HBS.out.chgS HCj.out (by decide) (by decide)).lt
    obtain ⟨z0, z1, z2⟩ := HXj.out.c3
    have hlx := HXj.out.lt
    clear hx
    go_wp2_with fail
    refine wp_chainF (l := [_, _, _, _, _, _, _, _, _, _, _, _, _, _, _, _]) (S := Below wr.heap.size wr) 14 [([0, 1, 2, 3, 4, 5, 6, 7, 8, 9, 10, 11, 12], 13)] [] (by kernel_rfl) (by kernel_rfl) (by kernel_rfl) rfl (Below.drew (Below.refl _ _)) ?_
    refine ⟨?_, _, ?_, rfl, ?_⟩
    rotate_left
    ·repeat (refine pu ?_; (try simp only [SQ]))
     exact rfl
    have D0 : Hid (Below wr.heap.size wr wr.drew) := Below.drew (Below.refl _ _)
    go_wp2_with fail
    refine (fmul_calls _ _ _ (rawQ x) (rawQ by_) (FR.of_fq (HFX.out.of_below D0.out) HSX.out) (FR.of_fq (HQj.out.of_below D0.out) HSB.out)).mono ?_
    rintro ee w6 ⟨v, rfl, hv, hb⟩
    rw [fixQ_raw _ HSX.out, fixQ_raw _ HSB.out] at hv
    obtain ⟨D7, n9, c9, D8, n10, c10, rfl, HF6⟩ := hv.opened
    have D6 := Hd (below_next D0.out hb)
    have HV6 := Hd (HVj.out.below D6.out)
    have HC6 := Hd (HCj.out.trans (ChgS.of_below D6.out))
    clear hv hb x0 x4 x5 x6 x7 x8 x9 x10 x11 x12 hltt z0 z1 z2 hlx k0 k1 k2 hgrl
    go_wp2_with fail
    refine And.intro D6.out ⟨_, rfl, ?_⟩
    obtain ⟨A5, n5, c5, A6, n6, c6, j0, j1, j2, _⟩ := HV6.out.at_ HK1.out HXX.out
    have f0 := HV6.out.free HK1.out (row * 3)
    have f1 := HV6.out.free HK1.out (row * 3 + 1)
    have f2 := HV6.out.free HK1.out (row * 3 + 2)
    have hgl6 := HV6.out.lt HK1.out
    go_wp2_with fail
    refine NoPanic.normal ?_
    have hst := HV6.out.set HK1.out hrl2 (small_cap _) HF6.out (HV6.out.sep HK1.out)
    obtain ⟨cs9, hb9, _⟩ := HV6.out.blk HK1.out
    have hcs9 := ChgS.of_only hst.2 hb9 (HV6.out.ge HK1.out) (Or.inl rfl)
    obtain ⟨rr, hrr⟩ : ∃ q, q = mulQ x by_ := ⟨_, rfl⟩
    have HRQ := Hd hrr
    have HV7 : Hid (View base (upd (upd H gi rp) gr (T.right.set row rr)) I (put3 w6 gr (row * 3) (.bool (negQ (capQ (x * by_)))) (.slice D7 n9 c9) (.slice D8 n10 c10))) := by unfold Hid; rw [hrr]; exact hst.1
    have HC7 := Hd (HC6.out.trans hcs9)
    obtain ⟨W7, hW7⟩ : ∃ W, W = ((w6.setCell ⟨gr, row * 3, none⟩ (.bool (negQ (capQ (x * by_))))).setCell ⟨gr, row * 3 + 1, none⟩ (.slice D7 n9 c9)).setCell ⟨gr, row * 3 + 2, none⟩ (.slice D8 n10 c10) := ⟨_, rfl⟩
    rw [show put3 w6 gr (row * 3) (.bool (negQ (capQ (x * by_)))) (.slice D7 n9 c9) (.slice D8 n10 c10) = W7 from hW7.symm] at HV7 HC7
    rw [← hW7]
    clear hst hb9 hcs9 hrr hW7 j0 j1 j2 f0 f1 f2 hgl6
    obtain ⟨x0, x4, x5, x6, x7, x8, x9, x10, x11, x12⟩ := (HBS.out.chgS HC7.out (by decide) (by decide)).c13
    have hltt := (HBS.out.chgS HC7.out (by decide) (by decide)).lt
    go_wp2_with fail
    clear x0 x4 x5 x6 x7 x8 x9 x10 x11 x12 hltt
    have HND := Hd HTV.out.nodup
    have HRA0 := Hd (ra_zero (row := row) (col := col) (rr := rr) (rows := T.rows) (right := T.right))
    have HGSL : Hid (gs.length = m) := by unfold Hid; rw [HM.out]; exact HTV.out.len
    go_loopw [78] (fun vi wr => ∃ i : Nat, i ≤ m ∧ vi = .int .i64 (i : Int) ∧ (∃ Hc, View base Hc I wr ∧ (∀ (j : Nat) (p : Nat × Nat) (x : List Rat), gs[j]? = some p → T.rows[j]? = some x → Hc p.1 = some (rowsAt row col rp i j x)) ∧ Hc gr = some (T.right.mapIdx (rightAt row col rr T.rows i)) ∧ ∀ k, k ∉ gs.map Prod.fst → k ≠ gr → Hc k = H k) ∧ ChgS base w wr) (fun vi _ => m - (intOf vi).toNat)
    case atStart =>
     refine ⟨0, Nat.zero_le _, rfl, ⟨_, HV7.out, fun k p x hk hx => ?_, by rw [upd_self, HRA0.out], fun k hk hkr => ?_⟩, HC7.out⟩
     ·have hpg : p.1 ≠ gr := fun e => HTV.out.apart gr cr _ rfl (by rw [← e]; exact key_mem hk)
      rw [upd_ne hpg]
      by_cases e : k = row
      ·subst e
       rw [HGI.out] at hk
       injection hk with hk
       subst hk
       rw [upd_self, rowsAt_row]
      ·rw [upd_ne (nodup_key HND.out hk HGI.out e), rowsAt_zero e]
       exact (HTV.out.row k p x hk hx).1
     ·rw [upd_ne hkr, upd_ne (fun e => hk (by rw [e]; exact key_mem HGI.out))]
    case round =>
     obtain ⟨i, hi, rfl, ⟨Hc, hv, hrows, hrt, hoth⟩, hcs⟩ := hrel
     have HVi := Hd hv
     have HRW := Hd hrows
     have HRT := Hd hrt
     have HOT := Hd hoth
     have HCi := Hd hcs
     clear hv hrows hrt hoth hcs HV7 HC7
     obtain ⟨x0, x4, x5, x6, x7, x8, x9, x10, x11, x12⟩ := (HBS.out.chgS HCi.out (by decide) (by decide)).c13
     have hltt := (HBS.out.chgS HCi.out (by decide) (by decide)).lt
     by_cases hlt : i < m
     ·obtain ⟨ri, hri⟩ : ∃ x, T.rows[i]? = some x := ⟨T.rows[i]'(by rw [← HM.out]; exact hlt), List.getElem?_eq_getElem _⟩
      obtain ⟨⟨gk, ck⟩, hgk⟩ : ∃ x, gs[i]? = some x := ⟨gs[i]'(by rw [HGSL.out]; exact hlt), List.getElem?_eq_getElem _⟩
      obtain ⟨cu, hcu⟩ : ∃ l, l = rowsAt row col rp i i ri := ⟨_, rfl⟩
      have HKI : Hid (Hc gk = some cu) := by unfold Hid; rw [hcu]; exact HRW.out i _ ri hgk hri
      have HRIL : Hid (ri.length = j) := (HTV.out.row i _ ri hgk hri).2
      have HCUL : Hid (cu.length = j) := by
       unfold Hid
       rw [hcu]
       by_cases e : i = row
       ·rw [e, rowsAt_row]; exact HRPL.out
       ·rw [rowsAt_here e]; exact HRIL.out
      obtain ⟨f, hf⟩ : ∃ x, cu[col]? = some x := ⟨cu[col]'(by rw [HCUL.out]; exact hcol'), List.getElem?_eq_getElem _⟩
      have HFF := Hd hf
      have HCU := Hd hcu
      have HRI := Hd hri
      have HGK := Hd hgk
      have HSF : Hid (Small f) := HVi.out.small HKI.out hf
      obtain ⟨A5, n5, c5, A6, n6, c6, k0, k1, k2, HFQ⟩ := HVi.out.at_ HKI.out hf
      have hgkl := HVi.out.lt HKI.out
      obtain ⟨gR', eR', hgR', k9⟩ := (HT.out.chg HCi.out).2.1.at_ hgk
      injection eR' with eR'
      injection eR' with eR' _
      subst eR'
      have k9' : wr.cell? ⟨gR, i, none⟩ = some (.slice (some ⟨gk, 0, none⟩) j ck) := k9
      have mi1 : (i : Int) < (m : Int) := by omega
      have mi3 : (i : Int).toNat = i := by omega
      have mi4 : (0 : Int) ≤ (i : Int) := by omega
      clear hri hgk hcu hf k9
      go_upto_region 12 with (fail)
      have hbn := below_new wr (.cells #[.bool (negQ f), .slice A5 n5 c5, .slice A6 n6 c6] 40)
      have HV1 := Hd (HVi.out.below hbn)
      have HC1 := Hd (HCi.out.trans (ChgS.of_below hbn))
      have HF1 := Hd (HFQ.out.of_below hbn)
      have HY1 := Hd (Blk.new wr 40 #[.bool (negQ f), .slice A5 n5 c5, .slice A6 n6 c6])
      obtain ⟨g7, hg7⟩ : ∃ g, g = wr.heap.size := ⟨_, rfl⟩
      have HG7 : Hid (g7 ≠ gk) := by unfold Hid; omega
      rw [← hg7] at HY1 ⊢
      generalize wr.alloc (.cells #[.bool (negQ f), .slice A5 n5 c5, .slice A6 n6 c6] 40) = W1 at *
      clear hg7 hbn k0 k1 k2 hgkl x0 x4 x5 x6 x7 x8 x9 x10 x11 x12 hltt k9' hgR'
      obtain ⟨y0, y1, y2⟩ := HY1.out.c3
      have hly := HY1.out.lt
      by_cases hir : i = row
      ·have u1 : ((i : Int) != (row : Int)) = false := beqI (by omega)
       have HIR := Hd hir
       clear hir
       go_wp2_with fail
       go_roundw
       case rel => exact ⟨i + 1, by omega, by go_num, ⟨Hc, HV1.out, fun k p x hk hx => by rw [rowsAt_same (.inl HIR.out)]; exact HRW.out k p x hk hx, by rw [ra_same (.inl HIR.out)]; exact HRT.out, HOT.out⟩, HC1.out⟩
       case measure => simp [intOf]; omega
      have u1 : ((i : Int) != (row : Int)) = true := bneI (by omega)
      have HCR : Hid (cu = ri) := by unfold Hid; rw [HCU.out, rowsAt_here hir]
      rw [HCR.out] at HKI HFF
      have HIR := Hd hir
      clear hir
      go_wp2_with fail
      refine (sgn_calls _ _ (rawQ f) (FR.of_fq HF1.out HSF.out)).mono ?_
      rintro ee w4 ⟨rfl, hb⟩
      rw [fixQ_raw _ HSF.out]
      have HV4 := Hd (HV1.out.below hb)
      have HC4 := Hd (HC1.out.trans (ChgS.of_below hb))
      have HF4 := Hd (HF1.out.of_below hb)
      have HY4 := Hd (HY1.out.below hb HY1.out.lt)
      clear hb y0 y1 y2 hly
      by_cases fz : f = 0
      ·have u2 : (signQ f != 0) = false := beqI (signQ_zero_iff.2 fz)
       have HF0 : Hid ((T.rows.getD i []).getD col 0 = 0) := by unfold Hid; rw [getD_at HRI.out, getD_at HFF.out, fz]
       clear fz
       go_wp2_with fail
       go_roundw
       case rel => exact ⟨i + 1, by omega, by go_num, ⟨Hc, HV4.out, fun k p x hk hx => by rw [rowsAt_same (.inr fun e => by subst e; rw [getD_at hx] at HF0; exact HF0.out)]; exact HRW.out k p x hk hx, by rw [ra_same (.inr HF0.out)]; exact HRT.out, HOT.out⟩, HC4.out⟩
       case measure => simp [intOf]; omega
      have u2 : (signQ f != 0) = true := bneI fun e => fz (signQ_zero_iff.1 e)
      have HF0 : Hid ((T.rows.getD i []).getD col 0 = f) := by unfold Hid; rw [getD_at HRI.out, getD_at HFF.out]
      have HFN := Hd fz
      clear fz
      have HKR : Hid (Hc gi = some rp) := by
       unfold Hid
       have := HRW.out row _ r HGI.out HRR.out
       rw [rowsAt_row] at this
       exact this
      have HKG : Hid (gk ≠ gi) := nodup_key HND.out HGK.out HGI.out HIR.out
      have HBS4 := Hd (HBS.out.chgS HC4.out (by decide) (by decide))
      obtain ⟨csk, hbk, _⟩ := HV4.out.blk HKI.out
      have hgtk : gt ≠ gk := Blk.apart HBS4.out hbk (by decide)
      obtain ⟨gR', eR', hgR', k9⟩ := (HT.out.chg HC4.out).2.1.at_ HGK.out
      injection eR' with eR'
      injection eR' with eR' _
      subst eR'
      have k9' : w4.cell? ⟨gR, i, none⟩ = some (.slice (some ⟨gk, 0, none⟩) j ck) := k9
      obtain ⟨gR', eR', _, k8⟩ := (HT.out.chg HC4.out).2.1.at_ HGI.out
      injection eR' with eR'
      injection eR' with eR' _
      subst eR'
      have k8' : w4.cell? ⟨gR, row, none⟩ = some (.slice (some ⟨gi, 0, none⟩) j ci) := k8
      have hgRk : gR ≠ gk := by
       obtain ⟨gR2, c2, cur2, e2, hb2, _⟩ | h0 := (HT.out.chg HC4.out).2.1.symm
       ·injection e2 with e2 _ _
        injection e2 with e2
        injection e2 with e2
        subst e2
        exact Blk.apart hb2 hbk (by decide)
       ·cases h0.2
      have HK9 := Hd k9'
      have HK8 := Hd k8'
      have HGTK := Hd hgtk
      have HGRK := Hd hgRk
      have HGRL := Hd hgR'
      clear k9 k8 k9' k8' hbk hgtk hgRk hgR'
      go_wp2_with fail
      refine wp_chainF (l := [_, _, _, _, _, _, _, _, _, _, _, _, _, _, _, _]) (S := Only gk w4) 16 [([0, 1, 2, 3, 4, 5, 6, 7, 8, 9, 10, 11, 12, 13, 14], 15)] [] (by kernel_rfl) (by kernel_rfl) (by kernel_rfl) rfl (Only.of_below (Below.drew (Below.refl _ _))) ?_
      refine ⟨?_, _, ?_, rfl, ?_⟩
      rotate_left
      ·repeat (refine ⟨_, ?_, rfl, Or.inl ⟨by rfl, ?_⟩, ?_⟩; rotate_left; focus (intro W hW; obtain ⟨x0, x4, x5, x6, x7, x8, x9, x10, x11, x12⟩ := (hW.blk HBS4.out HGTK.out).c13; have l0 := (hW.blk HBS4.out HGTK.out).lt; obtain ⟨y0, y1, y2⟩ := (hW.blk HY4.out HG7.out).c3; have l1 := (hW.blk HY4.out HG7.out).lt; have k9 := (only_cell hW HGRL.out HGRK.out i).trans HK9.out; have k8 := (only_cell hW HGRL.out HGRK.out row).trans HK8.out; clear hW; go_simp; try with_reducible rfl); (try simp only [SQ]))
       exact rfl
      have D0 : Hid (Below w4.heap.size w4 w4.drew) := Below.drew (Below.refl _ _)
      go_wp2_with fail
      refine (take_calls' base Hc I _ gk gi ck ci ri rp _ f j HRIL.out.symm (HV4.out.below D0.out) HKI.out HKR.out HKG.out (by rw [HRPL.out, HRIL.out]) (HF4.out.of_below D0.out) HSF.out (by rw [HRIL.out]; omega)).mono ?_
      rintro ee w5 ⟨rfl, hv5, ho5⟩
      have HV5 := Hd hv5
      have HO5 := Hd ((Only.of_below D0.out).trans ho5)
      clear hv5 ho5
      go_wp2_with fail
      refine And.intro HO5.out ⟨_, rfl, ?_⟩
      go_wp2_with fail
      refine NoPanic.normal ?_
      have HV6 := HV5
      have HC6 := Hd (HC4.out.trans (ChgS.of_only HO5.out (HV4.out.blk HKI.out).choose_spec.1 (HV4.out.ge HKI.out) (Or.inl rfl)))
      have HY6 := Hd (HO5.out.blk HY4.out HG7.out)
      have HF6 := Hd (HF4.out.keeps HO5.out.1)
      have hil2 : i < T.right.length := by rw [HTV.out.rightLen, ← HM.out]; exact hlt
      obtain ⟨y, hy⟩ : ∃ x, T.right[i]? = some x := ⟨T.right[i], List.getElem?_eq_getElem hil2⟩
      have HYY := Hd hy
      obtain ⟨RA, hRA⟩ : ∃ l, l = T.right.mapIdx (rightAt row col rr T.rows i) := ⟨_, rfl⟩
      have HRA := Hd hRA
      have HRY : Hid (RA[i]? = some y) := by unfold Hid; rw [hRA, ra_at hy, rightAt_here HIR.out]
      have HRR2 : Hid (RA[row]? = some rr) := by
       unfold Hid
       rw [hRA, ra_at HXX.out, rightAt_row]
      have HKG2 : Hid (gr ≠ gk) := fun e => HTV.out.apart gr cr _ rfl (by rw [e]; exact key_mem HGK.out)
      have HKT : Hid (upd Hc gk (takeQ f ri rp) gr = some RA) := by unfold Hid; rw [upd_ne HKG2.out, hRA]; exact HRT.out
      have HSY : Hid (Small y) := HV6.out.small HKT.out HRY.out
      have HSRR : Hid (Small rr) := HV6.out.small HKT.out HRR2.out
      have HRAL : Hid (i < RA.length) := by unfold Hid; rw [hRA, List.length_mapIdx]; exact hil2
      clear hy hRA
      obtain ⟨A7, n7, c7, A8, n8, c8, k0, k1, k2, HQY⟩ := HV6.out.at_ HKT.out HRY.out
      obtain ⟨A9, n9', c9', A10, n10', c10', l0, l1, l2, HQR⟩ := HV6.out.at_ HKT.out HRR2.out
      have hgrl := HV6.out.lt HKT.out
      obtain ⟨x0, x4, x5, x6, x7, x8, x9, x10, x11, x12⟩ := (HBS.out.chgS HC6.out (by decide) (by decide)).c13
      have hltt := (HBS.out.chgS HC6.out (by decide) (by decide)).lt
      obtain ⟨y0, y1, y2⟩ := HY6.out.c3
      have hly := HY6.out.lt
      have mr1 : (i : Int) < (T.right.length : Int) := by omega
      have mr2 : (row : Int) < (T.right.length : Int) := by omega
      go_wp2_with fail
      refine wp_chainF (l := [_, _, _, _, _, _, _, _, _, _, _, _, _, _, _, _, _, _, _, _, _, _, _, _]) (S := Below w5.heap.size w5) 22 [([0, 1, 2, 3, 4, 5, 6, 7, 8, 9, 10, 11, 12, 13, 14, 15, 16, 17, 18, 19], 20), ([], 21)] [] (by kernel_rfl) (by kernel_rfl) (by kernel_rfl) rfl (Below.drew (Below.refl _ _)) ?_
      refine ⟨?_, _, ?_, rfl, ?_⟩
      rotate_left
      ·repeat (refine pu ?_; (try simp only [SQ]))
       exact rfl
      have D0' : Hid (Below w5.heap.size w5 w5.drew) := Below.drew (Below.refl _ _)
      go_wp2_with fail
      refine (fmul_calls _ _ _ (rawQ f) (rawQ rr) (FR.of_fq (HF6.out.of_below D0'.out) HSF.out) (FR.of_fq (HQR.out.of_below D0'.out) HSRR.out)).mono ?_
      rintro ee w6' ⟨v, rfl, hv, hb⟩
      rw [fixQ_raw _ HSF.out, fixQ_raw _ HSRR.out] at hv
      have D6' := Hd (below_next D0'.out hb)
      have HM6 := Hd hv
      clear hv hb
      go_wp2_with fail
      refine And.intro D6'.out ⟨_, _, rfl, rfl, ?_⟩
      go_wp2_with fail
      refine (fsub_calls _ _ _ (rawQ y) (rawQ (capQ (f * rr))) (FR.of_fq (HQY.out.of_below D6'.out) HSY.out) (FR.of_fq HM6.out (small_cap _))).mono ?_
      rintro ee w7 ⟨v, rfl, hv, hb⟩
      rw [fixQ_raw _ HSY.out, fixQ_raw (capQ (f * rr)) (small_cap _)] at hv
      obtain ⟨G7, o9, d9, G8, o10, d10, rfl, HF7⟩ := hv.opened
      have D7' := Hd (below_next D6'.out hb)
      have HV7 := Hd (HV6.out.below D7'.out)
      have HC7 := Hd (HC6.out.trans (ChgS.of_below D7'.out))
      clear hv hb k0 k1 k2 l0 l1 l2 hgrl x0 x4 x5 x6 x7 x8 x9 x10 x11 x12 hltt y0 y1 y2 hly
      go_wp2_with fail
      refine And.intro D7'.out ⟨_, rfl, ?_⟩
      obtain ⟨A11, n11, c11, A12, n12, c12, j0, j1, j2, _⟩ := HV7.out.at_ HKT.out HRY.out
      have f0 := HV7.out.free HKT.out (i * 3)
      have f1 := HV7.out.free HKT.out (i * 3 + 1)
      have f2 := HV7.out.free HKT.out (i * 3 + 2)
      go_wp2_with fail
      refine NoPanic.normal ?_
      have hst := HV7.out.set HKT.out HRAL.out (small_cap _) HF7.out (HV7.out.sep HKT.out)
      have hcs9 := ChgS.of_only hst.2 (HV7.out.blk HKT.out).choose_spec.1 (HV7.out.ge HKT.out) (Or.inl rfl)
      have HST := Hd hst
      have HC9 := Hd (HC7.out.trans hcs9)
      have HRN : Hid (RA.set i (subQ y (mulQ f rr)) = T.right.mapIdx (rightAt row col rr T.rows (i + 1))) := by
       have := ra_step (col := col) (rr := rr) (rows := T.rows) HIR.out HYY.out (by rw [HF0.out]; exact HFN.out)
       rw [HF0.out] at this
       unfold Hid
       rw [HRA.out]
       exact this
      clear hst hcs9 j0 j1 j2 f0 f1 f2
      go_wp2_with fail
      go_roundw
      case rel =>
       refine ⟨i + 1, by omega, by go_num, ⟨_, HST.out.1, fun k p x hk hx => ?_, by rw [upd_self]; exact congrArg some HRN.out, fun k hk hkr => ?_⟩, HC9.out⟩
       ·have hpg : p.1 ≠ gr := fun e => HTV.out.apart gr cr _ rfl (by rw [← e]; exact key_mem hk)
        rw [upd_ne hpg]
        by_cases e : k = i
        ·subst e
         rw [HGK.out] at hk
         injection hk with hk
         subst hk
         rw [HRI.out] at hx
         injection hx with hx
         subst hx
         rw [upd_self, rowsAt_done HIR.out]
         unfold pivOther
         rw [getD_at HFF.out, if_neg HFN.out]
        ·rw [upd_ne (nodup_key HND.out hk HGK.out e), rowsAt_next e]
         exact HRW.out k p x hk hx
       ·rw [upd_ne hkr, upd_ne (fun e => hk (by rw [e]; exact key_mem HGK.out))]
        exact HOT.out k hk hkr
      case measure => simp [intOf]; omega
     ·obtain rfl : i = m := by omega
      have HROWS : Hid ((pivotQ T row col).rows = T.rows.mapIdx (rowsAt row col rp T.rows.length)) := by
       unfold Hid pivotQ pivNew pivBy
       rw [getD_at HRR.out, getD_at HEC.out, ← HBY.out, ← HRP.out]
      have HRIGHT : Hid ((pivotQ T row col).right = T.right.mapIdx (rightAt row col rr T.rows T.rows.length)) := by
       unfold Hid pivotQ pivBy
       rw [getD_at HRR.out, getD_at HEC.out, ← HBY.out, getD_at HXX.out, ← HRQ.out]
      have HNEW : Hid (pivNew T row col = rp) := by
       unfold Hid pivNew pivBy
       rw [getD_at HRR.out, getD_at HEC.out, ← HBY.out, ← HRP.out]
      have HKR : Hid (Hc gi = some rp) := by
       unfold Hid
       have := HRW.out row _ r HGI.out HRR.out
       rw [rowsAt_row] at this
       exact this
      have HFIN : Hid (∀ (W : World) (Hf : Nat → Option (List Rat)), View base Hf I W → ChgS base w W → (∀ k, (k ∈ gs.map Prod.fst ∨ k = gr) → Hf k = Hc k) → (∀ k, k ∉ gs.map Prod.fst → k ≠ gr → (∀ x, G ≠ some (k, x)) → Hf k = H k) → (∀ gg x, G = some (gg, x) → Hf gg = some (pivGain col rp x)) →
        PivPost base H I ⟨p0, p1, p2, p3, .slice (some ⟨gR, 0, none⟩) gs.length cR, .slice (some ⟨gr, 0, none⟩) T.right.length cr, .slice (some ⟨gb, 0, none⟩) T.base.length cb, vPlus, vMinus, real, j, vId, vTurned⟩ gs T row col G w (.returned (.tuple #[])) (W.setCell ⟨gb, row, none⟩ (.int .i64 (col : Int)))) := by
       intro W Hf hvf hcf hk ho hg
       have hrb : row < T.base.length := by rw [HTV.out.baseLen, ← HM.out]; exact hrow'
       have hst := hvf.iset (x := (col : Int)) HGB.out hrb (hvf.sepi HGB.out)
       obtain ⟨_, csb, hbb, _⟩ := hvf.int _ _ HGB.out
       refine ⟨rfl, Hf, _, hst.1, ?_, fun gg x e => by rw [HNEW.out]; exact hg gg x e, fun k hnk hng => ?_, hcf.trans (ChgS.of_only hst.2 hbb (hvf.int _ _ HGB.out).1 (Or.inr rfl)), fun k hk => upd_ne fun e => hk T.base.length cb (by rw [e])⟩
       ·have hT' := HTV.out
        refine ⟨by rw [HROWS.out, List.length_mapIdx]; exact hT'.len, fun k p q hkp hkq => ?_, hT'.nodup, ?_, by rw [HRIGHT.out, HROWS.out, List.length_mapIdx, List.length_mapIdx]; exact hT'.rightLen, ?_, by rw [HROWS.out, List.length_mapIdx]; show (T.base.set row (col : Int)).length = _; rw [List.length_set]; exact hT'.baseLen, ?_, ?_, ?_, by rw [HROWS.out, List.length_mapIdx]; exact hT'.idLen, hT'.apart⟩
        ·rw [HROWS.out, List.getElem?_mapIdx] at hkq
         cases hxk : T.rows[k]? with
         | none => rw [hxk] at hkq; simp at hkq
         | some x =>
          rw [hxk] at hkq
          have e : rowsAt row col rp T.rows.length k x = q := by simpa using hkq
          have hxl : x.length = j := (hT'.row k p x hkp hxk).2
          rw [hk p.1 (.inl (key_mem hkp)), HRW.out k p x hkp hxk, HM.out]
          refine ⟨by rw [e], ?_⟩
          rw [← e]
          unfold rowsAt
          split
          ·exact HRPL.out
          ·split
           ·unfold pivOther
            split
            ·exact hxl
            ·rw [takeQ_length (by rw [HRPL.out, hxl])]; exact hxl
           ·exact hxl
        ·rw [HRIGHT.out]
         refine .inr ⟨gr, cr, by rw [List.length_mapIdx], ?_⟩
         rw [hk gr (.inr rfl), HRT.out, HM.out]
        ·refine .inr ⟨gb, cb, by show _ = Value.slice _ (T.base.set row (col : Int)).length _; rw [List.length_set], upd_self _ _ _⟩
        ·exact VI.other hT'.plus HIA.out.1
        ·exact VI.other hT'.minus HIA.out.2.1
        ·exact VI.other hT'.id HIA.out.2.2
       ·refine ho k (fun h => hnk (.inl h)) (fun h => hnk (.inr ⟨_, _, by rw [h]⟩)) hng
      obtain ⟨b0, hb0⟩ : ∃ x, T.base[row]? = some x := ⟨T.base[row]'(by rw [HTV.out.baseLen, ← HM.out]; exact hrow'), List.getElem?_eq_getElem _⟩
      have HB0' := Hd hb0
      clear hb0
      rcases HGN.out with ⟨rfl, hG⟩ | ⟨gg, cg, gain, rfl, hgg, hgl, hgn, hgr2, hG⟩
      ·have hne : ∀ w, Sem.run Try.prog (binOp .neq 23 (.slice none 0 0) (.slice none 0 0)) w = .ok (.bool false) w := fun _ => by kernel_rfl
       obtain ⟨k0, hgbl, hfz⟩ := HVi.out.iat HGB.out HB0'.out
       have f0 := hfz row
       have HGE := Hd hG
       have mb : (row : Int) < (i : Int) := by omega
       clear hfz hG
       go_wp2_with fail
       go_end0
       exact HFIN.out wr Hc HVi.out HCi.out (fun _ _ => rfl) (fun k h1 h2 _ => HOT.out k h1 h2) (fun gg x e => by rw [HGE.out] at e; cases e)
      ·have hne : ∀ w, Sem.run Try.prog (binOp .neq 23 (.slice (some ⟨gg, 0, none⟩) j cg) (.slice none 0 0)) w = .ok (.bool true) w := fun _ => by kernel_rfl
       have HGE := Hd hG
       have HGG : Hid (gg ≠ gr) := fun e => hgr2 _ _ (by rw [e])
       have HGM := Hd hgn
       have HGL := Hd hgl
       have HCG : Hid (Hc gg = some gain) := by unfold Hid; rw [HOT.out gg hgn HGG.out]; exact hgg
       have HHG := Hd hgg
       obtain ⟨gv, hgv⟩ : ∃ x, gain[col]? = some x := ⟨gain[col]'(by rw [hgl]; exact hcol'), List.getElem?_eq_getElem _⟩
       have HGV := Hd hgv
       have HSV : Hid (Small gv) := HVi.out.small HCG.out hgv
       obtain ⟨A5, n5, c5, A6, n6, c6, k0, k1, k2, HFG⟩ := HVi.out.at_ HCG.out hgv
       have hggl := HVi.out.lt HCG.out
       clear hG hgr2 hgn hgl hgg hgv
       go_wp2_with fail
       refine (sgn_calls _ _ (rawQ gv) (FR.of_fq HFG.out HSV.out)).mono ?_
       rintro ee w4 ⟨rfl, hb⟩
       rw [fixQ_raw _ HSV.out]
       have HV4 := Hd (HVi.out.below hb)
       have HC4 := Hd (HCi.out.trans (ChgS.of_below hb))
       have HF4 := Hd (HFG.out.of_below hb)
       have j0 : w4.cell? ⟨gg, col * 3, none⟩ = _ := ((bcell hb).1 gg _ hggl).trans k0
       have j1 : w4.cell? ⟨gg, col * 3 + 1, none⟩ = _ := ((bcell hb).1 gg _ hggl).trans k1
       have j2 : w4.cell? ⟨gg, col * 3 + 2, none⟩ = _ := ((bcell hb).1 gg _ hggl).trans k2
       have hggl4 := HV4.out.lt HCG.out
       have mb : (row : Int) < (i : Int) := by omega
       clear hb k0 k1 k2 hggl x0 x4 x5 x6 x7 x8 x9 x10 x11 x12 hltt
       obtain ⟨x0, x4, x5, x6, x7, x8, x9, x10, x11, x12⟩ := (HBS.out.chgS HC4.out (by decide) (by decide)).c13
       have hltt := (HBS.out.chgS HC4.out (by decide) (by decide)).lt
       by_cases gz : gv = 0
       ·have u2 : (signQ gv != 0) = false := beqI (signQ_zero_iff.2 gz)
        have HPG : Hid (pivGain col rp gain = gain) := by unfold Hid pivGain; rw [getD_at HGV.out, if_pos gz]
        obtain ⟨k0, hgbl, hfz⟩ := HV4.out.iat HGB.out HB0'.out
        have f0 := hfz row
        clear hfz gz
        go_wp2_with fail
        go_end0
        exact HFIN.out w4 Hc HV4.out HC4.out (fun _ _ => rfl) (fun k h1 h2 _ => HOT.out k h1 h2) (fun g2 x e => by rw [HGE.out] at e; injection e with e; injection e with e1 e2; subst e1 e2; rw [HPG.out]; exact HCG.out)
       have u2 : (signQ gv != 0) = true := bneI fun e => gz (signQ_zero_iff.1 e)
       have HPG : Hid (pivGain col rp gain = takeQ gv gain rp) := by unfold Hid pivGain; rw [getD_at HGV.out, if_neg gz]
       obtain ⟨gR', eR', hgR', k9⟩ := (HT.out.chg HC4.out).2.1.at_ HGI.out
       injection eR' with eR'
       injection eR' with eR' _
       subst eR'
       have k9' : w4.cell? ⟨gR, row, none⟩ = some (.slice (some ⟨gi, 0, none⟩) j ci) := k9
       clear gz k9
       go_wp2_with fail
       refine wp_chainF (l := [_, _, _, _, _, _, _, _, _, _, _, _, _]) (S := Below w4.heap.size w4) 12 [] [0, 1, 2, 3, 4, 5, 6, 7, 8, 9, 10, 11] (by kernel_rfl) (by kernel_rfl) (by kernel_rfl) rfl (Below.drew (Below.refl _ _)) ?_
       refine ⟨?_, ?_, ?_⟩
       rotate_left
       ·repeat (refine pu ?_; (try simp only [SQ]))
        exact rfl
       have D0 : Hid (Below w4.heap.size w4 w4.drew) := Below.drew (Below.refl _ _)
       go_wp2_with fail
       refine (take_calls' base Hc I _ gg gi cg ci gain rp _ gv j HGL.out.symm (HV4.out.below D0.out) HCG.out HKR.out (fun e => HGM.out (by rw [e]; exact key_mem HGI.out)) (by rw [HRPL.out, HGL.out]) (HF4.out.of_below D0.out) HSV.out (by rw [HGL.out]; omega)).mono ?_
       rintro ee w5 ⟨rfl, hv5, ho5⟩
       have HV5 := Hd hv5
       have HC5 := Hd (HC4.out.trans (ChgS.of_only ((Only.of_below D0.out).trans ho5) (HV4.out.blk HCG.out).choose_spec.1 (HV4.out.ge HCG.out) (Or.inl rfl)))
       clear hv5 ho5 j0 j1 j2 hggl4 x0 x4 x5 x6 x7 x8 x9 x10 x11 x12 hltt k9' hgR'
       obtain ⟨x0, x4, x5, x6, x7, x8, x9, x10, x11, x12⟩ := (HBS.out.chgS HC5.out (by decide) (by decide)).c13
       have hltt := (HBS.out.chgS HC5.out (by decide) (by decide)).lt
       obtain ⟨k0, hgbl, hfz⟩ := HV5.out.iat HGB.out HB0'.out
       have f0 := hfz row
       clear hfz
       go_wp2_with fail
       refine NoPanic.normal ?_
       go_wp2_with fail
       go_end0
       refine HFIN.out w5 _ HV5.out HC5.out (fun k hk => upd_ne fun e => ?_) (fun k h1 h2 h3 => ?_) (fun g2 x e => by rw [HGE.out] at e; injection e with e; injection e with e1 e2; subst e1 e2; rw [HPG.out]; exact upd_self _ _ _)
       ·rcases hk with hk | hk
        ·exact HGM.out (by rw [← e]; exact hk)
        ·exact HGG.out (by rw [← e]; exact hk)
       ·rw [upd_ne (fun e => h3 gain (by rw [HGE.out, e]))]
        exact HOT.out k h1 h2
inductive Cont where
 | I (l : List Int)
 | B (l : List Bool)
 | R (n : Nat) (l : List (Nat × Nat))
 | F (l : List Rat)
def EBI (w : World) (vs : Array Value) (x : Int) : Prop := vs = #[.int .i64 x]
def EBG (n : Nat) (w : World) (vs : Array Value) (p : Nat × Nat) : Prop := vs = #[.slice (some ⟨p.1, 0, none⟩) n p.2]
theorem EBI.leans : Leans EBI := fun _ _ _ _ h _ => h
theorem EBG.leans (n : Nat) : Leans (EBG n) := fun _ _ _ _ h _ => h
theorem EB.leans : Leans EB := fun _ _ _ _ h _ => h
def Cont.ok (base : Nat) (w : World) (v : Value) : Cont → Prop
 | .I l => OL 1 3 EBI base w v l
 | .B l => OL 1 4 EB base w v l
 | .R n l => OL 1 23 (EBG n) base w v l
 | .F l => OL 3 40 EFQ base w v l
def Step (w w1 : World) (og : Option Nat) : Prop := Keeps w w1 ∧ (∀ k, k < w.heap.size → og ≠ some k → w1.heap[k]? = w.heap[k]?) ∧ (w.os = w1.os ∧ w.tape = w1.tape ∧ w.output = w1.output)
theorem Step.below {w w1 : World} {og : Option Nat} {B : Nat} (h : Step w w1 og) (hB : B ≤ w.heap.size) (ho : ∀ g, og = some g → B ≤ g) : Below B w w1 :=
 ⟨h.2.2.1.symm, h.2.2.2.1.symm, h.2.2.2.2.symm, h.1.1, fun g hg => h.2.1 g (Nat.lt_of_lt_of_le hg hB) fun e => Nat.not_lt.2 (ho g e) hg⟩
theorem OL.moved {α : Type} {k e : Nat} {E : World → Array Value → α → Prop} {base : Nat} {w w1 : World} {v : Value} {ys : List α} (hE : Leans E) (h : OL k e E base w v ys) (hb : ∀ g, v.ownBlock = some g → w1.heap[g]? = w.heap[g]?) (hk : Keeps w w1) : OL k e E base w1 v ys := by
 obtain ⟨xs, h1, h2⟩ := h
 refine ⟨xs, h1.move hb, fun j a hj => ?_⟩
 obtain ⟨vs, h3, h4, h5⟩ := h2 j a hj
 exact ⟨vs, h3, h4, hE _ _ _ _ h5 hk⟩
theorem Cont.ok.move {base : Nat} {w w1 : World} {v : Value} {c : Cont} (h : c.ok base w v) (hb : ∀ g, v.ownBlock = some g → w1.heap[g]? = w.heap[g]?) (hk : Keeps w w1) : c.ok base w1 v := by
 cases c with
 | I l => exact OL.moved EBI.leans h hb hk
 | B l => exact OL.moved EB.leans h hb hk
 | R n l => exact OL.moved (EBG.leans n) h hb hk
 | F l => exact OL.moved EFQ.leans h hb hk
theorem Cont.ok.lt {base : Nat} {w : World} {v : Value} {c : Cont} (h : c.ok base w v) : ∀ g, v.ownBlock = some g → base ≤ g ∧ g < w.heap.size := by
 cases c with
 | I l => exact OL.lt h
 | B l => exact OL.lt h
 | R n l => exact OL.lt h
 | F l => exact OL.lt h
theorem OL.blk {α : Type} {k e : Nat} {E : World → Array Value → α → Prop} {base : Nat} {w : World} {v : Value} {ys : List α} (h : OL k e E base w v ys) : ∀ g, v.ownBlock = some g → ∃ cs, Blk w g e cs := by
 obtain ⟨xs, ⟨_, h1⟩, _⟩ := h
 intro g hg
 rcases h1 with ⟨rfl, _⟩ | ⟨g', cap, cur, rfl, _, hk, _⟩
 ·simp [Value.ownBlock] at hg
 ·simp [Value.ownBlock] at hg
  subst hg
  exact ⟨_, hk⟩
def Cont.typ : Cont → Nat
 | .I _ => 3
 | .B _ => 4
 | .R _ _ => 23
 | .F _ => 40
theorem Cont.ok.blk {base : Nat} {w : World} {v : Value} {c : Cont} (h : c.ok base w v) : ∀ g, v.ownBlock = some g → ∃ cs, Blk w g c.typ cs := by
 cases c with
 | I l => exact OL.blk h
 | B l => exact OL.blk h
 | R n l => exact OL.blk h
 | F l => exact OL.blk h
structure Bag (base : Nat) (w : World) (L : List (Value × Cont)) : Prop where
 size : base ≤ w.heap.size
 ok : ∀ (i : Nat) (v : Value) (c : Cont), L[i]? = some (v, c) → c.ok base w v
 apart : ∀ (i j : Nat) (v : Value) (c : Cont) (v' : Value) (c' : Cont) (g : Nat), i ≠ j → L[i]? = some (v, c) → L[j]? = some (v', c') → v.ownBlock = some g → v'.ownBlock ≠ some g
section
variable {base : Nat} {w w1 : World} {L : List (Value × Cont)}
theorem Bag.moved (h : Bag base w L) (hs : w.heap.size ≤ w1.heap.size) (hk : Keeps w w1) (hb : ∀ (i : Nat) (v : Value) (c : Cont) (g : Nat), L[i]? = some (v, c) → v.ownBlock = some g → w1.heap[g]? = w.heap[g]?) : Bag base w1 L :=
 ⟨Nat.le_trans h.size hs, fun i v c hi => (h.ok i v c hi).move (fun g hg => hb i v c g hi hg) hk, h.apart⟩
theorem Bag.below (h : Bag base w L) (hb : Below w.heap.size w w1) : Bag base w1 L :=
 h.moved hb.size (Keeps.of_below hb) fun i v c g hi hg => hb.block g ((h.ok i v c hi).lt g hg).2
theorem Bag.step {i : Nat} {v v' : Value} {c c' : Cont} (h : Bag base w L) (hi : L[i]? = some (v, c)) (hs : Step w w1 v.ownBlock) (hok : c'.ok base w1 v') (hown : ∀ g, v'.ownBlock = some g → v.ownBlock = some g ∨ w.heap.size ≤ g) : Bag base w1 (L.set i (v', c')) := by
 have hil := (List.getElem?_eq_some_iff.1 hi).1
 have other : ∀ (j : Nat) (u : Value) (d : Cont), j ≠ i → L[j]? = some (u, d) → ∀ g, u.ownBlock = some g → v.ownBlock ≠ some g ∧ v'.ownBlock ≠ some g := fun j u d hj hju g hg => by
  have h1 := h.apart j i u d v c g hj hju hi hg
  refine ⟨h1, fun e => ?_⟩
  rcases hown g e with h2 | h2
  ·exact h1 h2
  ·have := ((h.ok j u d hju).lt g hg).2
   omega
 refine ⟨Nat.le_trans h.size hs.1.1, fun j u d hj => ?_, fun j k u d u' d' g hjk hj hk hg => ?_⟩
 ·by_cases e : i = j
  ·subst e
   rw [List.getElem?_set_self hil] at hj
   obtain ⟨rfl, rfl⟩ := Prod.mk.inj (Option.some.inj hj)
   exact hok
  ·rw [List.getElem?_set_ne e] at hj
   exact (h.ok j u d hj).move (fun g hg => hs.2.1 g ((h.ok j u d hj).lt g hg).2 (other j u d (fun x => e x.symm) hj g hg).1) hs.1
 ·by_cases e : i = j
  ·subst e
   rw [List.getElem?_set_self hil] at hj
   obtain ⟨rfl, rfl⟩ := Prod.mk.inj (Option.some.inj hj)
   rw [List.getElem?_set_ne hjk] at hk
   intro hg'
   exact (other k u' d' (fun x => hjk x.symm) hk g hg').2 hg
  ·rw [List.getElem?_set_ne e] at hj
   by_cases e2 : i = k
   ·subst e2
    rw [List.getElem?_set_self hil] at hk
    obtain ⟨rfl, rfl⟩ := Prod.mk.inj (Option.some.inj hk)
    exact (other j u d (fun x => e x.symm) hj g hg).2
   ·rw [List.getElem?_set_ne e2] at hk
    exact h.apart j k u d u' d' g hjk hj hk hg
theorem Bag.add {v : Value} {c : Cont} (h : Bag base w L) (hb : Below w.heap.size w w1) (hok : c.ok base w1 v) (hf : ∀ g, v.ownBlock = some g → w.heap.size ≤ g) : Bag base w1 (L ++ [(v, c)]) := by
 have h1 := h.below hb
 have last : ∀ (j : Nat) (u : Value) (d : Cont), (L ++ [(v, c)])[j]? = some (u, d) → (j < L.length ∧ L[j]? = some (u, d)) ∨ (j = L.length ∧ u = v ∧ d = c) := fun j u d hj => by
  rw [List.getElem?_append] at hj
  split at hj
  ·rename_i hl
   exact .inl ⟨hl, hj⟩
  ·have h0 : j - L.length = 0 := by
    have := (List.getElem?_eq_some_iff.1 hj).1
    simp at this
    omega
   rw [h0] at hj
   obtain ⟨rfl, rfl⟩ := Prod.mk.inj (Option.some.inj hj)
   exact .inr ⟨by omega, rfl, rfl⟩
 refine ⟨h1.size, fun j u d hj => ?_, fun j k u d u' d' g hjk hj hk hg => ?_⟩
 ·rcases last j u d hj with ⟨_, hj⟩ | ⟨_, rfl, rfl⟩
  ·exact h1.ok j u d hj
  ·exact hok
 ·have a1 := last j u d hj
  have a2 := last k u' d' hk
  clear hj hk
  rcases a1 with ⟨_, hj⟩ | ⟨e1, e2, e3⟩
  ·rcases a2 with ⟨_, hk⟩ | ⟨e1, e2, e3⟩
   ·exact h.apart j k u d u' d' g hjk hj hk hg
   ·intro e
    have := ((h.ok j u d hj).lt g hg).2
    rw [e2] at e
    have := hf g e
    omega
  ·rcases a2 with ⟨_, hk⟩ | ⟨e4, e5, e6⟩
   ·intro e
    have := ((h.ok k u' d' hk).lt g e).2
    rw [e2] at hg
    have := hf g hg
    omega
   ·exact absurd (e1.trans e4.symm) hjk
theorem Bag.other {i k t : Nat} {v : Value} {c : Cont} {cs : Array Value} (h : Bag base w L) (hi : L[i]? = some (v, c)) (hk : Blk w k t cs) (ht : t ≠ 3 ∧ t ≠ 4 ∧ t ≠ 23 ∧ t ≠ 40) : v.ownBlock ≠ some k := by
 intro e
 obtain ⟨cs', hb⟩ := (h.ok i v c hi).blk k e
 have e1 : (some (Obj.cells cs t (0, 0))) = some (.cells cs' c.typ (0, 0)) := hk.symm.trans hb
 injection e1 with e1
 injection e1 with _ e1 _
 obtain ⟨h3, h4, h23, h40⟩ := ht
 cases c with
 | I l => exact h3 e1
 | B l => exact h4 e1
 | R n l => exact h23 e1
 | F l => exact h40 e1
theorem Bag.far {k t : Nat} {cs : Array Value} (h : Bag base w L) (hk : Blk w k t cs) (ht : t ≠ 3 ∧ t ≠ 4 ∧ t ≠ 23 ∧ t ≠ 40) (hs : w.heap.size ≤ w1.heap.size) (hkp : Keeps w w1) (hb : ∀ j, j < w.heap.size → j ≠ k → w1.heap[j]? = w.heap[j]?) : Bag base w1 L :=
 h.moved hs hkp fun i v c g hi hg => hb g ((h.ok i v c hi).lt g hg).2 fun e => h.other hi hk ht (e ▸ hg)
theorem Bag.iat {i j n cap : Nat} {A : Option Addr} {l : List Int} {x : Int} (h : Bag base w L) (hi : L[i]? = some (.slice A n cap, .I l)) (hj : l[j]? = some x) : ∃ g, A = some ⟨g, 0, none⟩ ∧ g < w.heap.size ∧ w.cell? ⟨g, j, none⟩ = some (.int .i64 x) ∧ ∀ m, w.frozen? ⟨g, m, none⟩ = false := by
 obtain ⟨xs, ⟨hl, h1⟩, h2⟩ := (show OL 1 3 EBI base w (.slice A n cap) l from h.ok i _ _ hi)
 have hjl := (List.getElem?_eq_some_iff.1 hj).1
 rcases h1 with ⟨_, h0⟩ | ⟨g, cp, cur, e, hb, hk, hnc, hcm, hcs, htake, hw⟩
 ·omega
 ·injection e with e1 e2 e3
  obtain ⟨vs, h3, h4, h5⟩ := h2 j x hj
  have h5' : vs = #[.int .i64 x] := h5
  have h6 := h4 0 (.int .i64 x) (by rw [h5']; rfl)
  refine ⟨g, e1, hk.lt, hk.cell ?_, hk.frozen⟩
  rw [← htake, List.getElem?_take] at h6
  split at h6
  ·simpa using h6
  ·cases h6
theorem Bag.bat {i j n cap : Nat} {A : Option Addr} {l : List Bool} {x : Bool} (h : Bag base w L) (hi : L[i]? = some (.slice A n cap, .B l)) (hj : l[j]? = some x) : ∃ g, A = some ⟨g, 0, none⟩ ∧ g < w.heap.size ∧ w.cell? ⟨g, j, none⟩ = some (.bool x) ∧ ∀ m, w.frozen? ⟨g, m, none⟩ = false := by
 obtain ⟨xs, ⟨hl, h1⟩, h2⟩ := (show OL 1 4 EB base w (.slice A n cap) l from h.ok i _ _ hi)
 have hjl := (List.getElem?_eq_some_iff.1 hj).1
 rcases h1 with ⟨_, h0⟩ | ⟨g, cp, cur, e, hb, hk, hnc, hcm, hcs, htake, hw⟩
 ·omega
 ·injection e with e1 e2 e3
  obtain ⟨vs, h3, h4, h5⟩ := h2 j x hj
  have h5' : vs = #[.bool x] := h5
  have h6 := h4 0 (.bool x) (by rw [h5']; rfl)
  refine ⟨g, e1, hk.lt, hk.cell ?_, hk.frozen⟩
  rw [← htake, List.getElem?_take] at h6
  split at h6
  ·simpa using h6
  ·cases h6
theorem Cont.ok.slice {base : Nat} {w : World} {v : Value} {c : Cont} (h : c.ok base w v) : ∃ A n cap, v = .slice A n cap ∧ n = (match c with | .I l => l.length | .B l => l.length | .R _ l => l.length | .F l => l.length) := by
 cases c with
 | I l => obtain ⟨A, c, e, _⟩ := OL.slice h; exact ⟨A, _, c, e, rfl⟩
 | B l => obtain ⟨A, c, e, _⟩ := OL.slice h; exact ⟨A, _, c, e, rfl⟩
 | R n l => obtain ⟨A, c, e, _⟩ := OL.slice h; exact ⟨A, _, c, e, rfl⟩
 | F l => obtain ⟨A, c, e, _⟩ := OL.slice h; exact ⟨A, _, c, e, rfl⟩
theorem Bag.islice {i : Nat} {v : Value} {l : List Int} (h : Bag base w L) (hi : L[i]? = some (v, .I l)) : ∃ A c, v = .slice A l.length c := by
 obtain ⟨A, n, c, e, rfl⟩ := (h.ok i _ _ hi).slice
 exact ⟨A, c, e⟩
theorem Bag.bslice {i : Nat} {v : Value} {l : List Bool} (h : Bag base w L) (hi : L[i]? = some (v, .B l)) : ∃ A c, v = .slice A l.length c := by
 obtain ⟨A, n, c, e, rfl⟩ := (h.ok i _ _ hi).slice
 exact ⟨A, c, e⟩
theorem Bag.iset {i j n cap g : Nat} {l : List Int} {x : Int} (h : Bag base w L) (hi : L[i]? = some (.slice (some ⟨g, 0, none⟩) n cap, .I l)) (hj : j < l.length) :
  Bag base (w.setCell ⟨g, j, none⟩ (.int .i64 x)) (L.set i (.slice (some ⟨g, 0, none⟩) n cap, .I (l.set j x))) ∧ Step w (w.setCell ⟨g, j, none⟩ (.int .i64 x)) (some g) := by
 obtain ⟨xs, ⟨hl, h1⟩, h2⟩ := (show OL 1 3 EBI base w (.slice (some ⟨g, 0, none⟩) n cap) l from h.ok i _ _ hi)
 rcases h1 with ⟨e, h0⟩ | ⟨g', cp, cur, e, hb, hk, hnc, hcm, hcs, htake, hw⟩
 ·cases e
 injection e with e1 e2 e3
 injection e1 with e1
 injection e1 with e1 _ _
 subst e1
 subst e3
 have hcell : w.cell? ⟨g, j, none⟩ = some (cur[j]'(by omega)) := hk.cell (Array.getElem?_eq_getElem _)
 have hsz : w.heap.size ≤ (w.setCell ⟨g, j, none⟩ (.int .i64 x)).heap.size := by simp [World.setCell]
 have hst : Step w (w.setCell ⟨g, j, none⟩ (.int .i64 x)) (some g) :=
  ⟨Keeps.set hcell (hw _ (Array.getElem_mem _)), fun k hk' hne => Below.heap_setCell w ⟨g, j, none⟩ (.int .i64 x) k (fun e => hne (by rw [e])), rfl, rfl, rfl⟩
 refine ⟨h.step hi hst ?_ (fun g' hg' => .inl hg'), hst⟩
 show OL 1 3 EBI base _ _ (l.set j x)
 refine ⟨xs.set j (.int .i64 x), ⟨by rw [List.length_set, List.length_set]; exact hl, .inr ⟨g, cap, _, by rw [e2, List.length_set], hb, hk.put j (.int .i64 x), by rw [List.length_set]; exact hnc, hcm, by simpa using hcs, ?_, fun u hu => ?_⟩⟩, fun j' a hj' => ?_⟩
 ·rw [List.length_set, Array.toList_setIfInBounds, ← htake, List.take_set]
 ·rcases Array.mem_or_eq_of_mem_setIfInBounds hu with h | h
  ·exact hw u h
  ·rw [h]; rfl
 ·by_cases ej : j = j'
  ·subst ej
   rw [List.getElem?_set_self hj] at hj'
   obtain rfl := Option.some.inj hj'
   refine ⟨#[.int .i64 x], rfl, fun i' u hu => ?_, rfl⟩
   have hi0 : i' = 0 := by
    have := (Array.getElem?_eq_some_iff.1 hu).1
    simp at this
    omega
   subst hi0
   rw [Nat.mul_one, Nat.add_zero, List.getElem?_set_self (by omega)]
   simpa using hu
  ·rw [List.getElem?_set_ne ej] at hj'
   obtain ⟨vs, h3, h4, h5⟩ := h2 j' a hj'
   refine ⟨vs, h3, fun i' u hu => ?_, h5⟩
   have hi0 : i' = 0 := by
    have := (Array.getElem?_eq_some_iff.1 hu).1
    omega
   have := h4 i' u hu
   subst hi0
   rw [List.getElem?_set_ne (by omega)]
   exact this
end
theorem infoI : (Try.prog.info? 3).map (fun i => (i.zero, i.size, i.bytes)) = some (some (.int .i64 0), 1, 8) := by kernel_rfl
theorem infoB : (Try.prog.info? 4).map (fun i => (i.zero, i.size, i.bytes)) = some (some (.bool false), 1, 1) := by kernel_rfl
theorem infoG : (Try.prog.info? 23).map (fun i => (i.zero, i.size, i.bytes)) = some (some (.slice none 0 0), 1, 24) := by kernel_rfl
section
variable {ops : Array Oper} {rest : List Oper} {o : Oper} {a : Act} {Q : Exit → Act → World → Prop} {W : World} {base : Nat} {L : List (Value × Cont)}
theorem Step.of_grown {v : Value} {w w' : World} (h : w.grownBy w' v.ownBlock) (hk : Keeps w w') : Step w w' v.ownBlock := ⟨hk, fun k hkl hne => h.block k hkl (fun e => hne e.symm), h.os.symm, h.tape.symm, h.output.symm⟩
theorem wpl_bagI (hgd : o.guard = none) (s x : Operand) (ho : o.op = .call { callee := .builtin .append, args := #[s, x], argTypes := #[27, 27] }) (hbag : Bag base W L) (i : Nat) (v : Value) (l : List Int) (hi : L[i]? = some (v, .I l)) (hs : a.eval s = v) {g : Nat} (b : Int) (hx : a.eval x = .slice (some ⟨g, 0, none⟩) 1 1) (hk : Blk W g 3 #[.int .i64 b]) (hl : l.length ≤ 1000000000)
  (h : ∀ v' w', Bag base w' (L.set i (v', .I (l ++ [b]))) → Step W w' v.ownBlock → wpList Try.prog ops Q rest (a.put o.dst v') w') : wpList Try.prog ops Q (o :: rest) a W := by
 have h0 : OL 1 3 EBI base W v l := hbag.ok i v _ hi
 obtain ⟨xs, h1, h2⟩ := id h0
 refine wpl_appendR hgd s x 27 ho (base := base) (.int .i64 0) 8 Try.underlying27 infoI rfl (by intro u hu; simp [Value.cells] at hu; subst hu; rfl) v l.length xs hs h1 ⟨g, 0, none⟩ 1 1 [.int .i64 b] hx rfl (lit_cells hk) (by intro u hu; simp at hu; subst hu; rfl) (by intro u hu; simp at hu; subst hu; rfl) (by decide) (by omega) (by omega) hbag.size fun v' w' h3 h4 h5 h6 => h v' w' (hbag.step hi (Step.of_grown h4 h5) ?_ h6) (Step.of_grown h4 h5)
 exact OL.push1 EBI.leans (vs := #[.int .i64 b]) h1 h2 rfl rfl h5 h3
theorem wpl_bagB (hgd : o.guard = none) (s x : Operand) (ho : o.op = .call { callee := .builtin .append, args := #[s, x], argTypes := #[22, 22] }) (hbag : Bag base W L) (i : Nat) (v : Value) (l : List Bool) (hi : L[i]? = some (v, .B l)) (hs : a.eval s = v) {g : Nat} (b : Bool) (hx : a.eval x = .slice (some ⟨g, 0, none⟩) 1 1) (hk : Blk W g 4 #[.bool b]) (hl : l.length ≤ 1000000000)
  (h : ∀ v' w', Bag base w' (L.set i (v', .B (l ++ [b]))) → Step W w' v.ownBlock → wpList Try.prog ops Q rest (a.put o.dst v') w') : wpList Try.prog ops Q (o :: rest) a W := by
 have h0 : OL 1 4 EB base W v l := hbag.ok i v _ hi
 obtain ⟨xs, h1, h2⟩ := id h0
 refine wpl_appendR hgd s x 22 ho (base := base) (.bool false) 1 Try.underlying22 infoB rfl (by intro u hu; simp [Value.cells] at hu; subst hu; rfl) v l.length xs hs h1 ⟨g, 0, none⟩ 1 1 [.bool b] hx rfl (lit_cells hk) (by intro u hu; simp at hu; subst hu; rfl) (by intro u hu; simp at hu; subst hu; rfl) (by decide) (by omega) (by omega) hbag.size fun v' w' h3 h4 h5 h6 => h v' w' (hbag.step hi (Step.of_grown h4 h5) ?_ h6) (Step.of_grown h4 h5)
 exact OL.push1 EB.leans (vs := #[.bool b]) h1 h2 rfl rfl h5 h3
theorem wpl_bagG {n : Nat} (hgd : o.guard = none) (s x : Operand) (ho : o.op = .call { callee := .builtin .append, args := #[s, x], argTypes := #[119, 119] }) (hbag : Bag base W L) (i : Nat) (v : Value) (l : List (Nat × Nat)) (hi : L[i]? = some (v, .R n l)) (hs : a.eval s = v) {g : Nat} (b : Nat × Nat) (hx : a.eval x = .slice (some ⟨g, 0, none⟩) 1 1) (hk : Blk W g 23 #[.slice (some ⟨b.1, 0, none⟩) n b.2]) (hl : l.length ≤ 1000000000)
  (h : ∀ v' w', Bag base w' (L.set i (v', .R n (l ++ [b]))) → Step W w' v.ownBlock → wpList Try.prog ops Q rest (a.put o.dst v') w') : wpList Try.prog ops Q (o :: rest) a W := by
 have h0 : OL 1 23 (EBG n) base W v l := hbag.ok i v _ hi
 obtain ⟨xs, h1, h2⟩ := id h0
 refine wpl_appendR hgd s x 119 ho (base := base) (.slice none 0 0) 24 Try.underlying119 infoG rfl (by intro u hu; simp [Value.cells] at hu; subst hu; rfl) v l.length xs hs h1 ⟨g, 0, none⟩ 1 1 [.slice (some ⟨b.1, 0, none⟩) n b.2] hx rfl (lit_cells hk) (by intro u hu; simp at hu; subst hu; rfl) (by intro u hu; simp at hu; subst hu; rfl) (by decide) (by omega) (by omega) hbag.size fun v' w' h3 h4 h5 h6 => h v' w' (hbag.step hi (Step.of_grown h4 h5) ?_ h6) (Step.of_grown h4 h5)
 exact OL.push1 (EBG.leans n) (vs := #[.slice (some ⟨b.1, 0, none⟩) n b.2]) h1 h2 rfl rfl h5 h3
theorem wpl_bagF (hgd : o.guard = none) (s x : Operand) (ho : o.op = .call { callee := .builtin .append, args := #[s, x], argTypes := #[23, 23] }) (hbag : Bag base W L) (i : Nat) (v : Value) (l : List Rat) (hi : L[i]? = some (v, .F l)) (hs : a.eval s = v) {g : Nat} {b : Bool} {A1 A2 : Option Addr} {n1 c1 n2 c2 : Nat} (q : Rat) (hx : a.eval x = .slice (some ⟨g, 0, none⟩) 1 1) (hk : Blk W g 40 #[.bool b, .slice A1 n1 c1, .slice A2 n2 c2]) (hf : FQ W (.agg #[.bool b, .slice A1 n1 c1, .slice A2 n2 c2]) q) (hl : l.length ≤ 1000000000)
  (h : ∀ v' w', Bag base w' (L.set i (v', .F (l ++ [q]))) → Step W w' v.ownBlock → wpList Try.prog ops Q rest (a.put o.dst v') w') : wpList Try.prog ops Q (o :: rest) a W := by
 have h0 : OL 3 40 EFQ base W v l := hbag.ok i v _ hi
 obtain ⟨xs, h1, h2⟩ := id h0
 refine wpl_appendR hgd s x 23 ho (base := base) zeroF 56 Try.underlying23 info40z rfl (by intro u hu; simp [zeroF, Value.cells] at hu; rcases hu with rfl | rfl | rfl <;> rfl) v l.length xs hs h1 ⟨g, 0, none⟩ 1 1 [.bool b, .slice A1 n1 c1, .slice A2 n2 c2] hx rfl (lit_cells hk) (by intro u hu; simp at hu; rcases hu with rfl | rfl | rfl <;> rfl) (by intro u hu; simp at hu; rcases hu with rfl | rfl | rfl <;> rfl) (by decide) (by omega) (by omega) hbag.size fun v' w' h3 h4 h5 h6 => h v' w' (hbag.step hi (Step.of_grown h4 h5) ?_ h6) (Step.of_grown h4 h5)
 exact OL.push1 EFQ.leans (vs := #[.bool b, .slice A1 n1 c1, .slice A2 n2 c2]) h1 h2 rfl hf h5 h3
end
structure BS (w0 : World) (gp gt : Nat) (PC TC : Array Value) (L : List (Value × Cont)) (w : World) : Prop where
 bag : Bag w0.heap.size w L
 t : Blk w gt 121 TC
 p : Blk w gp 26 PC
 below : Below w0.heap.size w0 w
 gtb : w0.heap.size ≤ gt
 nw : ∀ u ∈ TC, notWord u = true
 len : TC.size = 13
theorem Blk.ne_typ {w : World} {g k t t' : Nat} {cs cs' : Array Value} (h : Blk w g t cs) (h' : Blk w k t' cs') (ht : t ≠ t') : g ≠ k := by
 rintro rfl
 have e1 : (some (Obj.cells cs t (0, 0))) = some (.cells cs' t' (0, 0)) := h.symm.trans h'
 injection e1 with e1
 injection e1 with _ e1 _
 exact ht e1
section
variable {w0 w w1 : World} {gp gt : Nat} {PC TC : Array Value} {L : List (Value × Cont)}
theorem BS.to (h : BS w0 gp gt PC TC L w) (hb : Below w.heap.size w w1) : BS w0 gp gt PC TC L w1 :=
 ⟨h.bag.below hb, h.t.below hb h.t.lt, h.p.below hb h.p.lt, below_next h.below hb, h.gtb, h.nw, h.len⟩
theorem BS.tput (h : BS w0 gp gt PC TC L w) (j : Nat) (v : Value) (hv : notWord v = true) (hj13 : j < 13) : BS w0 gp gt PC (TC.setIfInBounds j v) L (w.setCell ⟨gt, j, none⟩ v) := by
 have hj : j < TC.size := by rw [h.len]; exact hj13
 have hcell : w.cell? ⟨gt, j, none⟩ = some (TC[j]) := h.t.cell (Array.getElem?_eq_getElem hj)
 have hsz : w.heap.size ≤ (w.setCell ⟨gt, j, none⟩ v).heap.size := by simp [World.setCell]
 refine ⟨h.bag.far h.t (by decide) hsz (Keeps.set hcell (h.nw _ (Array.getElem_mem _))) fun k hk hne => Below.heap_setCell w ⟨gt, j, none⟩ v k hne, h.t.put j v, h.p.other (Blk.ne_typ h.p h.t (by decide)) v, below_put h.below _ h.gtb v, h.gtb, fun u hu => ?_, by rw [Array.size_setIfInBounds]; exact h.len⟩
 rcases Array.mem_or_eq_of_mem_setIfInBounds hu with h1 | h1
 ·exact h.nw u h1
 ·rw [h1]; exact hv
theorem BS.app {i : Nat} {v : Value} {c : Cont} {L' : List (Value × Cont)} (h : BS w0 gp gt PC TC L w) (hi : L[i]? = some (v, c)) (hb : Bag w0.heap.size w1 L') (hs : Step w w1 v.ownBlock) : BS w0 gp gt PC TC L' w1 :=
 ⟨hb, (hs.2.1 gt h.t.lt (h.bag.other hi h.t (by decide))).trans h.t, (hs.2.1 gp h.p.lt (h.bag.other hi h.p (by decide))).trans h.p,
  h.below.trans (hs.below h.below.size fun g hg => ((h.bag.ok i v c hi).lt g hg).1), h.gtb, h.nw, h.len⟩
theorem BS.iset {i j n cap g : Nat} {l : List Int} {x : Int} (h : BS w0 gp gt PC TC L w) (hi : L[i]? = some (.slice (some ⟨g, 0, none⟩) n cap, .I l)) (hj : j < l.length) : BS w0 gp gt PC TC (L.set i (.slice (some ⟨g, 0, none⟩) n cap, .I (l.set j x))) (w.setCell ⟨g, j, none⟩ (.int .i64 x)) :=
 h.app hi (h.bag.iset hi hj).1 (h.bag.iset hi hj).2
theorem BS.add {v : Value} {c : Cont} (h : BS w0 gp gt PC TC L w) (hb : Below w.heap.size w w1) (hok : c.ok w0.heap.size w1 v) (hf : ∀ g, v.ownBlock = some g → w.heap.size ≤ g) : BS w0 gp gt PC TC (L ++ [(v, c)]) w1 :=
 ⟨h.bag.add hb hok hf, h.t.below hb h.t.lt, h.p.below hb h.p.lt, below_next h.below hb, h.gtb, h.nw, h.len⟩
end
theorem Bag.isl {base : Nat} {w : World} {L : List (Value × Cont)} {i k : Nat} {v : Value} {l : List Int} (h : Bag base w L) (hi : L[i]? = some (v, .I l)) (hk : l.length = k) : ∃ A c, v = .slice A k c := by
 subst hk
 exact h.islice hi
theorem Bag.bsl {base : Nat} {w : World} {L : List (Value × Cont)} {i k : Nat} {v : Value} {l : List Bool} (h : Bag base w L) (hi : L[i]? = some (v, .B l)) (hk : l.length = k) : ∃ A c, v = .slice A k c := by
 subst hk
 exact h.bslice hi
def SameT (gt : Nat) (w W : World) : Prop := ∀ o, W.cell? ⟨gt, o, none⟩ = w.cell? ⟨gt, o, none⟩
theorem SameT.of_below {gt : Nat} {w W : World} (hb : Below w.heap.size w W) (hlt : gt < w.heap.size) : SameT gt w W := fun o => (bcell hb).1 gt o hlt
theorem SameT.of_blk {gt t : Nat} {cs : Array Value} {w W : World} (h : Blk w gt t cs) (h' : Blk W gt t cs) : SameT gt w W := fun o => World.cell?_of_block (a := ⟨gt, o, none⟩) (h'.trans h.symm)
theorem SameT.of_step {gt : Nat} {og : Option Nat} {w W : World} (hs : Step w W og) (hlt : gt < w.heap.size) (hne : og ≠ some gt) : SameT gt w W := fun o => World.cell?_of_block (a := ⟨gt, o, none⟩) (hs.2.1 gt hlt hne)
def Same2 (gt gs : Nat) (w W : World) : Prop := SameT gt w W ∧ SameT gs w W
theorem Bag.ne_own {base : Nat} {w : World} {L : List (Value × Cont)} {i j n c g : Nat} {v : Value} {d d' : Cont} (h : Bag base w L) (hij : i ≠ j) (hi : L[i]? = some (v, d)) (hj : L[j]? = some (.slice (some ⟨g, 0, none⟩) n c, d')) : v.ownBlock ≠ some g := fun e => h.apart j i _ _ _ _ g hij.symm hj hi rfl e
theorem Bag.own_lt {base : Nat} {w : World} {L : List (Value × Cont)} {i n c g : Nat} {d : Cont} (h : Bag base w L) (hi : L[i]? = some (.slice (some ⟨g, 0, none⟩) n c, d)) : g < w.heap.size := ((h.ok i _ _ hi).lt g rfl).2
theorem Bag.ne_typ {base : Nat} {w : World} {L : List (Value × Cont)} {i k t : Nat} {v : Value} {c : Cont} {cs : Array Value} (h : Bag base w L) (hi : L[i]? = some (v, c)) (hk : Blk w k t cs) (ht : c.typ ≠ t) : v.ownBlock ≠ some k := by
 intro e
 obtain ⟨cs', hb⟩ := (h.ok i v c hi).blk k e
 exact Blk.ne_typ hb hk ht rfl
theorem Bag.tail {base : Nat} {w : World} {x : Value × Cont} {L : List (Value × Cont)} (h : Bag base w (x :: L)) : Bag base w L :=
 ⟨h.size, fun i v c hi => h.ok (i + 1) v c (by simpa using hi), fun i j v c v' c' g hij hi hj hg => h.apart (i + 1) (j + 1) v c v' c' g (by omega) (by simpa using hi) (by simpa using hj) hg⟩
theorem Bag.cons {base : Nat} {w : World} {v : Value} {c : Cont} {L : List (Value × Cont)} (h : Bag base w L) (hok : c.ok base w v) (hn : ∀ (i : Nat) (v' : Value) (c' : Cont) (g : Nat), L[i]? = some (v', c') → v.ownBlock = some g → v'.ownBlock ≠ some g) : Bag base w ((v, c) :: L) := by
 refine ⟨h.size, fun i u d hi => ?_, fun i j u d u' d' g hij hi hj hg => ?_⟩
 ·cases i with
  | zero => obtain ⟨rfl, rfl⟩ := Prod.mk.inj (Option.some.inj hi); exact hok
  | succ k => exact h.ok k u d (by simpa using hi)
 ·cases i with
  | zero =>
   obtain ⟨rfl, rfl⟩ := Prod.mk.inj (Option.some.inj hi)
   cases j with
   | zero => exact absurd rfl hij
   | succ k => exact hn k u' d' g (by simpa using hj) hg
  | succ k =>
   cases j with
   | zero =>
    obtain ⟨rfl, rfl⟩ := Prod.mk.inj (Option.some.inj hj)
    intro e
    exact hn k u d g (by simpa using hi) e hg
   | succ k' => exact h.apart k k' u d u' d' g (by omega) (by simpa using hi) (by simpa using hj) hg
theorem BS.tail {w0 w : World} {gp gt : Nat} {PC TC : Array Value} {x : Value × Cont} {L : List (Value × Cont)} (h : BS w0 gp gt PC TC (x :: L) w) : BS w0 gp gt PC TC L w := ⟨h.bag.tail, h.t, h.p, h.below, h.gtb, h.nw, h.len⟩
theorem BS.cons {w0 w : World} {gp gt : Nat} {PC TC : Array Value} {v : Value} {c : Cont} {L : List (Value × Cont)} (h : BS w0 gp gt PC TC L w) (hok : c.ok w0.heap.size w v) (hn : ∀ (i : Nat) (v' : Value) (c' : Cont) (g : Nat), L[i]? = some (v', c') → v.ownBlock = some g → v'.ownBlock ≠ some g) : BS w0 gp gt PC TC ((v, c) :: L) w := ⟨h.bag.cons hok hn, h.t, h.p, h.below, h.gtb, h.nw, h.len⟩
structure Same3 (a b c : Nat) (w W : World) : Prop where
 h1 : SameT a w W
 h2 : SameT b w W
 h3 : SameT c w W
theorem SameT.trans {a : Nat} {w V W : World} (h : SameT a w V) (h' : SameT a V W) : SameT a w W := fun o => (h' o).trans (h o)
theorem Same3.next {a b c : Nat} {w V W : World} (h : Same3 a b c w V) (h1 : SameT a V W) (h2 : SameT b V W) (h3 : SameT c V W) : Same3 a b c w W := ⟨h.h1.trans h1, h.h2.trans h2, h.h3.trans h3⟩
def Cont.fr : Cont → Option (List Rat)
 | .F l => some l
 | _ => none
def Cont.it : Cont → Option (List Int)
 | .I l => some l
 | _ => none
def bagH (L : List (Value × Cont)) (g : Nat) : Option (List Rat) := L.findSome? fun e => if e.1.ownBlock = some g then e.2.fr else none
def bagN (L : List (Value × Cont)) (g : Nat) : Option (List Int) := L.findSome? fun e => if e.1.ownBlock = some g then e.2.it else none
theorem findSome_at {α β : Type} {f : α → Option β} : ∀ {L : List α} {i : Nat} {x : α}, L[i]? = some x → (∀ j y, j ≠ i → L[j]? = some y → f y = none) → L.findSome? f = f x
 | [], i, x, h, _ => by simp at h
 | a :: L, 0, x, h, ho => by
  obtain rfl : a = x := by simpa using h
  rw [List.findSome?_cons]
  cases hf : f a with
  | some b => rfl
  | none =>
   show L.findSome? f = none
   rw [List.findSome?_eq_none_iff]
   intro y hy
   obtain ⟨j, hj⟩ := List.getElem?_of_mem hy
   exact ho (j + 1) y (by omega) (by simpa using hj)
 | a :: L, i + 1, x, h, ho => by
  rw [List.findSome?_cons, ho 0 a (by omega) rfl]
  exact findSome_at (i := i) (by simpa using h) fun j y hj hy => ho (j + 1) y (by omega) (by simpa using hy)
section
variable {base : Nat} {w : World} {L : List (Value × Cont)}
theorem Bag.h_at (h : Bag base w L) {i : Nat} {v : Value} {c : Cont} {g : Nat} (hi : L[i]? = some (v, c)) (hg : v.ownBlock = some g) : bagH L g = c.fr := by
 unfold bagH
 rw [findSome_at hi fun j y hj hy => if_neg (h.apart i j v c y.1 y.2 g (fun e => hj e.symm) hi hy hg), if_pos hg]
theorem Bag.n_at (h : Bag base w L) {i : Nat} {v : Value} {c : Cont} {g : Nat} (hi : L[i]? = some (v, c)) (hg : v.ownBlock = some g) : bagN L g = c.it := by
 unfold bagN
 rw [findSome_at hi fun j y hj hy => if_neg (h.apart i j v c y.1 y.2 g (fun e => hj e.symm) hi hy hg), if_pos hg]
theorem bagH_inv {g : Nat} {qs : List Rat} (h : bagH L g = some qs) : ∃ (i : Nat) (v : Value), L[i]? = some (v, Cont.F qs) ∧ v.ownBlock = some g := by
 unfold bagH at h
 obtain ⟨e, he, h⟩ := List.exists_of_findSome?_eq_some h
 split at h
 ·rename_i hg
  obtain ⟨v, c⟩ := e
  obtain ⟨i, hi⟩ := List.getElem?_of_mem he
  cases c with
  | F l => exact ⟨i, v, by rw [hi, show l = qs from Option.some.inj h], hg⟩
  | I l => cases h
  | B l => cases h
  | R n l => cases h
 ·cases h
theorem bagN_inv {g : Nat} {l : List Int} (h : bagN L g = some l) : ∃ (i : Nat) (v : Value), L[i]? = some (v, Cont.I l) ∧ v.ownBlock = some g := by
 unfold bagN at h
 obtain ⟨e, he, h⟩ := List.exists_of_findSome?_eq_some h
 split at h
 ·rename_i hg
  obtain ⟨v, c⟩ := e
  obtain ⟨i, hi⟩ := List.getElem?_of_mem he
  cases c with
  | I m => exact ⟨i, v, by rw [hi, show m = l from Option.some.inj h], hg⟩
  | F l => cases h
  | B l => cases h
  | R n l => cases h
 ·cases h
theorem irow_of {v : Value} {l : List Int} {g : Nat} (h : OL 1 3 EBI base w v l) (hg : v.ownBlock = some g) : base ≤ g ∧ IRow w g l := by
 obtain ⟨xs, ⟨hl, h1⟩, h2⟩ := h
 rcases h1 with ⟨rfl, _⟩ | ⟨g', cap, cur, rfl, hb, hk, hnc, hcm, hcs, htake, hw⟩
 ·simp [Value.ownBlock] at hg
 ·obtain rfl : g' = g := by simpa [Value.ownBlock] using hg
  refine ⟨hb, cur, hk, hw, fun j x hj => ?_⟩
  obtain ⟨vs, h3, h4, h5⟩ := h2 j x hj
  have h5' : vs = #[.int .i64 x] := h5
  have h6 := h4 0 (.int .i64 x) (by rw [h5']; rfl)
  rw [← htake, List.getElem?_take] at h6
  split at h6
  ·simpa using h6
  ·cases h6
theorem frow_of {v : Value} {qs : List Rat} {g : Nat} (h : OL 3 40 EFQ base w v qs) (hg : v.ownBlock = some g) : base ≤ g ∧ RowV w g qs := by
 obtain ⟨A, c, rfl, _⟩ := OL.slice h
 obtain ⟨xs, ⟨hl, h1⟩, h2⟩ := id h
 rcases h1 with ⟨e, _⟩ | ⟨g', cap, cur, e, _⟩
 ·rw [e] at hg; simp [Value.ownBlock] at hg
 ·injection e with e1 e2 e3
  subst e1
  obtain rfl : g' = g := by simpa [Value.ownBlock] using hg
  have := QO.v h
  exact ⟨this.2, this.1⟩
theorem Bag.view (h : Bag base w L) (hs : ∀ (i : Nat) (v : Value) (qs : List Rat), L[i]? = some (v, .F qs) → ∀ q ∈ qs, Small q) : View base (bagH L) (bagN L) w := by
 refine ⟨h.size, fun g qs hg => ?_, fun g l hg => ?_⟩
 ·obtain ⟨i, v, hi, ho⟩ := bagH_inv hg
  have := frow_of (show OL 3 40 EFQ base w v qs from h.ok i v _ hi) ho
  exact ⟨this.1, hs i v qs hi, this.2⟩
 ·obtain ⟨i, v, hi, ho⟩ := bagN_inv hg
  exact irow_of (show OL 1 3 EBI base w v l from h.ok i v _ hi) ho
theorem Bag.vh (h : Bag base w L) {i : Nat} {v : Value} {qs : List Rat} (hi : L[i]? = some (v, .F qs)) : VH (bagH L) v qs := by
 obtain ⟨xs, ⟨hl, h1⟩, h2⟩ := (show OL 3 40 EFQ base w v qs from h.ok i _ _ hi)
 rcases h1 with ⟨e, h0⟩ | ⟨g, cap, cur, e, _⟩
 ·exact .inl ⟨List.eq_nil_of_length_eq_zero h0, e⟩
 ·exact .inr ⟨g, cap, e, h.h_at hi (by rw [e]; rfl)⟩
theorem Bag.vi (h : Bag base w L) {i : Nat} {v : Value} {l : List Int} (hi : L[i]? = some (v, .I l)) : VI (bagN L) v l := by
 obtain ⟨xs, ⟨hl, h1⟩, h2⟩ := (show OL 1 3 EBI base w v l from h.ok i _ _ hi)
 rcases h1 with ⟨e, h0⟩ | ⟨g, cap, cur, e, _⟩
 ·exact .inl ⟨List.eq_nil_of_length_eq_zero h0, e⟩
 ·exact .inr ⟨g, cap, e, h.n_at hi (by rw [e]; rfl)⟩
theorem Bag.vrows (h : Bag base w L) {i n : Nat} {v : Value} {gs : List (Nat × Nat)} (hi : L[i]? = some (v, .R n gs)) : VRows w v n gs := by
 obtain ⟨xs, ⟨hl, h1⟩, h2⟩ := (show OL 1 23 (EBG n) base w v gs from h.ok i _ _ hi)
 rcases h1 with ⟨e, h0⟩ | ⟨g, cap, cur, e, hb, hk, hnc, hcm, hcs, htake, hw⟩
 ·exact .inl ⟨List.eq_nil_of_length_eq_zero h0, e⟩
 ·refine .inr ⟨g, cap, cur, e, hk, fun j p hj => ?_⟩
  obtain ⟨vs, h3, h4, h5⟩ := h2 j p hj
  have h5' : vs = #[.slice (some ⟨p.1, 0, none⟩) n p.2] := h5
  have h6 := h4 0 _ (by rw [h5']; rfl)
  rw [← htake, List.getElem?_take] at h6
  split at h6
  ·simpa using h6
  ·cases h6
theorem Bag.fro (h : Bag base w L) {i : Nat} {v : Value} {bs : List Bool} (hi : L[i]? = some (v, .B bs)) : FrO 0 w v bs := by
 have h0 : OL 1 4 EB base w v bs := h.ok i _ _ hi
 exact ⟨OL.sl h0, fun g hg _ => .inr (OL.blk h0 g hg)⟩
end
def enterQ (gain : List Rat) (k : Nat) : Option Nat := (List.range k).find? fun c => decide (0 < gain.getD c 0)
noncomputable def leaveStep (T : Tab) (col i : Nat) (acc : Option (Nat × Rat)) : Option (Nat × Rat) :=
 if (T.rows.getD i []).getD col 0 ≤ 0 then acc
 else match acc with
  | none => some (i, quoQ (T.right.getD i 0) ((T.rows.getD i []).getD col 0))
  | some (r, l) => if 0 < ordQ (quoQ (T.right.getD i 0) ((T.rows.getD i []).getD col 0)) l ∨ (ordQ (quoQ (T.right.getD i 0) ((T.rows.getD i []).getD col 0)) l = 0 ∧ T.base.getD r 0 < T.base.getD i 0) then acc else some (i, quoQ (T.right.getD i 0) ((T.rows.getD i []).getD col 0))
noncomputable def leaveN (T : Tab) (col : Nat) : Nat → Option (Nat × Rat)
 | 0 => none
 | i + 1 => leaveStep T col i (leaveN T col i)
noncomputable def climbQ (k : Nat) : Nat → Tab → List Rat → Option (Int × Tab × List Rat)
 | 0, _, _ => none
 | n + 1, T, g =>
  match enterQ g k with
  | none => some (-1, T, g)
  | some col =>
   match leaveN T col T.rows.length with
   | none => some ((col : Int), T, g)
   | some (row, _) => climbQ k n (pivotQ T row col) (pivGain col (pivNew T row col) g)
theorem enterQ_none {gain : List Rat} {k : Nat} (h : ∀ c, c < k → ¬ 0 < gain.getD c 0) : enterQ gain k = none := by
 unfold enterQ
 rw [List.find?_eq_none]
 intro c hc
 rw [decide_eq_true_eq]
 exact h c (List.mem_range.1 hc)
theorem enterQ_some {gain : List Rat} {k c : Nat} (hc : c < k) (hg : 0 < gain.getD c 0) (h : ∀ d, d < c → ¬ 0 < gain.getD d 0) : enterQ gain k = some c := by
 unfold enterQ
 rw [List.find?_eq_some_iff_getElem]
 refine ⟨decide_eq_true hg, c, by simpa using hc, by simp, fun j hj => ?_⟩
 simp only [List.getElem_range, Bool.not_eq_true', decide_eq_false_iff_not]
 exact h j hj
theorem leaveN_at {T : Tab} {col : Nat} : ∀ {i row : Nat} {l : Rat}, leaveN T col i = some (row, l) → row < i ∧ 0 < (T.rows.getD row []).getD col 0 ∧ Small l
 | 0, row, l, h => by simp [leaveN] at h
 | i + 1, row, l, h => by
  unfold leaveN leaveStep at h
  have ih := @leaveN_at T col i
  split at h
  ·obtain ⟨h1, h2⟩ := ih h
   exact ⟨by omega, h2⟩
  ·rename_i hpos
   have hpos' : 0 < (T.rows.getD i []).getD col 0 := Rat.not_le.1 hpos
   split at h
   ·injection h with h
    injection h with h1 h2
    subst h1 h2
    exact ⟨Nat.lt_succ_self _, hpos', small_cap _⟩
   ·rename_i r l' e
    split at h
    ·obtain ⟨h1, h2⟩ := ih h
     exact ⟨by omega, h2⟩
    ·injection h with h
     injection h with h1 h2
     subst h1 h2
     exact ⟨Nat.lt_succ_self _, hpos', small_cap _⟩
theorem num_neg {q : Rat} : q.num < 0 ↔ q < 0 := by
 have := @Rat.num_nonneg q
 constructor
 ·intro h1; exact Rat.not_le.1 (fun h2 => by have := this.2 h2; omega)
 ·intro h1; exact Int.not_le.1 (fun h2 => Rat.not_le.2 h1 (this.1 h2))
theorem signQ_pos {q : Rat} : 0 < signQ q ↔ 0 < q := by
 unfold signQ
 by_cases h0 : q.num = 0
 ·rw [if_pos h0, Rat.num_eq_zero.1 h0]
  exact ⟨fun h => by omega, fun h => absurd h (Rat.not_lt.2 Rat.le_refl)⟩
 ·rw [if_neg h0]
  by_cases h1 : q.num < 0
  ·rw [if_pos h1]
   exact ⟨fun h => by omega, fun h => absurd (num_neg.1 h1) (Rat.not_lt.2 (Rat.le_of_lt h))⟩
  ·rw [if_neg h1]
   have h2 : 0 ≤ q := Rat.num_nonneg.1 (by omega)
   have h3 : q ≠ 0 := fun e => h0 (Rat.num_eq_zero.2 e)
   exact ⟨fun _ => Rat.lt_of_le_of_ne h2 (fun e => h3 e.symm), fun _ => by omega⟩
theorem signQ_nonpos {q : Rat} : signQ q ≤ 0 ↔ q ≤ 0 := by
 have := @signQ_pos q
 constructor
 ·intro h; exact Rat.not_lt.1 fun hl => by have := this.2 hl; omega
 ·intro h; exact Int.not_lt.1 fun hl => Rat.not_lt.2 h (this.1 hl)
end Go.Proofs.Ytfhambfgjigneaa

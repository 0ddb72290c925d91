/- Contracts of Go functions that the statement reaches, proved by walking their text, and plain laws over them (texts put together). -/
import Derived.Test.YtfhambfgjigneaaKS6
import Derived.Test.YtfhambfgjigneaaKS5
import Derived.Test.YtfhambfgjigneaaKS11
import Derived.Test.YtfhambfgjigneaaKS9
import Derived.Test.YtfhambfgjigneaaKS10
set_option linter.unusedVariables false
set_option linter.unusedSimpArgs false
set_option maxHeartbeats 64000000
set_option maxRecDepth 100000
namespace Go.Proofs.Ytfhambfgjigneaa
open Go.RowKit
theorem raw_words {n : Nat} {q : Rat} (h : FitQ n q) : wordF n (rawQ q) = true := by
 unfold wordF rawQ
 simp only [Bool.and_eq_true, decide_eq_true_eq]
 exact h
theorem holds_back {s : Int} {a b : Rat} (hs : -1 ≤ s ∧ s ≤ 1) (h0 : s = 0 → a = b) (h1 : s = -1 → a ≤ b) (h2 : s = 1 → b ≤ a) : holdsB s a b = true := by
 unfold holdsB
 simp only [Bool.or_eq_true, Bool.and_eq_true, decide_eq_true_eq]
 by_cases e : a = b
 ·exact Or.inl (ord_zero.2 e)
 ·right
  rcases (show s = 0 ∨ s = -1 ∨ s = 1 by omega) with h | h | h
  ·exact absurd (h0 h) e
  ·exact ⟨by omega, by rw [h]; exact ord_m1.2 (by have := h1 h; grind)⟩
  ·exact ⟨by omega, by rw [h]; exact ord_p1.2 (by have := h2 h; grind)⟩
section
variable {p : ProgF} {c : CertF} {x : List RawF} {cm k : Nat}
theorem fits_back (hp : withinB p 20 30 = true) (hx : wordsB x k = true) (hk1 : 1 ≤ k) (hk : k ≤ 31) (hr : rightP p = 0) (hl : (x.length : Int) = p.vars) (hF : FitsN p p.vars.toNat (vecA x)) : fitsP p x = true := by
 obtain ⟨_, _, _, _, _, h6⟩ := withinB_ok hp
 have hrl := rightP_len hr
 unfold fitsP fitsB
 simp only [Bool.and_eq_true, decide_eq_true_eq]
 refine ⟨hr, ⟨hl, ?_⟩, List.all_eq_true.2 fun r hm => ?_⟩
 ·unfold signedB
  refine zip_all_true fun v b q h1 h2 => ?_
  cases b with
  | true => rfl
  | false =>
   have hv : v < p.vars.toNat := by have := (List.getElem?_eq_some_iff.1 h1).1; omega
   have h3 := hF.sg v hv (by unfold freeAt; rw [List.getD_eq_getElem?_getD, h1]; rfl)
   have h4 : vecA x v = q := by unfold vecA; rw [List.getD_eq_getElem?_getD, h2]; rfl
   rw [h4] at h3
   simp only [Bool.false_or, Bool.not_eq_true', decide_eq_false_iff_not, signQ_ord, ord_neg]
   exact Rat.not_lt.2 h3
 ·unfold rowHolds
  rw [cap_row hp hx hk1 hk hr hl (hrl.2.2.2.2.2 r hm).1 (h6 r hm).2.1]
  obtain ⟨h1, h2, h3⟩ := hF.rows r hm
  exact holds_back (hrl.2.2.2.2.2 r hm).2 h1 h2 h3
theorem goes_n (hp : withinB p 20 30 = true) (hx : wordsB x k = true) (hk1 : 1 ≤ k) (hk : k ≤ 31) (hr : rightP p = 0) (h : goesB p x = true) : (x.length : Int) = p.vars ∧ (∀ v, v < p.vars.toNat → freeAt p v = false → 0 ≤ vecA x v) ∧ (∀ r, r ∈ p.rows → (r.s = 0 → sumN (fun v => fixQ (nthF r.a v) * vecA x v) p.vars.toNat = 0) ∧ (r.s = -1 → sumN (fun v => fixQ (nthF r.a v) * vecA x v) p.vars.toNat ≤ 0) ∧ (r.s = 1 → 0 ≤ sumN (fun v => fixQ (nthF r.a v) * vecA x v) p.vars.toNat)) ∧ 0 < sumN (fun v => fixQ (nthF p.goal v) * vecA x v) p.vars.toNat := by
 obtain ⟨_, _, _, _, _, h6⟩ := withinB_ok hp
 have hrl := rightP_len hr
 unfold goesB at h
 simp only [Bool.and_eq_true, decide_eq_true_eq] at h
 obtain ⟨hl, hs, hrows, hg⟩ := h
 rw [value_n hp hx hk1 hk hr hl, signQ_ord, gt_iff_lt, ord_pos] at hg
 refine ⟨hl, signed_n hrl.1 (by omega) rfl hs, fun r hm => ?_, hg⟩
 have h1 := List.all_eq_true.1 hrows r hm
 unfold rowGoes at h1
 rw [cap_row hp hx hk1 hk hr hl (hrl.2.2.2.2.2 r hm).1 (h6 r hm).2.1] at h1
 exact holds_n h1
theorem value_fit (hp : withinB p 20 30 = true) (hx : wordsB x k = true) (hk1 : 1 ≤ k) : FitQ (20 * (6 + k + 1) + 1) (dotQ (p.goal.map fixQ) (x.map fixQ)) := by
 obtain ⟨_, _, _, h4, h5, _⟩ := withinB_ok hp
 exact dotQ_fits (fit_list h5 (by decide)) (fit_list hx hk1) (by rw [List.length_map]; exact h4)
noncomputable def wayQ (t : RawF) (x ray : List RawF) : List Rat := List.zipWith (fun a b => capQ (fixQ a + capQ (fixQ t * fixQ b))) x ray
theorem endless_plain (hp : withinB p 20 30 = true) (hc : certB c cm = true) {t : RawF} (ht : wordsB [t] 6 = true) (hs : ¬ signQ (fixQ t) < 0) (hk : c.kind = 3) (h : judgeB p c = true) :
  fitsP p ((wayQ t c.x c.ray).map rawQ) = true ∧ ordQ (capQ (valueP p ((wayQ t c.x c.ray).map rawQ) + -(valueP p c.x))) (capQ (fixQ t * valueP p c.ray)) = 0 ∧ signQ (valueP p c.ray) > 0 ∧ c.x.length ≤ c.ray.length := by
 unfold judgeB at h
 by_cases hr : rightP p = 0
 case neg => rw [if_pos hr] at h; cases h
 rw [if_neg (show ¬ rightP p ≠ 0 from fun h => h hr), if_neg (by omega), if_neg (by omega), if_pos hk] at h
 simp only [Bool.and_eq_true] at h
 obtain ⟨_, hxw, _, hrw⟩ := certB_ok hc
 obtain ⟨hl, hF⟩ := fits_n hp hxw (by decide) (by decide) hr h.1
 obtain ⟨hl2, g1, g2, g3⟩ := goes_n hp hrw (by decide) (by decide) hr h.2
 have ht6 := fit_list ht (by decide) (fixQ t) (by simp)
 rw [signQ_ord, ord_neg, Rat.not_lt] at hs
 have hyl : (((wayQ t c.x c.ray).map rawQ).length : Int) = p.vars := by unfold wayQ; rw [List.length_map, List.length_zipWith]; omega
 have hel : ∀ (v : Nat) a b, c.x[v]? = some a → c.ray[v]? = some b → FitQ 31 (fixQ a + fixQ t * fixQ b) ∧ capQ (fixQ a + capQ (fixQ t * fixQ b)) = fixQ a + fixQ t * fixQ b := fun v a b h1 h2 => by
  have f1 := fit_words (List.all_eq_true.1 hxw a (List.mem_of_getElem? h1)) (by decide)
  have f2 := fit_words (List.all_eq_true.1 hrw b (List.mem_of_getElem? h2)) (by decide)
  have f3 := fit_mul ht6 f2 (Nat.le_refl _)
  have f4 := fit_add f1 f3 (Nat.le_refl _)
  exact ⟨f4, by rw [capQ_fits (Nat.le_trans f3.size (by decide)), capQ_fits (Nat.le_trans f4.size (by decide))]⟩
 have hat : ∀ v, v < p.vars.toNat → ∃ a b, c.x[v]? = some a ∧ c.ray[v]? = some b := fun v hv => ⟨_, _, List.getElem?_eq_getElem (by omega), List.getElem?_eq_getElem (by omega)⟩
 have hv : ∀ v, v < p.vars.toNat → vecA ((wayQ t c.x c.ray).map rawQ) v = vecA c.x v + fixQ t * vecA c.ray v := fun v hv => by
  obtain ⟨a, b, h1, h2⟩ := hat v hv
  obtain ⟨f1, f2⟩ := hel v a b h1 h2
  unfold vecA wayQ
  simp only [List.getD_eq_getElem?_getD, List.getElem?_map, List.getElem?_zipWith, h1, h2, Option.map_some, Option.getD_some]
  rw [f2, fixQ_raw _ (Nat.le_trans f1.size (by decide))]
 have hyw : wordsB ((wayQ t c.x c.ray).map rawQ) 31 = true := by
  unfold wordsB
  rw [List.all_eq_true]
  intro f hf
  obtain ⟨q, hq, rfl⟩ := List.mem_map.1 hf
  obtain ⟨v, hvl, rfl⟩ := List.getElem_of_mem hq
  have hvn : v < p.vars.toNat := by rw [List.length_map] at hyl; omega
  obtain ⟨a, b, h1, h2⟩ := hat v hvn
  obtain ⟨f1, f2⟩ := hel v a b h1 h2
  have e : (wayQ t c.x c.ray)[v] = fixQ a + fixQ t * fixQ b := by
   rw [← f2]
   have := List.getElem?_eq_getElem hvl
   unfold wayQ at this ⊢
   rw [List.getElem?_zipWith, h1, h2] at this
   exact (Option.some.inj this).symm
  rw [e]
  exact raw_words f1
 have hsum : ∀ f : Nat → Rat, sumN (fun v => f v * vecA ((wayQ t c.x c.ray).map rawQ) v) p.vars.toNat = sumN (fun v => f v * vecA c.x v) p.vars.toNat + fixQ t * sumN (fun v => f v * vecA c.ray v) p.vars.toNat := fun f => by
  rw [← sumN_mul, ← sumN_add]
  exact sumN_congr fun v hvn => by rw [hv v hvn]; grind
 refine ⟨fits_back hp hyw (by decide) (by decide) hr hyl ⟨fun v hvn hfr => ?_, fun r hm => ?_⟩, ?_, ?_, by omega⟩
 ·rw [hv v hvn]
  have h1 := hF.sg v hvn hfr
  have h2 := Rat.mul_nonneg hs (g1 v hvn hfr)
  grind
 ·rw [hsum]
  obtain ⟨a0, a1, a2⟩ := hF.rows r hm
  obtain ⟨b0, b1, b2⟩ := g2 r hm
  generalize sumN (fun v => fixQ (nthF r.a v) * vecA c.x v) p.vars.toNat = d at *
  generalize sumN (fun v => fixQ (nthF r.a v) * vecA c.ray v) p.vars.toNat = e at *
  refine ⟨fun h => ?_, fun h => ?_, fun h => ?_⟩
  ·rw [a0 h, b0 h]; grind
  ·have := Rat.mul_nonneg (a := fixQ t) (b := -e) hs (by have := b1 h; grind)
   have := a1 h
   grind
  ·have := Rat.mul_nonneg (a := fixQ t) (b := e) hs (b2 h)
   have := a2 h
   grind
 ·have e1 := value_n hp hyw (by decide) (by decide) hr hyl
  have e2 := value_n hp hxw (by decide) (by decide) hr hl
  have e3 := value_n hp hrw (by decide) (by decide) hr hl2
  have k1 := value_fit hp hyw (by decide)
  have k2 := value_fit hp hxw (by decide)
  have k3 := value_fit hp hrw (by decide)
  have u1 := capQ_fits (Nat.le_trans k1.size (by decide))
  have u2 := capQ_fits (Nat.le_trans k2.size (by decide))
  have u3 := capQ_fits (Nat.le_trans k3.size (by decide))
  have k4 := fit_add k1 (fit_neg k2) (Nat.le_refl _)
  have k5 := fit_mul ht6 k3 (Nat.le_refl _)
  unfold valueP
  rw [if_neg (fun h => h.elim (fun h => h hr) fun h => h hyl), if_neg (by simp [hr, hl]), if_neg (by simp [hr, hl2]), u1, u2, u3, capQ_fits (Nat.le_trans k4.size (by decide)), capQ_fits (Nat.le_trans k5.size (by decide)), ord_zero, ← u1, ← u2, ← u3, e1, e2, e3, hsum]
  grind
 ·unfold valueP
  rw [if_neg (by simp [hr, hl2]), value_n hp hrw (by decide) (by decide) hr hl2, signQ_ord, gt_iff_lt, ord_pos]
  exact g3
end
theorem words1_ok {n : Nat} {f : RawF} (h : wordsB [f] n = true) : wordF n f = true := by unfold wordsB at h; simpa using h
def FE (V Y X : Value) (g n0 : Nat) (qa qb qc : Rat) (i : Nat) (v : Value) (W : World) : Prop :=
 match i with
 | 0 => v = V
 | 1 => v = Y
 | 2 => FQ W v qa
 | 3 => v = V
 | 4 => v = .pointer (some ⟨g, 1, none⟩)
 | 5 => v = X
 | 6 => FQ W v qb
 | 7 => FQ W v qc
 | 8 => ∃ k, v = .pointer (some ⟨k, 0, none⟩) ∧ n0 ≤ k ∧ Blk W k 40 #[.bool false, .slice none 0 0, .slice none 0 0]
 | _ => True
theorem FE.below {V Y X : Value} {g n0 : Nat} {qa qb qc : Rat} {i : Nat} {v : Value} {w w1 : World} (h : FE V Y X g n0 qa qb qc i v w) (hb : Below w.heap.size w w1) : FE V Y X g n0 qa qb qc i v w1 := by
 match i, h with
 | 0, h => exact h
 | 1, h => exact h
 | 2, h => exact FQ.of_below (show FQ w v qa from h) hb
 | 3, h => exact h
 | 4, h => exact h
 | 5, h => exact h
 | 6, h => exact FQ.of_below (show FQ w v qb from h) hb
 | 7, h => exact FQ.of_below (show FQ w v qc from h) hb
 | 8, h => obtain ⟨k, e, hk, hbk⟩ := h; exact ⟨k, e, hk, hbk.below hb hbk.lt⟩
 | k + 9, _ => trivial
theorem endless_calls (w : World) (v v2 v3 : Value) (p : ProgF) (c : CertF) (t : RawF) (h : PG0 w v p) (h2 : CG0 w v2 c) (h3 : FR0 w v3 t) : Calls Try.prog 7 #[v, v2, v3] w fun e w' => BPost w true e w' := by
 have HP := Hd h
 have HC := Hd h2
 obtain ⟨A1, c1, A2, c2, A3, c3, rfl, HI, H1, H2, H3⟩ := h.opened
 obtain ⟨B1, d1, B2, d2, B3, d3, rfl, HX, HY, HR⟩ := h2.opened
 obtain ⟨A4, c4, A5, c5, rfl, HT0⟩ := h3.opened
 clear h h2 h3
 obtain ⟨n4, hn4⟩ : ∃ n, n = t.num.length := ⟨_, rfl⟩
 obtain ⟨n5, hn5⟩ : ∃ n, n = t.den.length := ⟨_, rfl⟩
 obtain ⟨tn, htn⟩ : ∃ b, b = t.neg := ⟨_, rfl⟩
 rw [← hn4, ← hn5, ← htn] at HT0 ⊢
 obtain ⟨vars, hv⟩ : ∃ n, n = p.vars := ⟨_, rfl⟩
 rw [← hv] at HP ⊢
 obtain ⟨kd, hkd⟩ : ∃ k, k = c.kind := ⟨_, rfl⟩
 rw [← hkd] at HC ⊢
 have HKD := Hd hkd
 clear hv hkd hn4 hn5 htn
 go_enter Try.func7, Try.ntmps7
 go_wp2_with fail
 have H0 := Hd (HS.three (w := w) #[.int .i64 vars, .slice A1 p.free.length c1, .slice A2 p.goal.length c2, .slice A3 p.rows.length c3] #[.int .i64 kd, .slice B1 c.x.length d1, .slice B2 c.y.length d2, .slice B3 c.ray.length d3] #[.bool tn, .slice A4 n4 c4, .slice A5 n5 c5] 26 44 40)
 generalize ((w.alloc (.cells #[.int .i64 vars, .slice A1 p.free.length c1, .slice A2 p.goal.length c2, .slice A3 p.rows.length c3] 26)).alloc (.cells #[.int .i64 kd, .slice B1 c.x.length d1, .slice B2 c.y.length d2, .slice B3 c.ray.length d3] 44)).alloc (.cells #[.bool tn, .slice A4 n4 c4, .slice A5 n5 c5] 40) = W0 at *
 refine (within_calls W0 _ p 20 30 (HP.out.of_below H0.out.2) (by decide) (by decide)).mono ?_
 rintro e w1 ⟨rfl, hb⟩
 have K1 := Hd (H0.out.step hb)
 obtain ⟨x0, x1, x2, x3⟩ := (K1.out.blk 2 rfl).c4
 obtain ⟨y0, y1, y2, y3⟩ := (K1.out.blk 1 rfl).c4
 obtain ⟨z0, z1, z2⟩ := (K1.out.blk 0 rfl).c3
 clear hb
 cases hw : withinB p 20 30 with
 | false =>
  clear hw
  go_wp2_with fail
  refine (exfixed_calls _).mono ?_
  rintro e w9 ⟨rfl, hb⟩
  have K9 := Hd (K1.out.step hb)
  go_wp2_with fail
  go_ret
  exact ⟨rfl, K9.out.2⟩
 | true =>
  have HW := Hd hw
  clear hw
  go_wp2_with fail
  refine (cert_calls w1 _ c 31 (HC.out.of_below K1.out.2) (by decide)).mono ?_
  rintro e w2 ⟨rfl, hb⟩
  have K2 := Hd (K1.out.step hb)
  obtain ⟨x0, x1, x2, x3⟩ := (K2.out.blk 2 rfl).c4
  obtain ⟨y0, y1, y2, y3⟩ := (K2.out.blk 1 rfl).c4
  obtain ⟨z0, z1, z2⟩ := (K2.out.blk 0 rfl).c3
  clear hb
  cases hc : certB c 31 with
  | false =>
   clear hc
   go_wp2_with fail
   refine (exfixed_calls _).mono ?_
   rintro e w9 ⟨rfl, hb⟩
   have K9 := Hd (K2.out.step hb)
   go_wp2_with fail
   go_ret
   exact ⟨rfl, K9.out.2⟩
  | true =>
   have HCB := Hd hc
   have HPF := Hd (HP.out.full HW.out)
   have HCF := Hd (HC.out.full hc)
   have hl := (certB_ok hc).1
   have hlx : c.x.length ≤ 100000 := by omega
   have hly : c.y.length ≤ 100000 := by omega
   have hlr : c.ray.length ≤ 100000 := by omega
   clear hc hl
   go_wp2_with fail
   refine (words_calls _ _ [t] 6 (FL0.one (HT0.out.of_below K2.out.2) 40) (by simp) (by decide)).mono ?_
   rintro e w3 ⟨rfl, hb⟩
   have K3 := Hd ((K2.out.step (below_new _ _)).step hb)
   obtain ⟨x0, x1, x2, x3⟩ := (K3.out.blk 2 rfl).c4
   obtain ⟨y0, y1, y2, y3⟩ := (K3.out.blk 1 rfl).c4
   obtain ⟨z0, z1, z2⟩ := (K3.out.blk 0 rfl).c3
   clear hb
   cases hxw : wordsB [t] 6 with
   | false =>
    clear hxw
    go_wp2_with fail
    refine (exfixed_calls _).mono ?_
    rintro e w9 ⟨rfl, hb⟩
    have K9 := Hd (K3.out.step hb)
    go_wp2_with fail
    go_ret
    exact ⟨rfl, K9.out.2⟩
   | true =>
    have HTW := Hd hxw
    have HTF := Hd (HT0.out.full (by have := words1_ok hxw; have := wordF_ok this; omega))
    clear hxw
    go_wp2_with fail
    refine (sgn_calls _ _ t (HTF.out.of_below K3.out.2)).mono ?_
    rintro e w4 ⟨rfl, hb⟩
    have K4 := Hd (K3.out.step hb)
    obtain ⟨x0, x1, x2, x3⟩ := (K4.out.blk 2 rfl).c4
    obtain ⟨y0, y1, y2, y3⟩ := (K4.out.blk 1 rfl).c4
    obtain ⟨z0, z1, z2⟩ := (K4.out.blk 0 rfl).c3
    clear hb
    by_cases hs : signQ (fixQ t) < 0
    ·have t1 : decide (signQ (fixQ t) < 0) = true := decide_eq_true hs
     clear hs
     go_wp2_with fail
     refine (exfixed_calls _).mono ?_
     rintro e w9 ⟨rfl, hb⟩
     have K9 := Hd (K4.out.step hb)
     go_wp2_with fail
     go_ret
     exact ⟨rfl, K9.out.2⟩
    have t1 : decide (signQ (fixQ t) < 0) = false := decide_eq_false hs
    have HSG := Hd hs
    clear hs
    by_cases k3 : kd = 3
    case neg =>
     have t3 : (kd != 3) = true := bneI k3
     clear k3
     go_wp2_with fail
     refine (exfixed_calls _).mono ?_
     rintro e w9 ⟨rfl, hb⟩
     have K9 := Hd (K4.out.step hb)
     go_wp2_with fail
     go_ret
     exact ⟨rfl, K9.out.2⟩
    subst k3
    have t3 : ((3 : Int) != 3) = false := rfl
    go_wp2_with fail
    refine (judge_calls _ _ _ p c (HPF.out.of_below K4.out.2) (HCF.out.of_below K4.out.2) hlx hly hlr).mono ?_
    rintro e w5 ⟨rfl, hb⟩
    have K5 := Hd (K4.out.step hb)
    clear hb
    obtain ⟨x0, x1, x2, x3⟩ := (K5.out.blk 2 rfl).c4
    obtain ⟨y0, y1, y2, y3⟩ := (K5.out.blk 1 rfl).c4
    obtain ⟨z0, z1, z2⟩ := (K5.out.blk 0 rfl).c3
    cases hj : judgeB p c with
    | false =>
     clear hj
     go_wp2_with fail
     refine (exfixed_calls _).mono ?_
     rintro e w9 ⟨rfl, hb⟩
     have K9 := Hd (K5.out.step hb)
     go_wp2_with fail
     go_ret
     exact ⟨rfl, K9.out.2⟩
    | true =>
     have HE := Hd (endless_plain HW.out HCB.out HTW.out (by have := HSG.out; omega) HKD.out.symm hj)
     clear hj
     go_wp2_with fail
     have HXC := Hd (HX.out.full (by decide) (certB_ok HCB.out).2.1)
     have HRC := Hd (HR.out.full (by decide) (certB_ok HCB.out).2.2.2)
     have HLR : Hid (c.x.length ≤ c.ray.length) := HE.out.2.2.2
     obtain ⟨ys, hys⟩ : ∃ l, l = wayQ t c.x c.ray := ⟨_, rfl⟩
     rw [← hys] at HE
     have HYS := Hd hys
     have HYL : Hid (ys.length = c.x.length) := by unfold Hid; rw [hys]; unfold wayQ; rw [List.length_zipWith]; have := HLR.out; omega
     have HYZ : Hid (∀ q ∈ ys, Small q) := fun q hq => by
      rw [hys] at hq
      unfold wayQ at hq
      obtain ⟨j, hj, rfl⟩ := List.getElem_of_mem hq
      rw [List.getElem_zipWith]
      exact capQ_size _
     clear hys x0 x1 x2 x3 y0 y1 y2 y3 z0 z1 z2
     go_loopw [7, 45] (fun v7 vi wr => ∃ i : Nat, i ≤ c.x.length ∧ vi = .int .i64 (i : Int) ∧ QO w5.heap.size wr v7 (ys.take i) ∧ Below w5.heap.size w5 wr) (fun _ vi _ => c.x.length - (intOf vi).toNat)
     case atStart => exact ⟨0, Nat.zero_le _, rfl, OL.nil _ _ _ _ _, Below.refl _ _⟩
     case round =>
      obtain ⟨i, hil, rfl, hq, hb⟩ := hrel
      obtain ⟨D3, e3, rfl, _⟩ := OL.slice hq
      have hqn : (ys.take i).length = i := by rw [List.length_take, HYL.out]; omega
      rw [hqn] at hq ⊢
      have HQ := Hd hq
      have HB := Hd hb
      have KR := Hd (K5.out.step hb)
      have HQN := Hd hqn
      clear hq hb hqn
      by_cases hlt : i < c.x.length
      ·obtain ⟨f, hf⟩ : ∃ f, c.x[i]? = some f := ⟨_, List.getElem?_eq_getElem hlt⟩
       obtain ⟨r, hr⟩ : ∃ r, c.ray[i]? = some r := ⟨_, List.getElem?_eq_getElem (by have := HLR.out; omega)⟩
       have HNX : Hid (ys.take (i + 1) = ys.take i ++ [capQ (fixQ f + capQ (fixQ t * fixQ r))]) := by
        unfold Hid
        rw [List.take_add_one, HYS.out]
        unfold wayQ
        rw [List.getElem?_zipWith, hf, hr]
        rfl
       obtain ⟨gx, ox, E1, n1, f1, E2, n2, f2, rfl, hgx, q0, q1, q2, HF⟩ := FL.at3 (HXC.out.below EF.stays KR.out.2) hf
       have HRR := Hd hr
       have m1 : (i : Int) < (c.x.length : Int) := by omega
       have m3 : (i : Int).toNat = i := by omega
       have m4 : (0 : Int) ≤ (i : Int) := by omega
       have m5 : (i : Int) < (c.ray.length : Int) := by have := HLR.out; omega
       clear hf hr
       obtain ⟨x0, x1, x2, x3⟩ := (KR.out.blk 2 rfl).c4
       obtain ⟨y0, y1, y2, y3⟩ := (KR.out.blk 1 rfl).c4
       obtain ⟨z0, z1, z2⟩ := (KR.out.blk 0 rfl).c3
       go_upto_region 7 with (fail)
       have hbn := below_new wr (.cells #[.bool f.neg, .slice E1 n1 f1, .slice E2 n2 f2] 40)
       have HB3 := Hd (below_next HB.out hbn)
       have HQ3 := Hd (OL.below EFQ.stays HQ.out hbn)
       have HF3 := Hd (HF.out.of_below hbn)
       have K6 := Hd (KR.out.step hbn)
       have HK6 := Hd (Blk.new wr 40 #[.bool f.neg, .slice E1 n1 f1, .slice E2 n2 f2])
       obtain ⟨g6, hg6⟩ : ∃ g, g = wr.heap.size := ⟨_, rfl⟩
       rw [← hg6] at HK6 ⊢
       generalize wr.alloc (.cells #[.bool f.neg, .slice E1 n1 f1, .slice E2 n2 f2] 40) = W3 at *
       clear hbn hg6 HF HQ HB x0 x1 x2 x3 y0 y1 y2 y3 z0 z1 z2 q0 q1 q2 hgx
       obtain ⟨gy, oy, G1, k1, h1, G2, k2, h2, rfl, hgy, r0, r1, r2, HG⟩ := FL.at3 (HRC.out.below EF.stays K6.out.2) HRR.out
       obtain ⟨x0, x1, x2, x3⟩ := (K6.out.blk 2 rfl).c4
       obtain ⟨y0, y1, y2, y3⟩ := (K6.out.blk 1 rfl).c4
       obtain ⟨z0, z1, z2⟩ := (K6.out.blk 0 rfl).c3
       obtain ⟨u0, u1, u2⟩ := HK6.out.c3
       have l6 := HK6.out.lt
       have l5 := (K6.out.blk 0 rfl).lt
       have l4 := (K6.out.blk 1 rfl).lt
       refine wp_chainF (l := [_, _, _, _, _, _, _, _, _, _, _, _, _]) (S := Below W3.heap.size W3) 11 [([0, 1, 2, 3, 4, 5, 6, 7], 8), ([], 9), ([], 10)] [] (by kernel_rfl) (by kernel_rfl) (by kernel_rfl) rfl (Below.drew (Below.refl _ _)) ?_
       refine ⟨?_, _, ?_, rfl, ?_⟩
       rotate_left
       ·(iterate 8 ((refine pu ?_); (try simp only [SQ])))
        exact rfl
       have D0 : Hid (Below W3.heap.size W3 W3.drew) := Below.drew (Below.refl _ _)
       go_wp2_with fail
       refine (fmul_calls _ _ _ t r (HTF.out.of_below (below_next K6.out.2 D0.out)) (HG.out.of_below D0.out)).mono ?_
       rintro e w7 ⟨v, rfl, hv, hb⟩
       obtain ⟨I1, j1, s1, I2, j2, s2, rfl, HV7⟩ := hv.opened
       have D7 := Hd (below_next D0.out hb)
       clear hv hb
       go_wp2_with fail
       refine And.intro D7.out ⟨_, _, rfl, rfl, ?_⟩
       go_wp2_with fail
       refine (fadd_calls _ _ _ f _ (HF3.out.of_below D7.out) (FR.of_fq HV7.out (capQ_size _))).mono ?_
       rintro e w8 ⟨v, rfl, hv, hb⟩
       rw [fixQ_raw _ (capQ_size _)] at hv
       obtain ⟨ay, hay⟩ : ∃ q, q = capQ (fixQ f + capQ (fixQ t * fixQ r)) := ⟨_, rfl⟩
       rw [← hay] at hv HNX
       obtain ⟨J1, a1, b1, J2, a2, b2, rfl, HV8⟩ := hv.opened
       have D8 := Hd (below_next D7.out hb)
       clear hv hb hay
       go_wp2_with fail
       refine And.intro D8.out ⟨_, _, rfl, rfl, ?_⟩
       go_wp2_with fail
       have hbn := below_new w8 (.cells #[.bool (negQ ay), .slice J1 a1 b1, .slice J2 a2 b2] 40)
       have D9 := Hd (below_next D8.out hbn)
       have HV9 := Hd (HV8.out.of_below hbn)
       have HK9 := Hd (Blk.new w8 40 #[.bool (negQ ay), .slice J1 a1 b1, .slice J2 a2 b2])
       obtain ⟨gl, hgl⟩ : ∃ g, g = w8.heap.size := ⟨_, rfl⟩
       rw [← hgl] at HK9 ⊢
       generalize w8.alloc (.cells #[.bool (negQ ay), .slice J1 a1 b1, .slice J2 a2 b2] 40) = W9 at *
       clear hbn hgl
       have HB9 := Hd (below_next HB3.out D9.out)
       have HQ9 := Hd (OL.below EFQ.stays HQ3.out D9.out)
       refine And.intro D9.out ⟨_, rfl, ?_⟩
       simp only [SQ, List.drop_succ_cons, List.drop_zero]
       clear x0 x1 x2 x3 y0 y1 y2 y3 z0 z1 z2 u0 u1 u2 r0 r1 r2
       go_wp2_with (at_builtin; refine wpl_appendQ2 rfl (.tmp 50) (.tmp 60) rfl (base := w5.heap.size) (.slice D3 i e3) _ rfl HQ9.out ay rfl HK9.out HV9.out (by rw [HQN.out]; omega) HB9.out.size ?_; intro vA WA hgoA hcgA hwA; rw [← HNX.out] at hgoA; have HGOA := Hd hgoA; have HBA := Hd (HB9.out.trans (chg_below hcgA hwA HB9.out.size)); clear hgoA hcgA hwA)
       refine NoPanic.normal ?_
       go_wp2_with fail
       go_roundw
       case rel => exact ⟨i + 1, by omega, by go_num, HGOA.out, HBA.out⟩
       case measure => simp [intOf]; omega
      ·obtain rfl : i = c.x.length := by omega
       have HALL : Hid (ys.take c.x.length = ys) := by unfold Hid; rw [← HYL.out]; exact List.take_length
       have HQ2 : Hid (QO w5.heap.size wr (.slice D3 c.x.length e3) ys) := by have := HQ.out; rw [HALL.out] at this; exact this
       have HYF := Hd (QO.fl HQ2.out HYZ.out)
       obtain ⟨x0, x1, x2, x3⟩ := (KR.out.blk 2 rfl).c4
       obtain ⟨y0, y1, y2, y3⟩ := (KR.out.blk 1 rfl).c4
       obtain ⟨z0, z1, z2⟩ := (KR.out.blk 0 rfl).c3
       go_wp2_with fail
       clear x0 x1 x2 x3 y0 y1 y2 y3 z0 z1 z2
       refine wp_mono (l := [_, _, _, _, _, _, _, _, _, _]) 9 (FE (.agg #[.int .i64 vars, .slice A1 p.free.length c1, .slice A2 p.goal.length c2, .slice A3 p.rows.length c3]) (.slice D3 c.x.length e3) (.slice B1 c.x.length d1) (w.heap.size + 1) wr.heap.size (valueP p (ys.map rawQ)) (valueP p c.x) (capQ (valueP p (ys.map rawQ) + -(valueP p c.x)))) (by kernel_rfl) (by kernel_rfl) (by kernel_rfl) (by kernel_rfl) (by kernel_rfl) (fun i v w w' _ h hb => FE.below h hb) ?_ ?_
       ·intro i hi
        match i, hi with
        | 0, _ =>
         intro a w1 vs hb hold hdep K hK
         refine wpOp_of_chain rfl ?_
         have KW := Hd (KR.out.step ((Below.drew (Below.refl wr.heap.size wr)).trans hb))
         have t3 : a.tmps.getD 3 undef = .pointer (some ⟨w.heap.size, 0, none⟩) := hold 3 (by kernel_rfl)
         have u3 := getD_q t3
         obtain ⟨x0, x1, x2, x3⟩ := (KW.out.blk 2 rfl).c4
         go_wp2_with fail
         exact hK _ _ (Below.refl _ _) rfl
        | 1, _ =>
         intro a w1 vs hb hold hdep K hK
         refine wpOp_of_chain rfl ?_
         have KW := Hd (KR.out.step ((Below.drew (Below.refl wr.heap.size wr)).trans hb))
         have t7 : a.tmps.getD 7 undef = .slice D3 c.x.length e3 := hold 7 (by kernel_rfl)
         have u7 := getD_q t7
         go_wp2_with fail
         exact hK _ _ (Below.refl _ _) rfl
        | 2, _ =>
         intro a w1 vs hb hold hdep K hK
         refine wpOp_of_chain rfl ?_
         have KW := Hd (KR.out.step ((Below.drew (Below.refl wr.heap.size wr)).trans hb))
         obtain ⟨s0, f0⟩ := hdep 0 (by kernel_rfl)
         obtain ⟨s1, f1⟩ := hdep 1 (by kernel_rfl)
         have t0 := s0 63 (by kernel_rfl)
         have t1 := s1 64 (by kernel_rfl)
         rw [show vs 0 = (.agg #[.int .i64 vars, .slice A1 p.free.length c1, .slice A2 p.goal.length c2, .slice A3 p.rows.length c3]) from f0] at t0
         rw [show vs 1 = .slice D3 c.x.length e3 from f1] at t1
         have u0 := getD_q t0
         have u1 := getD_q t1
         go_wp2_with fail
         refine (value_calls _ _ _ p (ys.map rawQ) (HPF.out.of_below KW.out.2) (HYF.out.below EF.stays ((Below.drew (Below.refl wr.heap.size wr)).trans hb))).mono ?_
         rintro e w2 ⟨v, rfl, hv, hb2⟩
         go_wp2_with fail
         exact hK v w2 hb2 hv
        | 3, _ =>
         intro a w1 vs hb hold hdep K hK
         refine wpOp_of_chain rfl ?_
         have KW := Hd (KR.out.step ((Below.drew (Below.refl wr.heap.size wr)).trans hb))
         have t3 : a.tmps.getD 3 undef = .pointer (some ⟨w.heap.size, 0, none⟩) := hold 3 (by kernel_rfl)
         have u3 := getD_q t3
         obtain ⟨x0, x1, x2, x3⟩ := (KW.out.blk 2 rfl).c4
         go_wp2_with fail
         exact hK _ _ (Below.refl _ _) rfl
        | 4, _ =>
         intro a w1 vs hb hold hdep K hK
         refine wpOp_of_chain rfl ?_
         have KW := Hd (KR.out.step ((Below.drew (Below.refl wr.heap.size wr)).trans hb))
         have t4 : a.tmps.getD 4 undef = .pointer (some ⟨w.heap.size + 1, 0, none⟩) := hold 4 (by kernel_rfl)
         have u4 := getD_q t4
         go_wp2_with fail
         exact hK _ _ (Below.refl _ _) rfl
        | 5, _ =>
         intro a w1 vs hb hold hdep K hK
         refine wpOp_of_chain rfl ?_
         have KW := Hd (KR.out.step ((Below.drew (Below.refl wr.heap.size wr)).trans hb))
         obtain ⟨s4, f4⟩ := hdep 4 (by kernel_rfl)
         have t4 := s4 67 (by kernel_rfl)
         rw [show vs 4 = .pointer (some ⟨w.heap.size + 1, 1, none⟩) from f4] at t4
         have u4 := getD_q t4
         obtain ⟨y0, y1, y2, y3⟩ := (KW.out.blk 1 rfl).c4
         go_wp2_with fail
         exact hK _ _ (Below.refl _ _) rfl
        | 6, _ =>
         intro a w1 vs hb hold hdep K hK
         refine wpOp_of_chain rfl ?_
         have KW := Hd (KR.out.step ((Below.drew (Below.refl wr.heap.size wr)).trans hb))
         obtain ⟨s0, f0⟩ := hdep 3 (by kernel_rfl)
         obtain ⟨s1, f1⟩ := hdep 5 (by kernel_rfl)
         have t0 := s0 66 (by kernel_rfl)
         have t1 := s1 68 (by kernel_rfl)
         rw [show vs 3 = (.agg #[.int .i64 vars, .slice A1 p.free.length c1, .slice A2 p.goal.length c2, .slice A3 p.rows.length c3]) from f0] at t0
         rw [show vs 5 = .slice B1 c.x.length d1 from f1] at t1
         have u0 := getD_q t0
         have u1 := getD_q t1
         go_wp2_with fail
         refine (value_calls _ _ _ p c.x (HPF.out.of_below KW.out.2) (HXC.out.below EF.stays KW.out.2)).mono ?_
         rintro e w2 ⟨v, rfl, hv, hb2⟩
         go_wp2_with fail
         exact hK v w2 hb2 hv
        | 7, _ =>
         intro a w1 vs hb hold hdep K hK
         refine wpOp_of_chain rfl ?_
         have KW := Hd (KR.out.step ((Below.drew (Below.refl wr.heap.size wr)).trans hb))
         obtain ⟨s0, f0⟩ := hdep 2 (by kernel_rfl)
         obtain ⟨s1, f1⟩ := hdep 6 (by kernel_rfl)
         have t0 := s0 65 (by kernel_rfl)
         have t1 := s1 69 (by kernel_rfl)
         obtain ⟨A5, n5, c5, A6, n6, c6, e1, HV1⟩ := FQ.opened (show FQ w1 (vs 2) (valueP p (ys.map rawQ)) from f0)
         obtain ⟨A7, n7, c7, A8, n8, c8, e2, HV2⟩ := FQ.opened (show FQ w1 (vs 6) (valueP p c.x) from f1)
         rw [e1] at t0
         rw [e2] at t1
         have u0 := getD_q t0
         have u1 := getD_q t1
         go_wp2_with fail
         refine (fsub_calls _ _ _ _ _ (FR.of_fq HV1.out (value_sz _ _)) (FR.of_fq HV2.out (value_sz _ _))).mono ?_
         rintro e w2 ⟨v, rfl, hv, hb2⟩
         rw [fixQ_raw _ (value_sz _ _), fixQ_raw _ (value_sz _ _)] at hv
         go_wp2_with fail
         exact hK v w2 hb2 hv
        | 8, _ =>
         intro a w1 vs hb hold hdep K hK
         refine wpOp_of_chain rfl ?_
         have KW := Hd (KR.out.step ((Below.drew (Below.refl wr.heap.size wr)).trans hb))
         go_wp2_with fail
         exact hK _ _ (below_new _ _) ⟨_, rfl, ((Below.drew (Below.refl wr.heap.size wr)).trans hb).size, Blk.new _ _ _⟩
        | k + 9, h => exact absurd h (by omega)
       ·intro vs w2 hb hF
        have hm : FQ w2 (vs 7) (capQ (valueP p (ys.map rawQ) + -(valueP p c.x))) := hF 7 (by omega)
        obtain ⟨mo, hmo⟩ : ∃ q, q = capQ (valueP p (ys.map rawQ) + -(valueP p c.x)) := ⟨_, rfl⟩
        rw [← hmo] at hm
        rw [← hmo] at HE
        obtain ⟨M1, m1, l1, M2, m2, l2, e7, HM⟩ := hm.opened
        obtain ⟨g9, e8, hg9, hk9⟩ := (show ∃ k, vs 8 = .pointer (some ⟨k, 0, none⟩) ∧ wr.heap.size ≤ k ∧ Blk w2 k 40 #[.bool false, .slice none 0 0, .slice none 0 0] from hF 8 (by omega))
        have KW := Hd (KR.out.step ((Below.drew (Below.refl wr.heap.size wr)).trans hb))
        have HY2 := Hd (HYF.out.below EF.stays ((Below.drew (Below.refl wr.heap.size wr)).trans hb))
        have hgw : w.heap.size + 2 < g9 := Nat.lt_of_lt_of_le (KR.out.blk 0 rfl).lt hg9
        have HMS : Hid (sizeQ mo ≤ 4096) := by unfold Hid; rw [hmo]; exact capQ_size _
        have HK9 := Hd hk9
        have HBW := Hd hb
        simp only [putN, dstAt, List.drop_succ_cons, List.drop_zero, List.getElem?_toArray, List.getElem?_cons_succ, List.getElem?_cons_zero, Option.bind_some, Act.put, List.setIfInBounds_toArray, List.set_cons_zero, List.set_cons_succ]
        rw [e7, e8]
        clear hF hb hk9 e7 e8 hm hmo
        obtain ⟨f0, f1, f2⟩ := HK9.out.f3
        obtain ⟨k0, k1, k2⟩ := HK9.out.c3
        have hlt := HK9.out.lt
        go_wp2_with fail
        refine NoPanic.normal ?_
        have K9 := Hd (show HS w [(g9, 40, #[.bool (negQ mo), .slice M1 m1 l1, .slice M2 m2 l2]), (w.heap.size + 2, 40, #[.bool tn, .slice A4 n4 c4, .slice A5 n5 c5]), (w.heap.size + 1, 44, #[.int .i64 3, .slice B1 c.x.length d1, .slice B2 c.y.length d2, .slice B3 c.ray.length d3]), (w.heap.size, 26, #[.int .i64 vars, .slice A1 p.free.length c1, .slice A2 p.goal.length c2, .slice A3 p.rows.length c3])] (((w2.setCell ⟨g9, 0, none⟩ (.bool (negQ mo))).setCell ⟨g9, 1, none⟩ (.slice M1 m1 l1)).setCell ⟨g9, 2, none⟩ (.slice M2 m2 l2)) from by
         have h3 := KW.out.other3 (g := g9) (by omega) (by simp; omega) (.bool (negQ mo)) (.slice M1 m1 l1) (.slice M2 m2 l2)
         refine ⟨fun b hb => ?_, h3.2⟩
         rcases List.mem_cons.1 hb with rfl | hb'
         ·exact HK9.out.put3 _ _ _
         ·exact h3.1 b hb')
        have HM9 := Hd (HM.out.put3 HK9.out ni40 (.bool (negQ mo)) (.slice M1 m1 l1) (.slice M2 m2 l2))
        have HY9 := Hd (HYF.out.below EF.stays (below_put3 ((Below.drew (Below.refl wr.heap.size wr)).trans HBW.out) hg9 (.bool (negQ mo)) (.slice M1 m1 l1) (.slice M2 m2 l2)))
        generalize ((w2.setCell ⟨g9, 0, none⟩ (.bool (negQ mo))).setCell ⟨g9, 1, none⟩ (.slice M1 m1 l1)).setCell ⟨g9, 2, none⟩ (.slice M2 m2 l2) = W10 at *
        clear f0 f1 f2 k0 k1 k2 hlt HK9 HM HY2 KW
        have q1 := HE.out.1
        have q2 : (ordQ mo (capQ (fixQ t * valueP p c.ray)) == 0) = true := beqI' HE.out.2.1
        have q3 : decide (signQ (valueP p c.ray) > 0) = true := decide_eq_true HE.out.2.2.1
        have HQ1 := Hd q1
        clear q1
        have HCELLS : Hid (∀ W, HS w [(g9, 40, #[.bool (negQ mo), .slice M1 m1 l1, .slice M2 m2 l2]), (w.heap.size + 2, 40, #[.bool tn, .slice A4 n4 c4, .slice A5 n5 c5]), (w.heap.size + 1, 44, #[.int .i64 3, .slice B1 c.x.length d1, .slice B2 c.y.length d2, .slice B3 c.ray.length d3]), (w.heap.size, 26, #[.int .i64 vars, .slice A1 p.free.length c1, .slice A2 p.goal.length c2, .slice A3 p.rows.length c3])] W → (W.cell? ⟨w.heap.size, 0, none⟩ = some (.int .i64 vars) ∧ W.cell? ⟨w.heap.size, 1, none⟩ = some (.slice A1 p.free.length c1) ∧ W.cell? ⟨w.heap.size, 2, none⟩ = some (.slice A2 p.goal.length c2) ∧ W.cell? ⟨w.heap.size, 3, none⟩ = some (.slice A3 p.rows.length c3) ∧ W.cell? ⟨w.heap.size + 1, 3, none⟩ = some (.slice B3 c.ray.length d3) ∧ W.cell? ⟨w.heap.size + 2, 0, none⟩ = some (.bool tn) ∧ W.cell? ⟨w.heap.size + 2, 1, none⟩ = some (.slice A4 n4 c4) ∧ W.cell? ⟨w.heap.size + 2, 2, none⟩ = some (.slice A5 n5 c5) ∧ W.cell? ⟨g9, 0, none⟩ = some (.bool (negQ mo)) ∧ W.cell? ⟨g9, 1, none⟩ = some (.slice M1 m1 l1) ∧ W.cell? ⟨g9, 2, none⟩ = some (.slice M2 m2 l2))) := fun W h => by
         obtain ⟨a, b, c, d⟩ := (h.blk 3 rfl).c4
         obtain ⟨e, f, g, i⟩ := (h.blk 2 rfl).c4
         obtain ⟨j, k, l⟩ := (h.blk 1 rfl).c3
         obtain ⟨m, n, o⟩ := (h.blk 0 rfl).c3
         exact ⟨a, b, c, d, i, j, k, l, m, n, o⟩
        go_wp2_with fail
        go_region_held3 (fun W => ((W.cell? ⟨w.heap.size, 0, none⟩ = some (.int .i64 vars) ∧ W.cell? ⟨w.heap.size, 1, none⟩ = some (.slice A1 p.free.length c1) ∧ W.cell? ⟨w.heap.size, 2, none⟩ = some (.slice A2 p.goal.length c2) ∧ W.cell? ⟨w.heap.size, 3, none⟩ = some (.slice A3 p.rows.length c3) ∧ W.cell? ⟨w.heap.size + 1, 3, none⟩ = some (.slice B3 c.ray.length d3) ∧ W.cell? ⟨w.heap.size + 2, 0, none⟩ = some (.bool tn) ∧ W.cell? ⟨w.heap.size + 2, 1, none⟩ = some (.slice A4 n4 c4) ∧ W.cell? ⟨w.heap.size + 2, 2, none⟩ = some (.slice A5 n5 c5) ∧ W.cell? ⟨g9, 0, none⟩ = some (.bool (negQ mo)) ∧ W.cell? ⟨g9, 1, none⟩ = some (.slice M1 m1 l1) ∧ W.cell? ⟨g9, 2, none⟩ = some (.slice M2 m2 l2)) ∧ FQ W (.agg #[.bool (negQ mo), .slice M1 m1 l1, .slice M2 m2 l2]) mo) ∧ HS w [(g9, 40, #[.bool (negQ mo), .slice M1 m1 l1, .slice M2 m2 l2]), (w.heap.size + 2, 40, #[.bool tn, .slice A4 n4 c4, .slice A5 n5 c5]), (w.heap.size + 1, 44, #[.int .i64 3, .slice B1 c.x.length d1, .slice B2 c.y.length d2, .slice B3 c.ray.length d3]), (w.heap.size, 26, #[.int .i64 vars, .slice A1 p.free.length c1, .slice A2 p.goal.length c2, .slice A3 p.rows.length c3])] W)
         (first
          | exact ⟨⟨HCELLS.out _ K9.out.drew, HM9.out.of_below (Below.drew (Below.refl _ _))⟩, K9.out.drew⟩
          | (have hk9 := HS.step (And.right ‹_ ∧ HS _ _ _›) ‹_›; exact ⟨⟨HCELLS.out _ hk9, FQ.of_below (‹(_ ∧ FQ _ _ _) ∧ HS _ _ _›.1.2) ‹_›⟩, hk9⟩))
         (first
          | (go_at_call 25; refine (calls_to (pfits_calls _ _ _ p (ys.map rawQ) (HPF.out.of_below (And.right ‹_ ∧ HS _ _ _›).2) (HY9.out.below EF.stays (Below.drew (Below.refl _ _)))) HQ1.out).mono ?_; rintro e w' ⟨rfl, hb⟩)
          | (go_at_call 23; refine (value_calls _ _ _ p c.ray (HPF.out.of_below (And.right ‹_ ∧ HS _ _ _›).2) (HRC.out.below EF.stays (And.right ‹_ ∧ HS _ _ _›).2)).mono ?_; rintro e w' ⟨v, rfl, hv, hb⟩; obtain ⟨R5, v5, r5, R6, v6, r6, rfl, HVR⟩ := hv.opened; clear hv)
          | (go_at_call 34; refine (fmul_calls _ _ _ t _ (HTF.out.of_below (And.right ‹_ ∧ HS _ _ _›).2) (FR.of_fq HVR.out (value_sz _ _))).mono ?_; rintro e w' ⟨v, rfl, hv, hb⟩; rw [fixQ_raw _ (value_sz _ _)] at hv; obtain ⟨S5, t5, u5, S6, t6, u6, rfl, HVS⟩ := hv.opened; clear hv)
          | (go_at_call 31; refine (fcmp_calls _ _ _ (rawQ mo) _ (FR.of_fq (‹(_ ∧ FQ _ _ _) ∧ HS _ _ _›.1.2) HMS.out) (FR.of_fq HVS.out (capQ_size _))).mono ?_; rintro e w' ⟨rfl, hb⟩; rw [fixQ_raw _ HMS.out, fixQ_raw _ (capQ_size _)])
          | (go_at_call 32; refine (sgn_calls _ _ _ (FR.of_fq HVR.out (value_sz _ _))).mono ?_; rintro e w' ⟨rfl, hb⟩; have hb7 := (HS.step (And.right ‹_ ∧ HS _ _ _›) hb).2; rw [fixQ_raw _ (value_sz _ _)]))
        go_wp2_with fail
        go_ret
        exact ⟨rfl, hb7⟩
end Go.Proofs.Ytfhambfgjigneaa

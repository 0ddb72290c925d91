/- Contracts of Go functions that the statement reaches, proved by walking their text, and plain laws over them (texts put together). -/
import Derived.Test.YtfhambfgjigneaaGreatKT7
import Derived.Test.YtfhambfgjigneaaGreatKT5
import Derived.Test.YtfhambfgjigneaaGreatKT1
import Derived.Maps.OwnSet
set_option linter.unusedVariables false
set_option linter.unusedSimpArgs false
namespace Go.Proofs.YtfhambfgjigneaaGreat
open Go.RowKit
def AccF (W : World) (g : Nat) (q : Rat) : Prop := ∃ A1 n1 c1 A2 n2 c2, Blk W g 46 #[.bool (negQ q), .slice A1 n1 c1, .slice A2 n2 c2] ∧ FQ W (.agg #[.bool (negQ q), .slice A1 n1 c1, .slice A2 n2 c2]) q
theorem AccF.step {W W' : World} {g : Nat} {q : Rat} (h : AccF W g q) (hb : Below W.heap.size W W') : AccF W' g q := by
 obtain ⟨A1, n1, c1, A2, n2, c2, h1, h2⟩ := h
 exact ⟨A1, n1, c1, A2, n2, c2, h1.below hb h1.lt, h2.of_below hb⟩
theorem AccF.put {W : World} {g : Nat} {q p : Rat} {A1 A2 : Option Addr} {n1 c1 n2 c2 : Nat} (h : AccF W g q) (hp : FQ W (.agg #[.bool (negQ p), .slice A1 n1 c1, .slice A2 n2 c2]) p) : AccF (((W.setCell ⟨g, 0, none⟩ (.bool (negQ p))).setCell ⟨g, 1, none⟩ (.slice A1 n1 c1)).setCell ⟨g, 2, none⟩ (.slice A2 n2 c2)) g p := by
 obtain ⟨_, _, _, _, _, _, h1, _⟩ := h
 exact ⟨A1, n1, c1, A2, n2, c2, h1.put3 _ _ _, hp.put3 h1 ni_box _ _ _⟩
def dotStep (s p : Rat) : Rat := capQ (s + capQ p)
def rdotQ (a b : List Rat) : Rat := (List.zipWith (· * ·) a b).foldl dotStep 0
theorem capQ_fits {q : Rat} (h : sizeQ q ≤ 4096) : capQ q = q := by unfold capQ; rw [if_pos h]
theorem capQ_capQ (q : Rat) : capQ (capQ q) = capQ q := capQ_fits (capQ_size q)
theorem rdot_cap (l : List Rat) : ∀ s, capQ s = s → capQ (l.foldl dotStep s) = l.foldl dotStep s := by
 induction l with
 | nil => exact fun s h => h
 | cons p l ih => exact fun s h => ih _ (capQ_capQ _)
theorem dotStep_zero {s : Rat} (h : capQ s = s) : dotStep s 0 = s := by unfold dotStep; rw [capQ_zero, Rat.add_zero, h]
theorem fold_snoc (l : List Rat) (q : Rat) (s : Rat) : (l ++ [q]).foldl dotStep s = dotStep (l.foldl dotStep s) q := by rw [List.foldl_append]; rfl
theorem fixQ_empty {f : RawF} (h : f.num = []) : fixQ f = 0 := by
 by_cases hr : RightF f
 ·have h1 := right_raw hr
  have h2 : f.num = dg (fixQ f).num.natAbs := congrArg RawF.num h1
  rw [h] at h2
  exact Rat.num_eq_zero.1 (Int.natAbs_eq_zero.1 (dg_nil.1 h2.symm))
 ·exact fixQ_wrong hr
theorem FR.lens {w : World} {A1 A2 : Option Addr} {n1 c1 n2 c2 : Nat} {f : RawF} {s : Bool} (h : FR w (.agg #[.bool s, .slice A1 n1 c1, .slice A2 n2 c2]) f) : n1 = f.num.length ∧ n2 = f.den.length := by
 obtain ⟨_, v1, v2, e, h1, h2⟩ := h
 injection e with e
 have e1 : Value.bool s = .bool f.neg ∧ Value.slice A1 n1 c1 = v1 ∧ Value.slice A2 n2 c2 = v2 := by simpa using e
 obtain ⟨_, rfl, rfl⟩ := e1
 obtain ⟨_, _, e2, _⟩ := h1.slice
 obtain ⟨_, _, e3, _⟩ := h2.slice
 injection e2 with _ e2 _
 injection e3 with _ e3 _
 exact ⟨e2, e3⟩
set_option maxHeartbeats 16000000 in
set_option maxRecDepth 100000 in
theorem rdot_calls (w : World) (v v2 : Value) (fs gs : List RawF) (h : FL w v fs) (h2 : FL w v2 gs) (hl : fs.length ≤ 100000) (hl2 : gs.length ≤ 100000) : Calls Tryz.prog 73 #[v, v2] w fun e w' => FPost w (rdotQ (fs.map fixQ) (gs.map fixQ)) e w' := by
 obtain ⟨A, c, rfl, hc⟩ := h.slice
 obtain ⟨A', c', rfl, hc'⟩ := h2.slice
 have HF := Hd h
 have HG := Hd h2
 obtain ⟨ds, hds⟩ : ∃ ds, ds = List.zipWith (· * ·) (fs.map fixQ) (gs.map fixQ) := ⟨_, rfl⟩
 have HDS := Hd hds
 rw [show rdotQ (fs.map fixQ) (gs.map fixQ) = ds.foldl dotStep 0 from by rw [hds]; rfl]
 clear h h2 hds
 go_enter Tryz.func73, Tryz.ntmps73
 go_wp2_with fail
 have H0 := Hd (HS.one (w := w) #[.bool false, .slice none 0 0, .slice none 0 0] 46)
 have hg0 : w.heap.size < (w.alloc (.cells #[.bool false, .slice none 0 0, .slice none 0 0] 46)).heap.size := (H0.out.blk 0 rfl).lt
 generalize w.alloc (.cells #[.bool false, .slice none 0 0, .slice none 0 0] 46) = W0 at *
 refine (rzero_calls W0).mono ?_
 rintro e w1 ⟨v, rfl, hv, hb⟩
 obtain ⟨A5, n5, c5, A6, n6, c6, rfl, HV⟩ := hv.opened
 have H1 := Hd (H0.out.step hb)
 have hs1 := hb.size
 clear hv hb
 go_wp2_with fail
 have HA1 := Hd (show AccF (w1.alloc (.cells #[.bool (negQ 0), .slice A5 n5 c5, .slice A6 n6 c6] 46)) w1.heap.size 0 from ⟨A5, n5, c5, A6, n6, c6, Blk.new _ _ _, HV.out.of_below (below_new _ _)⟩)
 have H2 := Hd (H1.out.more (.cells #[.bool (negQ 0), .slice A5 n5 c5, .slice A6 n6 c6] 46))
 obtain ⟨g3, hg3⟩ : ∃ g3, g3 = w1.heap.size := ⟨_, rfl⟩
 rw [← hg3] at HA1
 have h03 : w.heap.size ≠ g3 := by omega
 have hw3 : w.heap.size ≤ g3 := by omega
 generalize w1.alloc (.cells #[.bool (negQ 0), .slice A5 n5 c5, .slice A6 n6 c6] 46) = W2 at *
 rw [← hg3]
 clear hg3
 go_loopw [6] (fun vi wr => ∃ i : Nat, (i ≤ fs.length ∧ i ≤ gs.length) ∧ vi = .int .i64 (i : Int) ∧ AccF wr g3 ((ds.take i).foldl dotStep 0) ∧ HS w [(w.heap.size, 46, #[.bool false, .slice none 0 0, .slice none 0 0])] wr) (fun vi _ => fs.length - (intOf vi).toNat)
 case atStart => exact ⟨0, ⟨Nat.zero_le _, Nat.zero_le _⟩, rfl, HA1.out, H2.out⟩
 case round =>
  obtain ⟨i, ⟨hi, hi2⟩, rfl, hacc, hs⟩ := hrel
  have HA4 := Hd hacc
  have H4 := Hd hs
  clear hacc hs H0 HA1 H1 H2
  have hcap : capQ ((ds.take i).foldl dotStep 0) = (ds.take i).foldl dotStep 0 := rdot_cap _ _ capQ_zero
  obtain ⟨s, hs⟩ : ∃ s, s = (ds.take i).foldl dotStep 0 := ⟨_, rfl⟩
  rw [← hs] at hcap HA4
  have HS0 := Hd hs
  have HCAP := Hd hcap
  clear hs hcap
  by_cases hlt : i < fs.length
  case neg =>
   obtain rfl : i = fs.length := by omega
   have hzl : ds.take fs.length = ds := List.take_of_length_le (by rw [HDS.out, List.length_zipWith, List.length_map, List.length_map]; omega)
   have HFin : Hid (ds.foldl dotStep 0 = s) := by unfold Hid; rw [HS0.out, hzl]
   clear hzl
   obtain ⟨B1, k1', d1, B2, k2', d2, hk, hR⟩ := HA4.out
   have HR1 := Hd hR
   obtain ⟨a0, a1, a2⟩ := hk.c3
   clear hR hk
   obtain ⟨e0, e1, e2⟩ := (H4.out.blk 0 rfl).c3
   obtain ⟨f0, f1, f2⟩ := (H4.out.blk 0 rfl).f3
   go_wp2_with fail
   rw [HFin.out]
   exact end40 Tryz.results73 rfl (H4.out.blk 0 rfl) HR1.out (Nat.le_refl _) H4.out.2
  by_cases hlt2 : i < gs.length
  case neg =>
   obtain rfl : i = gs.length := by omega
   have hzl : ds.take gs.length = ds := List.take_of_length_le (by rw [HDS.out, List.length_zipWith, List.length_map, List.length_map]; omega)
   have HFin : Hid (ds.foldl dotStep 0 = s) := by unfold Hid; rw [HS0.out, hzl]
   clear hzl
   obtain ⟨B1, k1', d1, B2, k2', d2, hk, hR⟩ := HA4.out
   have HR1 := Hd hR
   obtain ⟨a0, a1, a2⟩ := hk.c3
   clear hR hk
   obtain ⟨e0, e1, e2⟩ := (H4.out.blk 0 rfl).c3
   obtain ⟨f0, f1, f2⟩ := (H4.out.blk 0 rfl).f3
   go_wp2_with fail
   rw [HFin.out]
   exact end40 Tryz.results73 rfl (H4.out.blk 0 rfl) HR1.out (Nat.le_refl _) H4.out.2
  obtain ⟨f, hf⟩ : ∃ f, fs[i]? = some f := ⟨fs[i], List.getElem?_eq_getElem hlt⟩
  obtain ⟨g, hg⟩ : ∃ g, gs[i]? = some g := ⟨gs[i], List.getElem?_eq_getElem hlt2⟩
  have hd : ds[i]? = some (fixQ f * fixQ g) := by rw [HDS.out]; simp [List.getElem?_zipWith, hf, hg]
  have HNX : Hid ((ds.take (i + 1)).foldl dotStep 0 = dotStep s (fixQ f * fixQ g)) := by
   unfold Hid
   rw [List.take_add_one, hd]
   rw [show ds.take i ++ (some (fixQ f * fixQ g)).toList = ds.take i ++ [fixQ f * fixQ g] from rfl, fold_snoc, ← HS0.out]
  obtain ⟨p, hp⟩ : ∃ p, p = fixQ f * fixQ g := ⟨_, rfl⟩
  rw [← hp] at HNX
  have HP := Hd hp
  obtain ⟨g1, o1, B1, k1, d1, B2, k2, d2, rfl, hgl1, x0, x1, x2, HFE⟩ := FL.at3 (HF.out.below EF.stays H4.out.2) hf
  obtain ⟨g2, o2, B3, k3, d3, B4, k4, d4, rfl, hgl2, y0, y1, y2, HGE⟩ := FL.at3 (HG.out.below EF.stays H4.out.2) hg
  have hk1 := (FR.lens HFE.out).1
  have hk3 := (FR.lens HGE.out).1
  have m1 : (i : Int) < (fs.length : Int) := by omega
  have m2 : (i : Int) < (gs.length : Int) := by omega
  have m3 : (i : Int).toNat = i := by omega
  have m4 : (0 : Int) ≤ (i : Int) := by omega
  clear hf hg hd hp
  have HRound : Hid (∀ wz, AccF wz g3 (dotStep s p) → HS w [(w.heap.size, 46, #[.bool false, .slice none 0 0, .slice none 0 0])] wz → ∃ i', (i' ≤ fs.length ∧ i' ≤ gs.length) ∧ Value.int .i64 ((i : Int) + 1) = .int .i64 (i' : Int) ∧ AccF wz g3 ((ds.take i').foldl dotStep 0) ∧ HS w [(w.heap.size, 46, #[.bool false, .slice none 0 0, .slice none 0 0])] wz) := by
   intro wz h1 h2
   exact ⟨i + 1, ⟨by omega, by omega⟩, by go_num, by rw [HNX.out]; exact h1, h2⟩
  by_cases z1 : k1 = 0
  ·have u1 : decide (0 < k1) = false := decide_eq_false (by omega)
   have hp0 : p = 0 := by rw [HP.out, fixQ_empty (List.eq_nil_of_length_eq_zero (by omega)), Rat.zero_mul]
   have HP0 := Hd hp0
   clear hk1 hk3 z1 hp0
   go_wp2_with fail
   go_roundw
   case rel => exact HRound.out _ (by rw [HP0.out, dotStep_zero HCAP.out]; exact HA4.out) H4.out
   case measure => simp [intOf]; omega
  have u1 : decide (0 < k1) = true := decide_eq_true (by omega)
  by_cases z2 : k3 = 0
  ·have u2 : decide (0 < k3) = false := decide_eq_false (by omega)
   have hp0 : p = 0 := by rw [HP.out, fixQ_empty (f := g) (List.eq_nil_of_length_eq_zero (by omega)), Rat.mul_zero]
   have HP0 := Hd hp0
   clear hk1 hk3 z1 z2 hp0
   go_wp2_with fail
   go_roundw
   case rel => exact HRound.out _ (by rw [HP0.out, dotStep_zero HCAP.out]; exact HA4.out) H4.out
   case measure => simp [intOf]; omega
  have u2 : decide (0 < k3) = true := decide_eq_true (by omega)
  clear hk1 hk3 z1 z2
  obtain ⟨B5, k5, d5, B6, k6, d6, hk, hR⟩ := HA4.out
  have HR1 := Hd hR
  have HK := Hd hk
  obtain ⟨a0, a1, a2⟩ := hk.c3
  obtain ⟨f0, f1, f2⟩ := hk.f3
  have hlt3 := hk.lt
  clear hR hk
  go_wp2_with fail
  have HB0 := Hd (Below.refl wr.heap.size wr)
  refine wp_chain (S := Below wr.heap.size wr) 11 [([0, 1, 2, 3, 4, 5, 6, 7, 8], 9), ([], 10), ([], 11)] (by kernel_rfl) (by kernel_rfl) (by kernel_rfl) rfl (Below.drew (Below.refl _ _)) ?_
  refine ⟨?_, _, ?_, rfl, ?_⟩
  rotate_left
  ·repeat (refine ⟨_, ?_, rfl, Or.inl ⟨by rfl, ?_⟩, ?_⟩; rotate_left; focus (intro W hW; replace hW := (bcell hW).1; go_simp; try with_reducible rfl); (try simp only [SQ]))
   exact rfl
  go_wp2_with fail
  refine (rmul_calls _ _ _ f g (HFE.out.of_below (Below.drew (Below.refl _ _))) (HGE.out.of_below (Below.drew (Below.refl _ _)))).mono ?_
  rintro e w7 ⟨v, rfl, hv, hb⟩
  obtain ⟨A7, n7, c7, A8, n8, c8, rfl, HV5⟩ := hv.opened
  have HB7 := Hd (below_next (Below.drew (Below.refl wr.heap.size wr)) hb)
  clear hv hb
  go_wp2_with fail
  refine And.intro HB7.out ⟨_, _, rfl, rfl, ?_⟩
  go_wp2_with fail
  refine (radd_calls _ _ _ _ _ (FR.of_fq (HR1.out.of_below HB7.out) (by rw [← HCAP.out]; exact capQ_size _)) (FR.of_fq HV5.out (capQ_size _))).mono ?_
  rintro e w8 ⟨v, rfl, hv, hb⟩
  have hpost : capQ (fixQ (rawQ s) + fixQ (rawQ (capQ (fixQ f * fixQ g)))) = dotStep s p := by
   rw [fixQ_raw _ (by rw [← HCAP.out]; exact capQ_size _), fixQ_raw _ (capQ_size _), ← HP.out]
   rfl
  rw [hpost] at hv
  obtain ⟨A9, n9, c9, A10, n10, c10, rfl, HV6⟩ := hv.opened
  have HB8 := Hd (below_next HB7.out hb)
  clear hv hb hpost
  go_wp2_with fail
  refine And.intro HB8.out ⟨_, _, rfl, rfl, ?_⟩
  have HA5 := Hd (HA4.out.step HB8.out)
  obtain ⟨_, _, _, _, _, _, hk5, _⟩ := HA5.out
  obtain ⟨y0, y1, y2⟩ := hk5.c3
  obtain ⟨f0, f1, f2⟩ := hk5.f3
  have HK5 := Hd hk5
  clear hk5
  go_wp2_with fail
  refine NoPanic.normal ?_
  go_wp2_with fail
  go_roundw
  case rel => exact HRound.out _ (HA5.out.put HV6.out) ((H4.out.step HB8.out).other3 hw3 (by simp; omega) _ _ _)
  case measure => simp [intOf]; omega
def FR0 (w : World) (v : Value) (f : RawF) : Prop := (f.num.length ≤ 9223372036854775807 ∧ f.den.length ≤ 9223372036854775807) ∧ ∃ v1 v2, v = .agg #[.bool f.neg, v1, v2] ∧ Rd w v1 f.num ∧ Rd w v2 f.den
def EF0 (w : World) (vs : Array Value) (f : RawF) : Prop := FR0 w (.agg vs) f
abbrev FL0 (w : World) (v : Value) (fs : List RawF) : Prop := SL 3 EF0 w v fs
theorem FR0.of_below {w w1 : World} {v : Value} {f : RawF} (h : FR0 w v f) (hb : Below w.heap.size w w1) : FR0 w1 v f := by
 obtain ⟨hl, v1, v2, e, h1, h2⟩ := h
 exact ⟨hl, v1, v2, e, h1.below hb, h2.below hb⟩
theorem EF0.stays : Stays EF0 := fun _ _ _ _ h hb => FR0.of_below h hb
theorem FR0.opened {w : World} {v : Value} {f : RawF} (h : FR0 w v f) : ∃ A1 c1 A2 c2, v = .agg #[.bool f.neg, .slice A1 f.num.length c1, .slice A2 f.den.length c2] ∧ Hid (FR0 w (.agg #[.bool f.neg, .slice A1 f.num.length c1, .slice A2 f.den.length c2]) f) := by
 have h0 := h
 obtain ⟨hl, v1, v2, rfl, h1, h2⟩ := h
 obtain ⟨A1, c1, rfl, _⟩ := h1.slice
 obtain ⟨A2, c2, rfl, _⟩ := h2.slice
 exact ⟨A1, c1, A2, c2, rfl, h0⟩
theorem FL0.at3 {w : World} {A : Option Addr} {n c : Nat} {fs : List RawF} (h : FL0 w (.slice A n c) fs) {j : Nat} {f : RawF} (hj : fs[j]? = some f) :
  ∃ g o A1 c1 A2 c2, A = some ⟨g, o, none⟩ ∧ g < w.heap.size ∧ w.cell? ⟨g, o + j * 3, none⟩ = some (.bool f.neg) ∧ w.cell? ⟨g, o + j * 3 + 1, none⟩ = some (.slice A1 f.num.length c1) ∧ w.cell? ⟨g, o + j * 3 + 2, none⟩ = some (.slice A2 f.den.length c2) ∧ Hid (FR0 w (.agg #[.bool f.neg, .slice A1 f.num.length c1, .slice A2 f.den.length c2]) f) := by
 obtain ⟨g, o, vs, hA, hg, hs, hc, he⟩ := h.at_ hj
 obtain ⟨A1, c1, A2, c2, e, hF⟩ := FR0.opened he
 injection e with e
 subst e
 exact ⟨g, o, A1, c1, A2, c2, hA, hg, hc 0 _ rfl, hc 1 _ rfl, hc 2 _ rfl, hF⟩
theorem FR0.lens {w : World} {v : Value} {f : RawF} (h : FR0 w v f) : f.num.length ≤ 9223372036854775807 ∧ f.den.length ≤ 9223372036854775807 := h.1
theorem FR0.full {w : World} {v : Value} {f : RawF} (h : FR0 w v f) (hl : f.num.length ≤ 1000000000 ∧ f.den.length ≤ 1000000000) : FR w v f := ⟨hl, h.2⟩
def wordF (n : Nat) (f : RawF) : Bool := decide (f.num.length ≤ n) && decide (f.den.length ≤ n)
def wordsB (fs : List RawF) (n : Nat) : Bool := fs.all (wordF n)
theorem wordF_ok {n : Nat} {f : RawF} (h : wordF n f = true) : f.num.length ≤ n ∧ f.den.length ≤ n := by
 unfold wordF at h
 simpa using h
theorem wordsB_ok {n : Nat} {fs : List RawF} (h : wordsB fs n = true) : ∀ f ∈ fs, f.num.length ≤ n ∧ f.den.length ≤ n := fun f hf => wordF_ok (List.all_eq_true.1 h f hf)
theorem FL0.full {w : World} {v : Value} {fs : List RawF} (h : FL0 w v fs) {n : Nat} (hn : n ≤ 1000000000) (hl : wordsB fs n = true) : FL w v fs := by
 obtain ⟨A, c, e, hc, hr⟩ := h
 refine ⟨A, c, e, hc, fun hp => ?_⟩
 obtain ⟨g, o, hA, hg, he⟩ := hr hp
 refine ⟨g, o, hA, hg, fun j x hx => ?_⟩
 obtain ⟨vs, h1, h2, h3⟩ := he j x hx
 have := wordsB_ok hl x (List.mem_of_getElem? hx)
 exact ⟨vs, h1, h2, FR0.full h3 ⟨by omega, by omega⟩⟩
set_option maxHeartbeats 16000000 in
set_option maxRecDepth 100000 in
theorem words_calls (w : World) (v : Value) (fs : List RawF) (n : Nat) (h : FL0 w v fs) (hl : fs.length ≤ 9223372036854775807) (hn : n ≤ 1000) : Calls Tryz.prog 22 #[v, .int .i64 (n : Int)] w fun e w' => BPost w (wordsB fs n) e w' := by
 obtain ⟨A, c, rfl, hc⟩ := h.slice
 have HF := Hd h
 clear h
 go_enter Tryz.func22, Tryz.ntmps22
 go_wp2_with fail
 go_loopw [9] (fun vi wr => ∃ i : Nat, i ≤ fs.length ∧ vi = .int .i64 (i : Int) ∧ (∀ (j : Nat) (f : RawF), j < i → fs[j]? = some f → wordF n f = true) ∧ Below w.heap.size w wr) (fun vi _ => fs.length - (intOf vi).toNat)
 case atStart => exact ⟨0, Nat.zero_le _, rfl, fun j _ h => absurd h (Nat.not_lt_zero _), Below.refl _ _⟩
 case round =>
  obtain ⟨i, hi, rfl, hall, hb⟩ := hrel
  have HA := Hd hall
  have HB := Hd hb
  clear hall hb
  by_cases hlt : i < fs.length
  ·obtain ⟨f, hf⟩ : ∃ f, fs[i]? = some f := ⟨fs[i], List.getElem?_eq_getElem hlt⟩
   obtain ⟨g, o, B1, d1, B2, d2, rfl, hg, k0, k1, k2, HE⟩ := FL0.at3 (HF.out.below EF0.stays HB.out) hf
   have HFI := Hd hf
   have hl1 := HE.out.lens.1
   have hl2 := HE.out.lens.2
   clear hf
   obtain ⟨l1, e1⟩ : ∃ l, l = f.num.length := ⟨_, rfl⟩
   obtain ⟨l2, e2⟩ : ∃ l, l = f.den.length := ⟨_, rfl⟩
   rw [← e1] at hl1 HE k1
   rw [← e2] at hl2 HE k2
   have E1 := Hd e1
   have E2 := Hd e2
   have m1 : (i : Int) < (fs.length : Int) := by omega
   have m3 : (i : Int).toNat = i := by omega
   have m4 : (0 : Int) ≤ (i : Int) := by omega
   clear e1 e2
   by_cases q1 : n < l1
   ·have u1 : decide (n < l1) = true := decide_eq_true q1
    have HE2 : Hid (wordsB fs n = false) := by
     unfold Hid wordsB
     refine all_false HFI.out ?_
     unfold wordF
     rw [← E1.out, decide_eq_false (by omega)]
     rfl
    clear q1
    go_wp2_with fail
    go_ret
    exact ⟨by rw [HE2.out]; rfl, below_next HB.out (below_new _ _)⟩
   have u1 : decide (n < l1) = false := decide_eq_false q1
   by_cases q2 : n < l2
   ·have u2 : decide (n < l2) = true := decide_eq_true q2
    have HE2 : Hid (wordsB fs n = false) := by
     unfold Hid wordsB
     refine all_false HFI.out ?_
     unfold wordF
     rw [← E2.out, decide_eq_false (show ¬ l2 ≤ n by omega), Bool.and_false]
    clear q1 q2
    go_wp2_with fail
    go_ret
    exact ⟨by rw [HE2.out]; rfl, below_next HB.out (below_new _ _)⟩
   have u2 : decide (n < l2) = false := decide_eq_false q2
   have HG : Hid (wordF n f = true) := by
    unfold Hid wordF
    rw [← E1.out, ← E2.out, decide_eq_true (show l1 ≤ n by omega), decide_eq_true (show l2 ≤ n by omega)]
    rfl
   clear q1 q2
   go_wp2_with fail
   go_roundw
   case rel =>
    refine ⟨i + 1, by omega, by go_num, fun j f' hj hf' => ?_, below_next HB.out (below_new _ _)⟩
    by_cases hji : j = i
    ·rw [hji, HFI.out] at hf'
     injection hf' with e
     rw [← e]
     exact HG.out
    ·exact HA.out j f' (by omega) hf'
   case measure => simp [intOf]; omega
  ·obtain rfl : i = fs.length := by omega
   have HE2 : Hid (wordsB fs n = true) := by
    unfold Hid wordsB
    exact all_true fun j f hf => HA.out j f (List.getElem?_eq_some_iff.1 hf).1 hf
   go_wp2_with fail
   go_ret
   exact ⟨by rw [HE2.out]; rfl, HB.out⟩
theorem HS.add {w W : World} {bs : List (Nat × Nat × Array Value)} (h : HS w bs W) (cs : Array Value) (t : Nat) : HS w ((W.heap.size, t, cs) :: bs) (W.alloc (.cells cs t)) := by
 have h1 := h.step (below_new W (.cells cs t))
 refine ⟨fun b hm => ?_, h1.2⟩
 rcases List.mem_cons.1 hm with rfl | hm
 ·exact Blk.new _ _ _
 ·exact h1.1 b hm
structure CertF where
 kind : Int
 x : List RawF
 y : List RawF
 ray : List RawF
def CG0 (w : World) (v : Value) (c : CertF) : Prop := (c.x.length ≤ 9223372036854775807 ∧ c.y.length ≤ 9223372036854775807 ∧ c.ray.length ≤ 9223372036854775807) ∧ ∃ v1 v2 v3, v = .agg #[.int .i64 c.kind, v1, v2, v3] ∧ I64 c.kind ∧ FL0 w v1 c.x ∧ FL0 w v2 c.y ∧ FL0 w v3 c.ray
def CR (w : World) (v : Value) (c : CertF) : Prop := ∃ v1 v2 v3, v = .agg #[.int .i64 c.kind, v1, v2, v3] ∧ I64 c.kind ∧ FL w v1 c.x ∧ FL w v2 c.y ∧ FL w v3 c.ray
theorem CG0.of_below {w w1 : World} {v : Value} {c : CertF} (h : CG0 w v c) (hb : Below w.heap.size w w1) : CG0 w1 v c := by
 obtain ⟨hl, v1, v2, v3, e, hk, h1, h2, h3⟩ := h
 exact ⟨hl, v1, v2, v3, e, hk, h1.below EF0.stays hb, h2.below EF0.stays hb, h3.below EF0.stays hb⟩
theorem CR.of_below {w w1 : World} {v : Value} {c : CertF} (h : CR w v c) (hb : Below w.heap.size w w1) : CR w1 v c := by
 obtain ⟨v1, v2, v3, e, hk, h1, h2, h3⟩ := h
 exact ⟨v1, v2, v3, e, hk, h1.below EF.stays hb, h2.below EF.stays hb, h3.below EF.stays hb⟩
theorem CG0.opened {w : World} {v : Value} {c : CertF} (h : CG0 w v c) : ∃ A1 c1 A2 c2 A3 c3, v = .agg #[.int .i64 c.kind, .slice A1 c.x.length c1, .slice A2 c.y.length c2, .slice A3 c.ray.length c3] ∧ Hid (FL0 w (.slice A1 c.x.length c1) c.x) ∧ Hid (FL0 w (.slice A2 c.y.length c2) c.y) ∧ Hid (FL0 w (.slice A3 c.ray.length c3) c.ray) := by
 obtain ⟨_, v1, v2, v3, rfl, _, h1, h2, h3⟩ := h
 obtain ⟨A1, c1, rfl, _⟩ := h1.slice
 obtain ⟨A2, c2, rfl, _⟩ := h2.slice
 obtain ⟨A3, c3, rfl, _⟩ := h3.slice
 exact ⟨A1, c1, A2, c2, A3, c3, rfl, h1, h2, h3⟩
theorem CR.opened {w : World} {v : Value} {c : CertF} (h : CR w v c) : ∃ A1 c1 A2 c2 A3 c3, v = .agg #[.int .i64 c.kind, .slice A1 c.x.length c1, .slice A2 c.y.length c2, .slice A3 c.ray.length c3] ∧ Hid (FL w (.slice A1 c.x.length c1) c.x) ∧ Hid (FL w (.slice A2 c.y.length c2) c.y) ∧ Hid (FL w (.slice A3 c.ray.length c3) c.ray) := by
 obtain ⟨v1, v2, v3, rfl, _, h1, h2, h3⟩ := h
 obtain ⟨A1, c1, rfl, _⟩ := h1.slice
 obtain ⟨A2, c2, rfl, _⟩ := h2.slice
 obtain ⟨A3, c3, rfl, _⟩ := h3.slice
 exact ⟨A1, c1, A2, c2, A3, c3, rfl, h1, h2, h3⟩
def certB (c : CertF) (n : Nat) : Bool := decide (c.x.length ≤ n) && (decide (c.y.length ≤ n) && (decide (c.ray.length ≤ n) && (wordsB c.x 12 && (wordsB c.y 12 && wordsB c.ray 12))))
theorem certB_ok {c : CertF} {n : Nat} (h : certB c n = true) : (c.x.length ≤ n ∧ c.y.length ≤ n ∧ c.ray.length ≤ n) ∧ wordsB c.x 12 = true ∧ wordsB c.y 12 = true ∧ wordsB c.ray 12 = true := by
 unfold certB at h
 simp only [Bool.and_eq_true, decide_eq_true_eq] at h
 exact ⟨⟨h.1, h.2.1, h.2.2.1⟩, h.2.2.2⟩
theorem CG0.full {w : World} {v : Value} {c : CertF} (h : CG0 w v c) {n : Nat} (hc : certB c n = true) : CR w v c := by
 obtain ⟨_, v1, v2, v3, e, hk, h1, h2, h3⟩ := h
 obtain ⟨_, a, b, d⟩ := certB_ok hc
 exact ⟨v1, v2, v3, e, hk, h1.full (by decide) a, h2.full (by decide) b, h3.full (by decide) d⟩
set_option maxHeartbeats 16000000 in
set_option maxRecDepth 100000 in
theorem cert_calls (w : World) (v : Value) (c : CertF) (n : Nat) (h : CG0 w v c) (hn : n ≤ 1000) : Calls Tryz.prog 38 #[v, .int .i64 (n : Int)] w fun e w' => BPost w (certB c n) e w' := by
 have hl := h.1
 obtain ⟨A1, c1, A2, c2, A3, c3, rfl, H1, H2, H3⟩ := h.opened
 have hl1 := hl.1
 have hl2 := hl.2.1
 have hl3 := hl.2.2
 clear h hl
 obtain ⟨kd, hkd⟩ : ∃ k, k = c.kind := ⟨_, rfl⟩
 rw [← hkd]
 clear hkd
 go_enter Tryz.func38, Tryz.ntmps38
 by_cases a1 : n < c.x.length
 ·have t1 : decide (c.x.length ≤ n) = false := decide_eq_false (by omega)
  have HR : Hid (certB c n = false) := by unfold Hid certB; rw [t1]; simp
  clear a1
  go_wp2_with fail
  go_ret
  exact ⟨by rw [HR.out]; rfl, below_new w _⟩
 have t1 : decide (c.x.length ≤ n) = true := decide_eq_true (by omega)
 by_cases a2 : n < c.y.length
 ·have t2 : decide (c.y.length ≤ n) = false := decide_eq_false (by omega)
  have HR : Hid (certB c n = false) := by unfold Hid certB; rw [t2]; simp
  clear a1 a2
  go_wp2_with fail
  go_ret
  exact ⟨by rw [HR.out]; rfl, below_new w _⟩
 have t2 : decide (c.y.length ≤ n) = true := decide_eq_true (by omega)
 by_cases a3 : n < c.ray.length
 ·have t3 : decide (c.ray.length ≤ n) = false := decide_eq_false (by omega)
  have HR : Hid (certB c n = false) := by unfold Hid certB; rw [t3]; simp
  clear a1 a2 a3
  go_wp2_with fail
  go_ret
  exact ⟨by rw [HR.out]; rfl, below_new w _⟩
 have t3 : decide (c.ray.length ≤ n) = true := decide_eq_true (by omega)
 have HHEAD : Hid (certB c n = (wordsB c.x 12 && (wordsB c.y 12 && wordsB c.ray 12))) := by unfold Hid certB; rw [t1, t2, t3]; rfl
 clear a1 a2 a3
 go_wp2_with fail
 have H0 := Hd (HS.one (w := w) #[.int .i64 kd, .slice A1 c.x.length c1, .slice A2 c.y.length c2, .slice A3 c.ray.length c3] 35)
 generalize w.alloc (.cells #[.int .i64 kd, .slice A1 c.x.length c1, .slice A2 c.y.length c2, .slice A3 c.ray.length c3] 35) = W0 at *
 refine (words_calls W0 _ c.x 12 (H1.out.below EF0.stays H0.out.2) hl1 (by decide)).mono ?_
 rintro e w1 ⟨rfl, hb⟩
 have K1 := Hd (H0.out.step hb)
 obtain ⟨x0, x1, x2, x3⟩ := K1.out.c4 0 rfl
 clear hb
 cases hg1 : wordsB c.x 12 with
 | false =>
  have HR : Hid (certB c n = false) := by unfold Hid; rw [HHEAD.out, hg1]; simp
  clear hg1
  go_wp2_with fail
  go_ret
  exact ⟨by rw [HR.out]; rfl, K1.out.2⟩
 | true =>
  have G1 := Hd hg1
  clear hg1
  go_wp2_with fail
  refine (words_calls w1 _ c.y 12 (H2.out.below EF0.stays K1.out.2) hl2 (by decide)).mono ?_
  rintro e w2 ⟨rfl, hb⟩
  have K2 := Hd (K1.out.step hb)
  obtain ⟨x0, x1, x2, x3⟩ := K2.out.c4 0 rfl
  clear hb
  cases hg2 : wordsB c.y 12 with
  | false =>
   have HR : Hid (certB c n = false) := by unfold Hid; rw [HHEAD.out, hg2]; simp
   clear hg2
   go_wp2_with fail
   go_ret
   exact ⟨by rw [HR.out]; rfl, K2.out.2⟩
  | true =>
   have G2 := Hd hg2
   clear hg2
   go_wp2_with fail
   refine (words_calls w2 _ c.ray 12 (H3.out.below EF0.stays K2.out.2) hl3 (by decide)).mono ?_
   rintro e w3 ⟨rfl, hb⟩
   have K3 := Hd (K2.out.step hb)
   obtain ⟨x0, x1, x2, x3⟩ := K3.out.c4 0 rfl
   clear hb
   cases hg3 : wordsB c.ray 12 with
   | false =>
    have HR : Hid (certB c n = false) := by unfold Hid; rw [HHEAD.out, hg3]; simp
    clear hg3
    go_wp2_with fail
    go_ret
    exact ⟨by rw [HR.out]; rfl, K3.out.2⟩
   | true =>
    have G3 := Hd hg3
    clear hg3
    have HR : Hid (certB c n = true) := by unfold Hid; rw [HHEAD.out, G1.out, G2.out, G3.out]; rfl
    go_wp2_with fail
    go_ret
    exact ⟨by rw [HR.out]; rfl, K3.out.2⟩
noncomputable def rowGoes (x : List Rat) (r : RowF) : Bool := holdsB r.s (capQ (dotQ (r.a.map fixQ) x)) 0
noncomputable def goesB (p : ProgF) (x : List RawF) : Bool := decide ((x.length : Int) = p.vars) && (signedB p.free (x.map fixQ) && (p.rows.all (rowGoes (x.map fixQ)) && decide (signQ (capQ (dotQ (p.goal.map fixQ) (x.map fixQ))) > 0)))
theorem fixQ_zero : fixQ (rawQ 0) = 0 := fixQ_raw 0 (by rw [sizeQ_zero]; decide)
theorem holds0_calls (w : World) (s : Int) (v v2 : Value) (f : RawF) (h : FR w v f) (h2 : FQ w v2 0) : Calls Tryz.prog 86 #[.int .i64 s, v, v2] w fun e w' => BPost w (holdsB s (fixQ f) 0) e w' := by
 have := holds_calls w s v v2 f (rawQ 0) h (FR.of_fq h2 (by rw [sizeQ_zero]; decide))
 rw [fixQ_zero] at this
 exact this
theorem frac_nil_calls (w : World) : Calls Tryz.prog 77 #[.slice none 0 0] w fun e w' => FPost w 0 e w' := by
 have := fsum_calls w _ [] (FL.nil w) (by simp)
 rw [show capQ (sumQ (List.map fixQ [])) = 0 from capQ_zero] at this
 exact this
set_option maxHeartbeats 16000000 in
set_option maxRecDepth 100000 in
theorem goes_calls (w : World) (v v2 : Value) (p : ProgF) (x : List RawF) (h : PR w v p) (h2 : FL w v2 x) (hr : rightP p = 0) : Calls Tryz.prog 46 #[v, v2] w fun e w' => BPost w (goesB p x) e w' := by
 have hrl := rightP_len hr
 clear hr
 have HP := Hd h
 obtain ⟨A1, c1, A2, c2, A3, c3, rfl, HI, H1, H2, H3⟩ := h.opened
 obtain ⟨A4, c4, rfl, hc4⟩ := h2.slice
 have HX := Hd h2
 clear h h2
 obtain ⟨vars, hv⟩ : ∃ n, n = p.vars := ⟨_, rfl⟩
 rw [← hv] at HP ⊢
 have HV := Hd hv
 have hfl : (p.free.length : Int) = vars := by rw [hv]; exact hrl.1
 have hvl : vars ≤ 160 := by rw [hv]; exact hrl.2.2.2.1
 have hrw : p.rows.length ≤ 400 := hrl.2.2.2.2.1
 have hgl : p.goal.length ≤ 100000 := by have := hrl.2.1; omega
 have HROW : Hid (∀ (r : RowF), r ∈ p.rows → (r.a.length : Int) = vars) := by unfold Hid; rw [hv]; exact fun r hm => (hrl.2.2.2.2.2 r hm).1
 clear hv hrl
 go_enter Tryz.func46, Tryz.ntmps46
 by_cases q1 : (x.length : Int) = vars
 case neg =>
  have u1 : ((x.length : Int) != vars) = true := bneI q1
  have HE : Hid (goesB p x = false) := by unfold Hid goesB; rw [decide_eq_false (by rw [← HV.out]; exact q1)]; rfl
  clear q1 hfl
  go_wp2_with fail
  go_ret
  exact ⟨by rw [HE.out]; rfl, below_new w _⟩
 have u1 : ((x.length : Int) != vars) = false := beqI q1
 have hxl : x.length ≤ 100000 := by omega
 have hxf : x.length = p.free.length := by omega
 have HXV := Hd q1
 have HXF := Hd hxf
 clear q1 hfl hxf
 go_wp2_with fail
 have H0 := Hd (HS.one (w := w) #[.int .i64 vars, .slice A1 p.free.length c1, .slice A2 p.goal.length c2, .slice A3 p.rows.length c3] 26)
 generalize w.alloc (.cells #[.int .i64 vars, .slice A1 p.free.length c1, .slice A2 p.goal.length c2, .slice A3 p.rows.length c3] 26) = W0 at *
 refine (signed_calls W0 _ _ p x (HP.out.of_below H0.out.2) (HX.out.below EF.stays H0.out.2) HXF.out hxl).mono ?_
 rintro e w1 ⟨rfl, hb⟩
 have h1' := H0.out.step hb
 have H1' := Hd h1'
 obtain ⟨x0, x1, x2, x3⟩ := H1'.out.c4 0 rfl
 clear hb h1'
 cases hsg : signedB p.free (x.map fixQ) with
 | false =>
  have HE : Hid (goesB p x = false) := by unfold Hid goesB; rw [hsg]; simp
  clear hsg
  go_wp2_with fail
  go_ret
  exact ⟨by rw [HE.out]; rfl, H1'.out.2⟩
 | true =>
  have HE : Hid (goesB p x = (p.rows.all (rowGoes (x.map fixQ)) && decide (signQ (capQ (dotQ (p.goal.map fixQ) (x.map fixQ))) > 0))) := by unfold Hid goesB; rw [hsg, decide_eq_true (by rw [← HV.out]; exact HXV.out)]; rfl
  clear hsg
  go_wp2_with fail
  clear x0 x1 x2 x3
  refine (frac_nil_calls w1).mono ?_
  rintro e w2 ⟨v, rfl, hv, hb⟩
  obtain ⟨A5, n5, c5, A6, n6, c6, rfl, HVZ⟩ := hv.opened
  have HZ1 := Hd (H1'.out.step hb)
  have hz1 := H1'.out.2.size
  have hz2 := hb.size
  have hlt1 := (H1'.out.blk 0 rfl).lt
  obtain ⟨x0, x1, x2, x3⟩ := HZ1.out.c4 0 rfl
  have hlt2 := (HZ1.out.blk 0 rfl).lt
  clear hv hb
  go_wp2_with fail
  clear x0 x1 x2 x3
  have HZ := Hd (HS.add HZ1.out #[.bool (negQ 0), .slice A5 n5 c5, .slice A6 n6 c6] 46)
  have HVZ2 := Hd (HVZ.out.of_below (below_new w2 (.cells #[.bool (negQ 0), .slice A5 n5 c5, .slice A6 n6 c6] 46)))
  obtain ⟨gz, hgz⟩ : ∃ gz, gz = w2.heap.size := ⟨_, rfl⟩
  rw [← hgz] at HZ ⊢
  have hzne : w.heap.size < gz := by omega
  generalize w2.alloc (.cells #[.bool (negQ 0), .slice A5 n5 c5, .slice A6 n6 c6] 46) = W2 at *
  clear hgz
  go_loopw [23] (fun vi wr => ∃ i : Nat, i ≤ p.rows.length ∧ vi = .int .i64 (i : Int) ∧ (∀ (j : Nat) (r : RowF), j < i → p.rows[j]? = some r → rowGoes (x.map fixQ) r = true) ∧ HS w [(gz, 46, #[.bool (negQ 0), .slice A5 n5 c5, .slice A6 n6 c6]), (w.heap.size, 26, #[.int .i64 vars, .slice A1 p.free.length c1, .slice A2 p.goal.length c2, .slice A3 p.rows.length c3])] wr ∧ FQ wr (.agg #[.bool (negQ 0), .slice A5 n5 c5, .slice A6 n6 c6]) 0) (fun vi _ => p.rows.length - (intOf vi).toNat)
  case atStart => exact ⟨0, Nat.zero_le _, rfl, fun j _ h => absurd h (Nat.not_lt_zero _), HZ.out, HVZ2.out⟩
  case round =>
   obtain ⟨i, hi, rfl, hall, hk, hvz⟩ := hrel
   have HVZ3 := Hd hvz
   clear hvz
   have HA := Hd hall
   have HK := Hd hk
   clear hall hk
   by_cases hlt : i < p.rows.length
   ·obtain ⟨r, hr⟩ : ∃ r, p.rows[i]? = some r := ⟨p.rows[i], List.getElem?_eq_getElem hlt⟩
    obtain ⟨g, o, B1, d1, B2, n2, d2, B3, n3, d3, rfl, hg, k0, k1, k2, k3, k4, HI', HA', HB'⟩ := RL.at5 (H3.out.below ER.stays HK.out.2) hr
    have hrl : r.a.length ≤ 100000 := by have := HROW.out r (List.mem_of_getElem? hr); omega
    have HRR := Hd hr
    clear hr
    have m1 : (i : Int) < (p.rows.length : Int) := by omega
    have m3 : (i : Int).toNat = i := by omega
    have m4 : (0 : Int) ≤ (i : Int) := by omega
    obtain ⟨s, hs⟩ : ∃ s, s = r.s := ⟨_, rfl⟩
    rw [← hs] at k1
    have HSE := Hd hs
    clear hs
    go_wp2_with fail
    have hb1 := below_new wr (.cells #[.slice B1 r.a.length d1, .int .i64 s, .bool r.b.neg, .slice B2 n2 d2, .slice B3 n3 d3] 73)
    have hk1 := Blk.new wr 73 #[.slice B1 r.a.length d1, .int .i64 s, .bool r.b.neg, .slice B2 n2 d2, .slice B3 n3 d3]
    have HB1 := Hd hb1
    have z0 := hk1.cell (j := 0) rfl
    have z1 := hk1.cell (j := 1) rfl
    have z2 := hk1.cell (j := 2) rfl
    have z3 := hk1.cell (j := 3) rfl
    have z4 := hk1.cell (j := 4) rfl
    have hz := hk1.lt
    generalize wr.alloc (.cells #[.slice B1 r.a.length d1, .int .i64 s, .bool r.b.neg, .slice B2 n2 d2, .slice B3 n3 d3] 73) = W1 at *
    clear hk1 hb1
    obtain ⟨y0, y1, y2⟩ := ((HK.out.step HB1.out).blk 0 rfl).c3
    have hzl := ((HK.out.step HB1.out).blk 0 rfl).lt
    refine wp_chainS (S := Below W1.heap.size W1) [([0, 1, 2, 3, 4, 6], 5), ([], 7)] [8] (by kernel_rfl) (by kernel_rfl) (by kernel_rfl) rfl (Below.drew (Below.refl _ _)) ?_
    refine ⟨?_, _, ?_, rfl, ?_⟩
    rotate_left
    ·repeat (refine ⟨_, ?_, rfl, Or.inl ⟨by rfl, ?_⟩, ?_⟩; rotate_left; focus (intro W hW; replace hW := (bcell hW).1; go_simp; try with_reducible rfl); (try simp only [SQ]))
     exact rfl
    have hbd : Below W1.heap.size W1 W1.drew := Below.drew (Below.refl _ _)
    have hbx := below_next HB1.out hbd
    have HBX := Hd hbx
    go_wp2_with fail
    refine (fdot_calls _ _ _ r.a x (HA'.out.below EF.stays HBX.out) (HX.out.below EF.stays (HK.out.step HBX.out).2) hrl hxl).mono ?_
    rintro e w7 ⟨v, rfl, hv, hb⟩
    obtain ⟨A7, n7, c7, A8, n8, c8, rfl, HV5⟩ := hv.opened
    have HB7 := Hd (below_next hbd hb)
    have HB17 := Hd (below_next HB1.out HB7.out)
    clear hv hb hbd hbx
    go_wp2_with fail
    refine And.intro HB7.out ⟨_, _, rfl, rfl, ?_⟩
    go_wp2_with fail
    refine (holds0_calls _ s _ _ _ (FR.of_fq HV5.out (capQ_size _)) (HVZ3.out.of_below HB17.out)).mono ?_
    rintro e w8 ⟨rfl, hb⟩
    have HB8 := Hd (below_next HB7.out hb)
    have HB18 := Hd (below_next HB1.out HB8.out)
    have HH : Hid (holdsB s (fixQ (rawQ (capQ (dotQ (r.a.map fixQ) (x.map fixQ))))) 0 = rowGoes (x.map fixQ) r) := by unfold Hid rowGoes; rw [fix_cap, HSE.out]
    rw [HH.out]
    clear hb
    go_wp2_with fail
    refine And.intro HB8.out ⟨?_, ?_, ?_⟩
    rotate_left
    ·repeat (refine ⟨_, ?_, rfl, Or.inl ⟨by rfl, ?_⟩, ?_⟩; rotate_left; focus (intro W hW; replace hW := (bcell hW).1; go_simp; try with_reducible rfl); (try simp only [SQ]))
     exact rfl
    refine NoPanic.normal ?_
    cases hb : rowGoes (x.map fixQ) r with
    | false =>
     have HE2 : Hid (goesB p x = false) := by unfold Hid; rw [HE.out, all_false HRR.out hb]; rfl
     clear hb
     go_wp2_with fail
     go_ret
     exact ⟨by rw [HE2.out]; rfl, (HK.out.step HB18.out).2⟩
    | true =>
     have HG := Hd hb
     clear hb
     go_wp2_with fail
     go_roundw
     case rel =>
      refine ⟨i + 1, by omega, by go_num, fun j r' hj hr' => ?_, HK.out.step HB18.out, HVZ3.out.of_below HB18.out⟩
      by_cases hji : j = i
      ·rw [hji, HRR.out] at hr'
       injection hr' with e
       rw [← e]
       exact HG.out
      ·exact HA.out j r' (by omega) hr'
     case measure => simp [intOf]; omega
   ·obtain rfl : i = p.rows.length := by omega
    have HE2 : Hid (goesB p x = decide (signQ (capQ (dotQ (p.goal.map fixQ) (x.map fixQ))) > 0)) := by unfold Hid; rw [HE.out, all_true fun j r hr => HA.out j r (List.getElem?_eq_some_iff.1 hr).1 hr]; rfl
    obtain ⟨x0, x1, x2, x3⟩ := HK.out.c4 1 rfl
    go_wp2_with fail
    refine (fdot_calls _ _ _ p.goal x (H2.out.below EF.stays HK.out.2) (HX.out.below EF.stays HK.out.2) hgl hxl).mono ?_
    rintro e w7 ⟨v, rfl, hv, hb⟩
    obtain ⟨A7, n7, c7, A8, n8, c8, rfl, HV7⟩ := hv.opened
    have HK7 := Hd (HK.out.step hb)
    clear hv hb
    go_wp2_with fail
    refine (sgn_calls _ _ _ (FR.of_fq HV7.out (capQ_size _))).mono ?_
    rintro e w8 ⟨rfl, hb⟩
    rw [fix_cap]
    have HK8 := Hd (HK7.out.step hb)
    clear hb
    go_wp2_with fail
    go_ret
    exact ⟨by rw [HE2.out]; rfl, HK8.out.2⟩
def nthF (fs : List RawF) (i : Nat) : RawF := fs.getD i ⟨false, [], []⟩
theorem nthF_get {fs : List RawF} {i : Nat} {f : RawF} (h : fs[i]? = some f) : nthF fs i = f := by unfold nthF; rw [List.getD_eq_getElem?_getD, h]; rfl
def badSign (s : Int) (q : Rat) : Bool := (decide (s = -1) && decide (signQ q < 0)) || (decide (s = 1) && decide (signQ q > 0))
noncomputable def signsB (rows : List RowF) (y : List Rat) : Bool := (rows.zip y).all fun ry => !badSign ry.1.s ry.2
noncomputable def colL (rows : List RowF) (y : List Rat) (v : Nat) : List Rat := List.zipWith (fun r q => q * fixQ (nthF r.a v)) rows y
noncomputable def colQ (rows : List RowF) (y : List Rat) (v : Nat) : Rat := (colL rows y v).foldl dotStep 0
noncomputable def colV (rows : List RowF) (y : List Rat) (goal : Option (List RawF)) (v : Nat) : Rat := match goal with
 | none => colQ rows y v
 | some g => capQ (colQ rows y v + -(fixQ (nthF g v)))
def freeAt (p : ProgF) (v : Nat) : Bool := p.free.getD v false
noncomputable def colOk (p : ProgF) (y : List Rat) (goal : Option (List RawF)) (v : Nat) : Bool := !(decide (signQ (colV p.rows y goal v) < 0) || (decide (signQ (colV p.rows y goal v) > 0) && freeAt p v))
noncomputable def boundsB (p : ProgF) (y : List RawF) (goal : Option (List RawF)) : Bool := decide (y.length = p.rows.length) && (signsB p.rows (y.map fixQ) && (List.range p.vars.toNat).all (colOk p (y.map fixQ) goal))
theorem zip_all_false {α β : Type} {l : List α} {m : List β} {f : α × β → Bool} {i : Nat} {a : α} {b : β} (h1 : l[i]? = some a) (h2 : m[i]? = some b) (h : f (a, b) = false) : (l.zip m).all f = false := all_false (i := i) (by rw [List.getElem?_zip_eq_some]; exact ⟨h1, h2⟩) h
theorem zip_all_true {α β : Type} {l : List α} {m : List β} {f : α × β → Bool} (h : ∀ (i : Nat) (a : α) (b : β), l[i]? = some a → m[i]? = some b → f (a, b) = true) : (l.zip m).all f = true := all_true fun i ab hi => by
 obtain ⟨a, b⟩ := ab
 rw [List.getElem?_zip_eq_some] at hi
 exact h i a b hi.1 hi.2
theorem range_all_true {n : Nat} {f : Nat → Bool} (h : ∀ i, i < n → f i = true) : (List.range n).all f = true := by
 rw [List.all_eq_true]
 intro i hi
 exact h i (List.mem_range.1 hi)
theorem range_all_false {n : Nat} {f : Nat → Bool} {i : Nat} (hi : i < n) (h : f i = false) : (List.range n).all f = false := by
 rw [Bool.eq_false_iff, ne_eq, List.all_eq_true]
 intro h0
 rw [h0 i (List.mem_range.2 hi)] at h
 cases h
theorem signQ_zero_iff {q : Rat} : signQ q = 0 ↔ q = 0 := by
 unfold signQ
 constructor
 ·intro h
  split at h
  ·rename_i h0; exact Rat.num_eq_zero.1 h0
  ·split at h <;> omega
 ·rintro rfl; rfl
theorem neq_nil (w : World) : Sem.run Tryz.prog (binOp .neq 23 (.slice none 0 0) (.slice none 0 0)) w = .ok (.bool false) w := by
 kernel_rfl
theorem neq_some (w : World) (A : Addr) (n c : Nat) : Sem.run Tryz.prog (binOp .neq 23 (.slice (some A) n c) (.slice none 0 0)) w = .ok (.bool true) w := by
 kernel_rfl
theorem beqI' {a b : Int} (h : a = b) : (a == b) = true := by simpa using h
theorem bneI' {a b : Int} (h : a ≠ b) : (a == b) = false := by simpa using h
set_option maxHeartbeats 32000000 in
set_option maxRecDepth 100000 in
theorem bounds0_calls (w : World) (v v2 : Value) (p : ProgF) (y : List RawF) (h : PR w v p) (h2 : FL w v2 y) (hr : rightP p = 0) (hy : y.length ≤ 100000) : Calls Tryz.prog 54 #[v, v2, .slice none 0 0] w fun e w' => BPost w (boundsB p y none) e w' := by
 have hrl := rightP_len hr
 clear hr
 obtain ⟨A1, c1, A2, c2, A3, c3, rfl, HI, H1, H2, H3⟩ := h.opened
 obtain ⟨A4, c4, rfl, hc4⟩ := h2.slice
 have HY := Hd h2
 clear h h2
 obtain ⟨vars, hv⟩ : ∃ n, n = p.vars := ⟨_, rfl⟩
 rw [← hv]
 have HV := Hd hv
 have hfl : (p.free.length : Int) = vars := by rw [hv]; exact hrl.1
 have hv1 : 1 ≤ vars := by rw [hv]; exact hrl.2.2.1
 have hvl : vars ≤ 160 := by rw [hv]; exact hrl.2.2.2.1
 have hrw : p.rows.length ≤ 400 := hrl.2.2.2.2.1
 have HROW : Hid (∀ (r : RowF), r ∈ p.rows → (r.a.length : Int) = vars) := by unfold Hid; rw [hv]; exact fun r hm => (hrl.2.2.2.2.2 r hm).1
 clear hv hrl
 obtain ⟨n, hn⟩ : ∃ n : Nat, vars = (n : Int) := ⟨vars.toNat, by omega⟩
 subst hn
 have hn1 : 1 ≤ n := by omega
 have hn2 : n ≤ 160 := by omega
 have HFL : Hid (p.free.length = n) := by unfold Hid; omega
 have HVN : Hid (p.vars.toNat = n) := by unfold Hid; rw [← HV.out]; omega
 obtain ⟨ys, hys⟩ : ∃ ys, ys = y.map fixQ := ⟨_, rfl⟩
 have HYS := Hd hys
 clear hfl hv1 hvl hys
 go_enter Tryz.func54, Tryz.ntmps54
 by_cases q1 : y.length = p.rows.length
 case neg =>
  have u1 : ((y.length : Int) != (p.rows.length : Int)) = true := bneI (by omega)
  have HE : Hid (boundsB p y none = false) := by unfold Hid boundsB; rw [decide_eq_false q1]; rfl
  clear q1
  go_wp2_with fail
  go_ret
  exact ⟨by rw [HE.out]; rfl, below_new w _⟩
 have HE0 : Hid (boundsB p y none = (signsB p.rows ys && (List.range n).all (colOk p ys none))) := by unfold Hid boundsB; rw [decide_eq_true q1, HYS.out, HVN.out]; rfl
 have HLEN := Hd q1
 clear q1
 have hlr : p.rows.length = y.length := HLEN.out.symm
 have u1 : ((y.length : Int) != (p.rows.length : Int)) = false := beqI (by omega)
 clear hlr
 go_wp2_with fail
 have H0 := Hd (HS.one (w := w) #[.int .i64 (n : Int), .slice A1 p.free.length c1, .slice A2 p.goal.length c2, .slice A3 p.rows.length c3] 26)
 generalize w.alloc (.cells #[.int .i64 (n : Int), .slice A1 p.free.length c1, .slice A2 p.goal.length c2, .slice A3 p.rows.length c3] 26) = W0 at *
 clear u1
 go_loopw [24] (fun vi wr => ∃ i : Nat, i ≤ p.rows.length ∧ vi = .int .i64 (i : Int) ∧ (∀ (j : Nat) (r : RowF) (q : Rat), j < i → p.rows[j]? = some r → ys[j]? = some q → badSign r.s q = false) ∧ HS w [(w.heap.size, 26, #[.int .i64 (n : Int), .slice A1 p.free.length c1, .slice A2 p.goal.length c2, .slice A3 p.rows.length c3])] wr) (fun vi _ => p.rows.length - (intOf vi).toNat)
 case atStart => exact ⟨0, Nat.zero_le _, rfl, fun j _ _ h => absurd h (Nat.not_lt_zero _), H0.out⟩
 case round =>
  obtain ⟨i, hi, rfl, hall, hk⟩ := hrel
  have HA := Hd hall
  have HK := Hd hk
  clear hall hk
  by_cases hlt : i < p.rows.length
  ·obtain ⟨r, hr⟩ : ∃ r, p.rows[i]? = some r := ⟨p.rows[i], List.getElem?_eq_getElem hlt⟩
   have hly := HLEN.out
   obtain ⟨f, hf⟩ : ∃ f, y[i]? = some f := ⟨y[i]'(by omega), List.getElem?_eq_getElem _⟩
   obtain ⟨g1, o1, B1, d1, B2, n2, d2, B3, n3, d3, rfl, hg, k0, k1, k2, k3, k4, _, _, _⟩ := RL.at5 (H3.out.below ER.stays HK.out.2) hr
   obtain ⟨g2, o2, C1, l1, e1, C2, l2, e2, rfl, hg2, j0, j1, j2, HFE⟩ := FL.at3 (HY.out.below EF.stays HK.out.2) hf
   have HYI : Hid (ys[i]? = some (fixQ f)) := by unfold Hid; rw [HYS.out, List.getElem?_map, hf]; rfl
   have HRR := Hd hr
   have m1 : (i : Int) < (p.rows.length : Int) := by omega
   have m2 : (i : Int) < (y.length : Int) := by omega
   have m3 : (i : Int).toNat = i := by omega
   have m4 : (0 : Int) ≤ (i : Int) := by omega
   obtain ⟨s, hs⟩ : ∃ s, s = r.s := ⟨_, rfl⟩
   rw [← hs] at k1
   have HSE := Hd hs
   have hz0 := (HK.out.blk 0 rfl).lt
   clear hr hf hs hly
   go_wp2_with fail
   have HB1 := Hd (below_new wr (.cells #[.slice B1 r.a.length d1, .int .i64 s, .bool r.b.neg, .slice B2 n2 d2, .slice B3 n3 d3] 73))
   have HKB1 := Hd (Blk.new wr 73 #[.slice B1 r.a.length d1, .int .i64 s, .bool r.b.neg, .slice B2 n2 d2, .slice B3 n3 d3])
   generalize wr.alloc (.cells #[.slice B1 r.a.length d1, .int .i64 s, .bool r.b.neg, .slice B2 n2 d2, .slice B3 n3 d3] 73) = W1 at *
   refine (sgn_calls W1 _ f (HFE.out.of_below HB1.out)).mono ?_
   rintro e w2 ⟨rfl, hb⟩
   have HB2 := Hd (below_next HB1.out hb)
   have z1 := (HKB1.out.below hb HKB1.out.lt).cell (j := 1) rfl
   clear hb
   obtain ⟨c, hc⟩ : ∃ c, c = signQ (fixQ f) := ⟨_, rfl⟩
   have HBAD : Hid (badSign r.s (fixQ f) = ((decide (s = -1) && decide (c < 0)) || (decide (s = 1) && decide (c > 0)))) := by unfold Hid badSign; rw [← HSE.out, ← hc]
   rw [← hc]
   clear hc
   have fin : ∀ wz, Below wr.heap.size wr wz → badSign r.s (fixQ f) = false → (∃ i', i' ≤ p.rows.length ∧ Value.int .i64 ((i : Int) + 1) = .int .i64 (i' : Int) ∧ (∀ (j : Nat) (r : RowF) (q : Rat), j < i' → p.rows[j]? = some r → ys[j]? = some q → badSign r.s q = false) ∧ HS w [(w.heap.size, 26, #[.int .i64 (n : Int), .slice A1 p.free.length c1, .slice A2 p.goal.length c2, .slice (some ⟨g1, o1, none⟩) p.rows.length c3])] wz) := fun wz hbz hgood => by
    refine ⟨i + 1, by omega, by go_num, fun j r' q' hj hr' hq' => ?_, HK.out.step hbz⟩
    by_cases hji : j = i
    ·subst hji
     rw [HRR.out] at hr'
     rw [HYI.out] at hq'
     injection hr' with e1
     injection hq' with e2
     rw [← e1, ← e2]
     exact hgood
    ·exact HA.out j r' q' (by omega) hr' hq'
   have HFin := Hd fin
   have bad : badSign r.s (fixQ f) = true → boundsB p y none = false := fun h => by
    rw [HE0.out, show signsB p.rows ys = false from zip_all_false HRR.out HYI.out (by rw [h]; rfl)]
    rfl
   have HBadR := Hd bad
   clear fin bad
   by_cases s1 : s = -1
   ·have t1 : (s == -1) = true := beqI' s1
    by_cases s2 : c < 0
    ·have t2 : decide (c < 0) = true := decide_eq_true s2
     have HE2 := Hd (HBadR.out (by rw [HBAD.out, decide_eq_true s1, t2]; rfl))
     clear s1 s2
     go_wp2_with fail
     go_ret
     exact ⟨by rw [HE2.out]; rfl, (HK.out.step HB2.out).2⟩
    ·have t2 : decide (c < 0) = false := decide_eq_false s2
     have t3 : (s == 1) = false := bneI' (by omega)
     have HG : Hid (badSign r.s (fixQ f) = false) := by unfold Hid; rw [HBAD.out, t2, decide_eq_false (show ¬ s = 1 by omega)]; simp
     clear s1 s2
     go_wp2_with fail
     go_roundw
     case rel => exact HFin.out _ HB2.out HG.out
     case measure => simp [intOf]; omega
   ·have t1 : (s == -1) = false := bneI' s1
    by_cases s3 : s = 1
    ·have t3 : (s == 1) = true := beqI' s3
     by_cases s2 : c > 0
     ·have t2 : decide (c > 0) = true := decide_eq_true s2
      have HE2 := Hd (HBadR.out (by rw [HBAD.out, decide_eq_true s3, t2]; simp))
      clear s1 s2 s3
      go_wp2_with fail
      go_ret
      exact ⟨by rw [HE2.out]; rfl, (HK.out.step HB2.out).2⟩
     ·have t2 : decide (c > 0) = false := decide_eq_false s2
      have HG : Hid (badSign r.s (fixQ f) = false) := by unfold Hid; rw [HBAD.out, t2, decide_eq_false s1]; simp
      clear s1 s2 s3
      go_wp2_with fail
      go_roundw
      case rel => exact HFin.out _ HB2.out HG.out
      case measure => simp [intOf]; omega
    ·have t3 : (s == 1) = false := bneI' s3
     have HG : Hid (badSign r.s (fixQ f) = false) := by unfold Hid; rw [HBAD.out, decide_eq_false s1, decide_eq_false s3]; simp
     clear s1 s3
     go_wp2_with fail
     go_roundw
     case rel => exact HFin.out _ HB2.out HG.out
     case measure => simp [intOf]; omega
  ·obtain rfl : i = p.rows.length := by omega
   have HE1 : Hid (boundsB p y none = (List.range n).all (colOk p ys none)) := by
    unfold Hid
    rw [HE0.out, show signsB p.rows ys = true from zip_all_true fun j r q h1 h2 => by
     rw [HA.out j r q (List.getElem?_eq_some_iff.1 h1).1 h1 h2]; rfl]
    rfl
   obtain ⟨wo, hwo⟩ : ∃ wo, wo = wr := ⟨_, rfl⟩
   rw [← hwo] at HK ⊢
   obtain ⟨x0, x1, x2, x3⟩ := HK.out.c4 0 rfl
   clear hwo HA H0 HE0
   go_wp2_with fail
   clear x0 x1 x2 x3
   go_loopw [53] (fun vi wr => ∃ i : Nat, i ≤ n ∧ vi = .int .i64 (i : Int) ∧ (∀ (j : Nat), j < i → colOk p ys none j = true) ∧ HS w [(w.heap.size, 26, #[.int .i64 (n : Int), .slice A1 p.free.length c1, .slice A2 p.goal.length c2, .slice A3 p.rows.length c3])] wr) (fun vi _ => n - (intOf vi).toNat)
   case atStart => exact ⟨0, Nat.zero_le _, rfl, fun j h => absurd h (Nat.not_lt_zero _), HK.out⟩
   case round =>
    obtain ⟨i, hi, rfl, hall, hk⟩ := hrel
    have HA := Hd hall
    have HK2 := Hd hk
    clear hall hk HK
    by_cases hlt : i < n
    case neg =>
     obtain rfl : i = n := by omega
     have HE2 : Hid (boundsB p y none = true) := by unfold Hid; rw [HE1.out]; exact range_all_true HA.out
     go_wp2_with fail
     go_ret
     exact ⟨by rw [HE2.out]; rfl, HK2.out.2⟩
    have m1 : (i : Int) < (n : Int) := by omega
    go_wp2_with fail
    refine (frac_nil_calls wr).mono ?_
    rintro e w1 ⟨v, rfl, hv, hb⟩
    obtain ⟨D5, n5, d5, D6, n6, d6, rfl, HVZ⟩ := hv.opened
    have HK3 := Hd (HK2.out.step hb)
    obtain ⟨x0, x1, x2, x3⟩ := HK3.out.c4 0 rfl
    have hlt2 := (HK3.out.blk 0 rfl).lt
    clear hv hb
    go_wp2_with fail
    clear x0 x1 x2 x3
    have HK4 := Hd (HK3.out.more (.cells #[.bool (negQ 0), .slice D5 n5 d5, .slice D6 n6 d6] 46))
    have HA0 := Hd (show AccF (w1.alloc (.cells #[.bool (negQ 0), .slice D5 n5 d5, .slice D6 n6 d6] 46)) w1.heap.size 0 from ⟨D5, n5, d5, D6, n6, d6, Blk.new _ _ _, HVZ.out.of_below (below_new _ _)⟩)
    obtain ⟨gz, hgz⟩ : ∃ gz, gz = w1.heap.size := ⟨_, rfl⟩
    rw [← hgz] at HA0
    have hzne : w.heap.size < gz := by omega
    generalize w1.alloc (.cells #[.bool (negQ 0), .slice D5 n5 d5, .slice D6 n6 d6] 46) = W2 at *
    rw [← hgz]
    clear hgz
    obtain ⟨ds, hds⟩ : ∃ ds, ds = colL p.rows ys i := ⟨_, rfl⟩
    have HDS := Hd hds
    clear hds hlt2
    go_loopw [60] (fun vj wr => ∃ j : Nat, j ≤ p.rows.length ∧ vj = .int .i64 (j : Int) ∧ AccF wr gz ((ds.take j).foldl dotStep 0) ∧ HS w [(w.heap.size, 26, #[.int .i64 (n : Int), .slice A1 p.free.length c1, .slice A2 p.goal.length c2, .slice A3 p.rows.length c3])] wr) (fun vj _ => p.rows.length - (intOf vj).toNat)
    case atStart => exact ⟨0, Nat.zero_le _, rfl, HA0.out, HK4.out⟩
    case round =>
     obtain ⟨j, hj, rfl, hacc, hk⟩ := hrel
     have HA5 := Hd hacc
     have HK5 := Hd hk
     have hcap : capQ ((ds.take j).foldl dotStep 0) = (ds.take j).foldl dotStep 0 := rdot_cap _ _ capQ_zero
     obtain ⟨sm, hsm⟩ : ∃ s, s = (ds.take j).foldl dotStep 0 := ⟨_, rfl⟩
     rw [← hsm] at hcap HA5
     have HSM := Hd hsm
     have HCAP := Hd hcap
     clear hacc hk hsm hcap HA0 HK4 HK3
     by_cases hjlt : j < p.rows.length
     ·obtain ⟨r, hr⟩ : ∃ r, p.rows[j]? = some r := ⟨p.rows[j], List.getElem?_eq_getElem hjlt⟩
      have hly := HLEN.out
      have hra := HROW.out r (List.mem_of_getElem? hr)
      obtain ⟨f, hf⟩ : ∃ f, y[j]? = some f := ⟨y[j]'(by omega), List.getElem?_eq_getElem _⟩
      obtain ⟨av, hav⟩ : ∃ f, r.a[i]? = some f := ⟨r.a[i]'(by omega), List.getElem?_eq_getElem _⟩
      obtain ⟨g1, o1, B1, d1, B2, n2, d2, B3, n3, d3, rfl, hg, k0, k1, k2, k3, k4, _, HRA, _⟩ := RL.at5 (H3.out.below ER.stays HK5.out.2) hr
      obtain ⟨g2, o2, C1, l1, e1, C2, l2, e2, rfl, hg2, j0, j1, j2, HFE⟩ := FL.at3 (HY.out.below EF.stays HK5.out.2) hf
      obtain ⟨g3, o3, C3, l3, e3, C4, l4, e4, rfl, hg3, q0, q1, q2, HAE⟩ := FL.at3 HRA.out hav
      have hdj : ds[j]? = some (fixQ f * fixQ av) := by rw [HDS.out, HYS.out]; unfold colL; simp [List.getElem?_zipWith, hr, hf, nthF_get hav]
      obtain ⟨pr, hpr⟩ : ∃ q, q = fixQ f * fixQ av := ⟨_, rfl⟩
      rw [← hpr] at hdj
      have HPR := Hd hpr
      have HNX : Hid ((ds.take (j + 1)).foldl dotStep 0 = dotStep sm pr) := by
       unfold Hid
       rw [List.take_add_one, hdj]
       rw [show ds.take j ++ (some pr).toList = ds.take j ++ [pr] from rfl, fold_snoc, ← HSM.out]
      have n1 : (j : Int) < (p.rows.length : Int) := by omega
      have n2' : (j : Int) < (y.length : Int) := by omega
      have n3' : (j : Int).toNat = j := by omega
      have n4' : (0 : Int) ≤ (j : Int) := by omega
      have n5' : (i : Int) < (r.a.length : Int) := by omega
      have n6' : (i : Int).toNat = i := by omega
      have n7' : (0 : Int) ≤ (i : Int) := by omega
      obtain ⟨s, hs⟩ : ∃ s, s = r.s := ⟨_, rfl⟩
      rw [← hs] at k1
      have hz0 := (HK5.out.blk 0 rfl).lt
      clear hr hf hs hly hav hdj hpr hra
      go_wp2_with fail
      have HB1 := Hd (below_new wr (.cells #[.slice (some ⟨g3, o3, none⟩) r.a.length d1, .int .i64 s, .bool r.b.neg, .slice B2 n2 d2, .slice B3 n3 d3] 73))
      have HKB1 := Hd (Blk.new wr 73 #[.slice (some ⟨g3, o3, none⟩) r.a.length d1, .int .i64 s, .bool r.b.neg, .slice B2 n2 d2, .slice B3 n3 d3])
      obtain ⟨gr, hgr⟩ : ∃ gr, gr = wr.heap.size := ⟨_, rfl⟩
      rw [← hgr] at HKB1
      generalize wr.alloc (.cells #[.slice (some ⟨g3, o3, none⟩) r.a.length d1, .int .i64 s, .bool r.b.neg, .slice B2 n2 d2, .slice B3 n3 d3] 73) = W1 at *
      rw [← hgr]
      clear hgr
      refine (sgn_calls W1 _ f (HFE.out.of_below HB1.out)).mono ?_
      rintro e w2 ⟨rfl, hb⟩
      have HB2 := Hd (below_next HB1.out hb)
      have hkb2 := HKB1.out.below hb HKB1.out.lt
      have z0 := hkb2.cell (j := 0) rfl
      have hzl := hkb2.lt
      clear hb hkb2
      have HRound : Hid (∀ wz, AccF wz gz (dotStep sm pr) → HS w [(w.heap.size, 26, #[.int .i64 (n : Int), .slice A1 p.free.length c1, .slice A2 p.goal.length c2, .slice (some ⟨g1, o1, none⟩) p.rows.length c3])] wz → ∃ j', j' ≤ p.rows.length ∧ Value.int .i64 ((j : Int) + 1) = .int .i64 (j' : Int) ∧ AccF wz gz ((ds.take j').foldl dotStep 0) ∧ HS w [(w.heap.size, 26, #[.int .i64 (n : Int), .slice A1 p.free.length c1, .slice A2 p.goal.length c2, .slice (some ⟨g1, o1, none⟩) p.rows.length c3])] wz) := by
       intro wz h1 h2
       exact ⟨j + 1, by omega, by go_num, by rw [HNX.out]; exact h1, h2⟩
      by_cases s0 : signQ (fixQ f) = 0
      ·have t0 : (signQ (fixQ f) != 0) = false := beqI s0
       have HP0 : Hid (dotStep sm pr = sm) := by unfold Hid; rw [HPR.out, signQ_zero_iff.1 s0, Rat.zero_mul, dotStep_zero HCAP.out]
       clear s0
       go_wp2_with fail
       go_roundw
       case rel => exact HRound.out _ (by rw [HP0.out]; exact HA5.out.step HB2.out) (HK5.out.step HB2.out)
       case measure => simp [intOf]; omega
      have t0 : (signQ (fixQ f) != 0) = true := bneI s0
      clear s0
      have HA6 := Hd (HA5.out.step HB2.out)
      have hb2c := (bcell HB2.out).1
      obtain ⟨E5, k5, f5, E6, k6, f6, hk, hR⟩ := HA6.out
      have HR1 := Hd hR
      obtain ⟨a0, a1, a2⟩ := hk.c3
      obtain ⟨b0, b1, b2⟩ := hk.f3
      have hlt3 := hk.lt
      have HFE2 := Hd (HFE.out.of_below HB2.out)
      have HAE2 := Hd (HAE.out.of_below HB2.out)
      have HK6 := Hd (HK5.out.step HB2.out)
      have j0' := (hb2c g2 _ hg2).trans j0
      have j1' := (hb2c g2 _ hg2).trans j1
      have j2' := (hb2c g2 _ hg2).trans j2
      have q0' := (hb2c g3 _ hg3).trans q0
      have q1' := (hb2c g3 _ hg3).trans q1
      have q2' := (hb2c g3 _ hg3).trans q2
      have hg2' : g2 < w2.heap.size := Nat.lt_of_lt_of_le hg2 HB2.out.size
      have hg3' : g3 < w2.heap.size := Nat.lt_of_lt_of_le hg3 HB2.out.size
      clear hR hk hb2c j0 j1 j2 q0 q1 q2 k0 k1 k2 k3 k4
      go_wp2_with fail
      refine wp_chain (S := Below w2.heap.size w2) 12 [([0, 1, 2, 3, 4, 5, 6, 7, 8, 9], 10), ([], 11), ([], 12)] (by kernel_rfl) (by kernel_rfl) (by kernel_rfl) rfl (Below.drew (Below.refl _ _)) ?_
      refine ⟨?_, _, ?_, rfl, ?_⟩
      rotate_left
      ·repeat (refine ⟨_, ?_, rfl, Or.inl ⟨by rfl, ?_⟩, ?_⟩; rotate_left; focus (intro W hW; replace hW := (bcell hW).1; go_simp; try with_reducible rfl); (try simp only [SQ]))
       exact rfl
      go_wp2_with fail
      refine (fmul_calls _ _ _ f av (HFE2.out.of_below (Below.drew (Below.refl _ _))) (HAE2.out.of_below (Below.drew (Below.refl _ _)))).mono ?_
      rintro e w7 ⟨v, rfl, hv, hb⟩
      rw [← HPR.out] at hv
      obtain ⟨A7, n7, c7, A8, n8, c8, rfl, HV5⟩ := hv.opened
      have HB7 := Hd (below_next (Below.drew (Below.refl w2.heap.size w2)) hb)
      clear hv hb
      go_wp2_with fail
      refine And.intro HB7.out ⟨_, _, rfl, rfl, ?_⟩
      go_wp2_with fail
      refine (fadd_calls _ _ _ _ _ (FR.of_fq (HR1.out.of_below HB7.out) (by rw [← HCAP.out]; exact capQ_size _)) (FR.of_fq HV5.out (capQ_size _))).mono ?_
      rintro e w8 ⟨v, rfl, hv, hb⟩
      have hpost : capQ (fixQ (rawQ sm) + fixQ (rawQ (capQ pr))) = dotStep sm pr := by
       rw [fixQ_raw _ (by rw [← HCAP.out]; exact capQ_size _), fixQ_raw _ (capQ_size _)]
       rfl
      rw [hpost] at hv
      obtain ⟨A9, n9, c9, A10, n10, c10, rfl, HV6⟩ := hv.opened
      have HB8 := Hd (below_next HB7.out hb)
      clear hv hb hpost
      go_wp2_with fail
      refine And.intro HB8.out ⟨_, _, rfl, rfl, ?_⟩
      have HA8 := Hd (HA6.out.step HB8.out)
      obtain ⟨_, _, _, _, _, _, hk5, _⟩ := HA8.out
      obtain ⟨y0, y1, y2⟩ := hk5.c3
      obtain ⟨f0, f1, f2⟩ := hk5.f3
      clear hk5
      go_wp2_with fail
      refine NoPanic.normal ?_
      go_wp2_with fail
      go_roundw
      case rel => exact HRound.out _ (HA8.out.put HV6.out) ((HK6.out.step HB8.out).other3 (by omega) (by simp; omega) _ _ _)
      case measure => simp [intOf]; omega
     ·obtain rfl : j = p.rows.length := by omega
      have hly := HLEN.out
      have hzl : ds.take p.rows.length = ds := List.take_of_length_le (by rw [HDS.out, HYS.out]; unfold colL; rw [List.length_zipWith, List.length_map]; omega)
      have HCQ : Hid (colQ p.rows ys i = sm) := by unfold Hid colQ; rw [← HDS.out, HSM.out, hzl]
      clear hzl hly
      have hif : i < p.free.length := by have := HFL.out; omega
      obtain ⟨bf, hbf⟩ : ∃ b, p.free[i]? = some b := ⟨p.free[i], List.getElem?_eq_getElem hif⟩
      obtain ⟨g4, o4, rfl, hg4, kb⟩ := BL.at1 (H1.out.below EB.stays HK5.out.2) hbf
      have HFA : Hid (freeAt p i = bf) := by unfold Hid freeAt; rw [List.getD_eq_getElem?_getD, hbf]; rfl
      have m6 : (i : Int).toNat = i := by omega
      have m7 : (0 : Int) ≤ (i : Int) := by omega
      have m8 : (i : Int) < (p.free.length : Int) := by omega
      have HBF := Hd hbf
      clear hbf hif
      have HCV : Hid (colV p.rows ys none i = sm) := by unfold Hid colV; exact HCQ.out
      obtain ⟨E5, k5, f5, E6, k6, f6, hk, hR⟩ := HA5.out
      have HR1 := Hd hR
      obtain ⟨a0, a1, a2⟩ := hk.c3
      have hnn := neq_nil wr
      clear hR hk
      go_wp2_with fail
      refine (sgn_calls _ _ _ (FR.of_fq HR1.out (by rw [← HCAP.out]; exact capQ_size _))).mono ?_
      rintro e wE ⟨rfl, hb⟩
      rw [fixQ_raw _ (by rw [← HCAP.out]; exact capQ_size _)]
      have HKE := Hd (HK5.out.step hb)
      have kb' := ((bcell hb).1 g4 _ hg4).trans kb
      clear hb kb
      obtain ⟨x0, x1, x2, x3⟩ := HKE.out.c4 0 rfl
      have hltp := (HKE.out.blk 0 rfl).lt
      obtain ⟨c, hc⟩ : ∃ c, c = signQ sm := ⟨_, rfl⟩
      have HOK : Hid (colOk p ys none i = !(decide (c < 0) || (decide (c > 0) && bf))) := by unfold Hid colOk; rw [HCV.out, hc, HFA.out]
      rw [← hc]
      clear hc
      have HRound : Hid (∀ wz, Below wE.heap.size wE wz → colOk p ys none i = true → ∃ i', i' ≤ n ∧ Value.int .i64 ((i : Int) + 1) = .int .i64 (i' : Int) ∧ (∀ (j : Nat), j < i' → colOk p ys none j = true) ∧ HS w [(w.heap.size, 26, #[.int .i64 (n : Int), .slice (some ⟨g4, o4, none⟩) p.free.length c1, .slice A2 p.goal.length c2, .slice A3 p.rows.length c3])] wz) := by
       intro wz h1 h2
       refine ⟨i + 1, by omega, by go_num, fun j hj => ?_, HKE.out.step h1⟩
       by_cases hji : j = i
       ·rw [hji]; exact h2
       ·exact HA.out j (by omega)
      by_cases s1 : c < 0
      ·have t1 : decide (c < 0) = true := decide_eq_true s1
       have HE2 : Hid (boundsB p y none = false) := by unfold Hid; rw [HE1.out]; exact range_all_false hlt (by rw [HOK.out, t1]; rfl)
       clear s1
       go_wp2_with fail
       go_ret
       exact ⟨by rw [HE2.out]; rfl, HKE.out.2⟩
      have t1 : decide (c < 0) = false := decide_eq_false s1
      by_cases s2 : c > 0
      ·have t2 : decide (c > 0) = true := decide_eq_true s2
       cases bf with
       | true =>
        have HE2 : Hid (boundsB p y none = false) := by unfold Hid; rw [HE1.out]; exact range_all_false hlt (by rw [HOK.out, t1, t2]; rfl)
        clear s1 s2
        go_wp2_with fail
        go_ret
        exact ⟨by rw [HE2.out]; rfl, HKE.out.2⟩
       | false =>
        have HG : Hid (colOk p ys none i = true) := by unfold Hid; rw [HOK.out, t1, t2]; rfl
        clear s1 s2
        go_wp2_with fail
        go_roundw
        case rel => exact HRound.out _ (Below.refl _ _) HG.out
        case measure => simp [intOf]; omega
      ·have t2 : decide (c > 0) = false := decide_eq_false s2
       have HG : Hid (colOk p ys none i = true) := by unfold Hid; rw [HOK.out, t1, t2]; rfl
       clear s1 s2
       go_wp2_with fail
       go_roundw
       case rel => exact HRound.out _ (Below.refl _ _) HG.out
       case measure => simp [intOf]; omega
set_option maxHeartbeats 32000000 in
set_option maxRecDepth 100000 in
theorem bounds_calls (w : World) (v v2 : Value) (p : ProgF) (y : List RawF) (h : PR w v p) (h2 : FL w v2 y) (v3 : Value) (g : List RawF) (hg3 : FL w v3 g) (hgl : (g.length : Int) = p.vars) (hr : rightP p = 0) (hy : y.length ≤ 100000) : Calls Tryz.prog 54 #[v, v2, v3] w fun e w' => BPost w (boundsB p y (some g)) e w' := by
 have hrl := rightP_len hr
 clear hr
 obtain ⟨A1, c1, A2, c2, A3, c3, rfl, HI, H1, H2, H3⟩ := h.opened
 obtain ⟨A4, c4, rfl, hc4⟩ := h2.slice
 have HY := Hd h2
 obtain ⟨g0, hg0⟩ : ∃ f, g[0]? = some f := ⟨g[0]'(by have := hrl.2.2.1; omega), List.getElem?_eq_getElem _⟩
 obtain ⟨A6, c6, rfl, hc6⟩ := hg3.slice
 obtain ⟨gb, ob, _, _, _, _, _, _, rfl, _, _, _, _, _⟩ := FL.at3 hg3 hg0
 have HG := Hd hg3
 clear hg0 hg3
 clear h h2
 obtain ⟨vars, hv⟩ : ∃ n, n = p.vars := ⟨_, rfl⟩
 rw [← hv]
 have HV := Hd hv
 have hfl : (p.free.length : Int) = vars := by rw [hv]; exact hrl.1
 have hv1 : 1 ≤ vars := by rw [hv]; exact hrl.2.2.1
 have hvl : vars ≤ 160 := by rw [hv]; exact hrl.2.2.2.1
 have hrw : p.rows.length ≤ 400 := hrl.2.2.2.2.1
 have HROW : Hid (∀ (r : RowF), r ∈ p.rows → (r.a.length : Int) = vars) := by unfold Hid; rw [hv]; exact fun r hm => (hrl.2.2.2.2.2 r hm).1
 have hgv : (g.length : Int) = vars := by rw [hv]; exact hgl
 have HGV := Hd hgv
 clear hgv hgl
 clear hv hrl
 obtain ⟨n, hn⟩ : ∃ n : Nat, vars = (n : Int) := ⟨vars.toNat, by omega⟩
 subst hn
 have hn1 : 1 ≤ n := by omega
 have hn2 : n ≤ 160 := by omega
 have HFL : Hid (p.free.length = n) := by unfold Hid; omega
 have HVN : Hid (p.vars.toNat = n) := by unfold Hid; rw [← HV.out]; omega
 obtain ⟨ys, hys⟩ : ∃ ys, ys = y.map fixQ := ⟨_, rfl⟩
 have HYS := Hd hys
 clear hfl hv1 hvl hys
 go_enter Tryz.func54, Tryz.ntmps54
 by_cases q1 : y.length = p.rows.length
 case neg =>
  have u1 : ((y.length : Int) != (p.rows.length : Int)) = true := bneI (by omega)
  have HE : Hid (boundsB p y (some g) = false) := by unfold Hid boundsB; rw [decide_eq_false q1]; rfl
  clear q1
  go_wp2_with fail
  go_ret
  exact ⟨by rw [HE.out]; rfl, below_new w _⟩
 have HE0 : Hid (boundsB p y (some g) = (signsB p.rows ys && (List.range n).all (colOk p ys (some g)))) := by unfold Hid boundsB; rw [decide_eq_true q1, HYS.out, HVN.out]; rfl
 have HLEN := Hd q1
 clear q1
 have hlr : p.rows.length = y.length := HLEN.out.symm
 have u1 : ((y.length : Int) != (p.rows.length : Int)) = false := beqI (by omega)
 clear hlr
 go_wp2_with fail
 have H0 := Hd (HS.one (w := w) #[.int .i64 (n : Int), .slice A1 p.free.length c1, .slice A2 p.goal.length c2, .slice A3 p.rows.length c3] 26)
 generalize w.alloc (.cells #[.int .i64 (n : Int), .slice A1 p.free.length c1, .slice A2 p.goal.length c2, .slice A3 p.rows.length c3] 26) = W0 at *
 clear u1
 go_loopw [24] (fun vi wr => ∃ i : Nat, i ≤ p.rows.length ∧ vi = .int .i64 (i : Int) ∧ (∀ (j : Nat) (r : RowF) (q : Rat), j < i → p.rows[j]? = some r → ys[j]? = some q → badSign r.s q = false) ∧ HS w [(w.heap.size, 26, #[.int .i64 (n : Int), .slice A1 p.free.length c1, .slice A2 p.goal.length c2, .slice A3 p.rows.length c3])] wr) (fun vi _ => p.rows.length - (intOf vi).toNat)
 case atStart => exact ⟨0, Nat.zero_le _, rfl, fun j _ _ h => absurd h (Nat.not_lt_zero _), H0.out⟩
 case round =>
  obtain ⟨i, hi, rfl, hall, hk⟩ := hrel
  have HA := Hd hall
  have HK := Hd hk
  clear hall hk
  by_cases hlt : i < p.rows.length
  ·obtain ⟨r, hr⟩ : ∃ r, p.rows[i]? = some r := ⟨p.rows[i], List.getElem?_eq_getElem hlt⟩
   have hly := HLEN.out
   obtain ⟨f, hf⟩ : ∃ f, y[i]? = some f := ⟨y[i]'(by omega), List.getElem?_eq_getElem _⟩
   obtain ⟨g1, o1, B1, d1, B2, n2, d2, B3, n3, d3, rfl, hg, k0, k1, k2, k3, k4, _, _, _⟩ := RL.at5 (H3.out.below ER.stays HK.out.2) hr
   obtain ⟨g2, o2, C1, l1, e1, C2, l2, e2, rfl, hg2, j0, j1, j2, HFE⟩ := FL.at3 (HY.out.below EF.stays HK.out.2) hf
   have HYI : Hid (ys[i]? = some (fixQ f)) := by unfold Hid; rw [HYS.out, List.getElem?_map, hf]; rfl
   have HRR := Hd hr
   have m1 : (i : Int) < (p.rows.length : Int) := by omega
   have m2 : (i : Int) < (y.length : Int) := by omega
   have m3 : (i : Int).toNat = i := by omega
   have m4 : (0 : Int) ≤ (i : Int) := by omega
   obtain ⟨s, hs⟩ : ∃ s, s = r.s := ⟨_, rfl⟩
   rw [← hs] at k1
   have HSE := Hd hs
   have hz0 := (HK.out.blk 0 rfl).lt
   clear hr hf hs hly
   go_wp2_with fail
   have HB1 := Hd (below_new wr (.cells #[.slice B1 r.a.length d1, .int .i64 s, .bool r.b.neg, .slice B2 n2 d2, .slice B3 n3 d3] 73))
   have HKB1 := Hd (Blk.new wr 73 #[.slice B1 r.a.length d1, .int .i64 s, .bool r.b.neg, .slice B2 n2 d2, .slice B3 n3 d3])
   generalize wr.alloc (.cells #[.slice B1 r.a.length d1, .int .i64 s, .bool r.b.neg, .slice B2 n2 d2, .slice B3 n3 d3] 73) = W1 at *
   refine (sgn_calls W1 _ f (HFE.out.of_below HB1.out)).mono ?_
   rintro e w2 ⟨rfl, hb⟩
   have HB2 := Hd (below_next HB1.out hb)
   have z1 := (HKB1.out.below hb HKB1.out.lt).cell (j := 1) rfl
   clear hb
   obtain ⟨c, hc⟩ : ∃ c, c = signQ (fixQ f) := ⟨_, rfl⟩
   have HBAD : Hid (badSign r.s (fixQ f) = ((decide (s = -1) && decide (c < 0)) || (decide (s = 1) && decide (c > 0)))) := by unfold Hid badSign; rw [← HSE.out, ← hc]
   rw [← hc]
   clear hc
   have fin : ∀ wz, Below wr.heap.size wr wz → badSign r.s (fixQ f) = false → (∃ i', i' ≤ p.rows.length ∧ Value.int .i64 ((i : Int) + 1) = .int .i64 (i' : Int) ∧ (∀ (j : Nat) (r : RowF) (q : Rat), j < i' → p.rows[j]? = some r → ys[j]? = some q → badSign r.s q = false) ∧ HS w [(w.heap.size, 26, #[.int .i64 (n : Int), .slice A1 p.free.length c1, .slice A2 p.goal.length c2, .slice (some ⟨g1, o1, none⟩) p.rows.length c3])] wz) := fun wz hbz hgood => by
    refine ⟨i + 1, by omega, by go_num, fun j r' q' hj hr' hq' => ?_, HK.out.step hbz⟩
    by_cases hji : j = i
    ·subst hji
     rw [HRR.out] at hr'
     rw [HYI.out] at hq'
     injection hr' with e1
     injection hq' with e2
     rw [← e1, ← e2]
     exact hgood
    ·exact HA.out j r' q' (by omega) hr' hq'
   have HFin := Hd fin
   have bad : badSign r.s (fixQ f) = true → boundsB p y (some g) = false := fun h => by
    rw [HE0.out, show signsB p.rows ys = false from zip_all_false HRR.out HYI.out (by rw [h]; rfl)]
    rfl
   have HBadR := Hd bad
   clear fin bad
   by_cases s1 : s = -1
   ·have t1 : (s == -1) = true := beqI' s1
    by_cases s2 : c < 0
    ·have t2 : decide (c < 0) = true := decide_eq_true s2
     have HE2 := Hd (HBadR.out (by rw [HBAD.out, decide_eq_true s1, t2]; rfl))
     clear s1 s2
     go_wp2_with fail
     go_ret
     exact ⟨by rw [HE2.out]; rfl, (HK.out.step HB2.out).2⟩
    ·have t2 : decide (c < 0) = false := decide_eq_false s2
     have t3 : (s == 1) = false := bneI' (by omega)
     have HG : Hid (badSign r.s (fixQ f) = false) := by unfold Hid; rw [HBAD.out, t2, decide_eq_false (show ¬ s = 1 by omega)]; simp
     clear s1 s2
     go_wp2_with fail
     go_roundw
     case rel => exact HFin.out _ HB2.out HG.out
     case measure => simp [intOf]; omega
   ·have t1 : (s == -1) = false := bneI' s1
    by_cases s3 : s = 1
    ·have t3 : (s == 1) = true := beqI' s3
     by_cases s2 : c > 0
     ·have t2 : decide (c > 0) = true := decide_eq_true s2
      have HE2 := Hd (HBadR.out (by rw [HBAD.out, decide_eq_true s3, t2]; simp))
      clear s1 s2 s3
      go_wp2_with fail
      go_ret
      exact ⟨by rw [HE2.out]; rfl, (HK.out.step HB2.out).2⟩
     ·have t2 : decide (c > 0) = false := decide_eq_false s2
      have HG : Hid (badSign r.s (fixQ f) = false) := by unfold Hid; rw [HBAD.out, t2, decide_eq_false s1]; simp
      clear s1 s2 s3
      go_wp2_with fail
      go_roundw
      case rel => exact HFin.out _ HB2.out HG.out
      case measure => simp [intOf]; omega
    ·have t3 : (s == 1) = false := bneI' s3
     have HG : Hid (badSign r.s (fixQ f) = false) := by unfold Hid; rw [HBAD.out, decide_eq_false s1, decide_eq_false s3]; simp
     clear s1 s3
     go_wp2_with fail
     go_roundw
     case rel => exact HFin.out _ HB2.out HG.out
     case measure => simp [intOf]; omega
  ·obtain rfl : i = p.rows.length := by omega
   have HE1 : Hid (boundsB p y (some g) = (List.range n).all (colOk p ys (some g))) := by
    unfold Hid
    rw [HE0.out, show signsB p.rows ys = true from zip_all_true fun j r q h1 h2 => by
     rw [HA.out j r q (List.getElem?_eq_some_iff.1 h1).1 h1 h2]; rfl]
    rfl
   obtain ⟨wo, hwo⟩ : ∃ wo, wo = wr := ⟨_, rfl⟩
   rw [← hwo] at HK ⊢
   obtain ⟨x0, x1, x2, x3⟩ := HK.out.c4 0 rfl
   clear hwo HA H0 HE0
   go_wp2_with fail
   clear x0 x1 x2 x3
   go_loopw [53] (fun vi wr => ∃ i : Nat, i ≤ n ∧ vi = .int .i64 (i : Int) ∧ (∀ (j : Nat), j < i → colOk p ys (some g) j = true) ∧ HS w [(w.heap.size, 26, #[.int .i64 (n : Int), .slice A1 p.free.length c1, .slice A2 p.goal.length c2, .slice A3 p.rows.length c3])] wr) (fun vi _ => n - (intOf vi).toNat)
   case atStart => exact ⟨0, Nat.zero_le _, rfl, fun j h => absurd h (Nat.not_lt_zero _), HK.out⟩
   case round =>
    obtain ⟨i, hi, rfl, hall, hk⟩ := hrel
    have HA := Hd hall
    have HK2 := Hd hk
    clear hall hk HK
    by_cases hlt : i < n
    case neg =>
     obtain rfl : i = n := by omega
     have HE2 : Hid (boundsB p y (some g) = true) := by unfold Hid; rw [HE1.out]; exact range_all_true HA.out
     go_wp2_with fail
     go_ret
     exact ⟨by rw [HE2.out]; rfl, HK2.out.2⟩
    have m1 : (i : Int) < (n : Int) := by omega
    go_wp2_with fail
    refine (frac_nil_calls wr).mono ?_
    rintro e w1 ⟨v, rfl, hv, hb⟩
    obtain ⟨D5, n5, d5, D6, n6, d6, rfl, HVZ⟩ := hv.opened
    have HK3 := Hd (HK2.out.step hb)
    obtain ⟨x0, x1, x2, x3⟩ := HK3.out.c4 0 rfl
    have hlt2 := (HK3.out.blk 0 rfl).lt
    clear hv hb
    go_wp2_with fail
    clear x0 x1 x2 x3
    have HK4 := Hd (HK3.out.more (.cells #[.bool (negQ 0), .slice D5 n5 d5, .slice D6 n6 d6] 46))
    have HA0 := Hd (show AccF (w1.alloc (.cells #[.bool (negQ 0), .slice D5 n5 d5, .slice D6 n6 d6] 46)) w1.heap.size 0 from ⟨D5, n5, d5, D6, n6, d6, Blk.new _ _ _, HVZ.out.of_below (below_new _ _)⟩)
    obtain ⟨gz, hgz⟩ : ∃ gz, gz = w1.heap.size := ⟨_, rfl⟩
    rw [← hgz] at HA0
    have hzne : w.heap.size < gz := by omega
    generalize w1.alloc (.cells #[.bool (negQ 0), .slice D5 n5 d5, .slice D6 n6 d6] 46) = W2 at *
    rw [← hgz]
    clear hgz
    obtain ⟨ds, hds⟩ : ∃ ds, ds = colL p.rows ys i := ⟨_, rfl⟩
    have HDS := Hd hds
    clear hds hlt2
    go_loopw [60] (fun vj wr => ∃ j : Nat, j ≤ p.rows.length ∧ vj = .int .i64 (j : Int) ∧ AccF wr gz ((ds.take j).foldl dotStep 0) ∧ HS w [(w.heap.size, 26, #[.int .i64 (n : Int), .slice A1 p.free.length c1, .slice A2 p.goal.length c2, .slice A3 p.rows.length c3])] wr) (fun vj _ => p.rows.length - (intOf vj).toNat)
    case atStart => exact ⟨0, Nat.zero_le _, rfl, HA0.out, HK4.out⟩
    case round =>
     obtain ⟨j, hj, rfl, hacc, hk⟩ := hrel
     have HA5 := Hd hacc
     have HK5 := Hd hk
     have hcap : capQ ((ds.take j).foldl dotStep 0) = (ds.take j).foldl dotStep 0 := rdot_cap _ _ capQ_zero
     obtain ⟨sm, hsm⟩ : ∃ s, s = (ds.take j).foldl dotStep 0 := ⟨_, rfl⟩
     rw [← hsm] at hcap HA5
     have HSM := Hd hsm
     have HCAP := Hd hcap
     clear hacc hk hsm hcap HA0 HK4 HK3
     by_cases hjlt : j < p.rows.length
     ·obtain ⟨r, hr⟩ : ∃ r, p.rows[j]? = some r := ⟨p.rows[j], List.getElem?_eq_getElem hjlt⟩
      have hly := HLEN.out
      have hra := HROW.out r (List.mem_of_getElem? hr)
      obtain ⟨f, hf⟩ : ∃ f, y[j]? = some f := ⟨y[j]'(by omega), List.getElem?_eq_getElem _⟩
      obtain ⟨av, hav⟩ : ∃ f, r.a[i]? = some f := ⟨r.a[i]'(by omega), List.getElem?_eq_getElem _⟩
      obtain ⟨g1, o1, B1, d1, B2, n2, d2, B3, n3, d3, rfl, hg, k0, k1, k2, k3, k4, _, HRA, _⟩ := RL.at5 (H3.out.below ER.stays HK5.out.2) hr
      obtain ⟨g2, o2, C1, l1, e1, C2, l2, e2, rfl, hg2, j0, j1, j2, HFE⟩ := FL.at3 (HY.out.below EF.stays HK5.out.2) hf
      obtain ⟨g3, o3, C3, l3, e3, C4, l4, e4, rfl, hg3, q0, q1, q2, HAE⟩ := FL.at3 HRA.out hav
      have hdj : ds[j]? = some (fixQ f * fixQ av) := by rw [HDS.out, HYS.out]; unfold colL; simp [List.getElem?_zipWith, hr, hf, nthF_get hav]
      obtain ⟨pr, hpr⟩ : ∃ q, q = fixQ f * fixQ av := ⟨_, rfl⟩
      rw [← hpr] at hdj
      have HPR := Hd hpr
      have HNX : Hid ((ds.take (j + 1)).foldl dotStep 0 = dotStep sm pr) := by
       unfold Hid
       rw [List.take_add_one, hdj]
       rw [show ds.take j ++ (some pr).toList = ds.take j ++ [pr] from rfl, fold_snoc, ← HSM.out]
      have n1 : (j : Int) < (p.rows.length : Int) := by omega
      have n2' : (j : Int) < (y.length : Int) := by omega
      have n3' : (j : Int).toNat = j := by omega
      have n4' : (0 : Int) ≤ (j : Int) := by omega
      have n5' : (i : Int) < (r.a.length : Int) := by omega
      have n6' : (i : Int).toNat = i := by omega
      have n7' : (0 : Int) ≤ (i : Int) := by omega
      obtain ⟨s, hs⟩ : ∃ s, s = r.s := ⟨_, rfl⟩
      rw [← hs] at k1
      have hz0 := (HK5.out.blk 0 rfl).lt
      clear hr hf hs hly hav hdj hpr hra
      go_wp2_with fail
      have HB1 := Hd (below_new wr (.cells #[.slice (some ⟨g3, o3, none⟩) r.a.length d1, .int .i64 s, .bool r.b.neg, .slice B2 n2 d2, .slice B3 n3 d3] 73))
      have HKB1 := Hd (Blk.new wr 73 #[.slice (some ⟨g3, o3, none⟩) r.a.length d1, .int .i64 s, .bool r.b.neg, .slice B2 n2 d2, .slice B3 n3 d3])
      obtain ⟨gr, hgr⟩ : ∃ gr, gr = wr.heap.size := ⟨_, rfl⟩
      rw [← hgr] at HKB1
      generalize wr.alloc (.cells #[.slice (some ⟨g3, o3, none⟩) r.a.length d1, .int .i64 s, .bool r.b.neg, .slice B2 n2 d2, .slice B3 n3 d3] 73) = W1 at *
      rw [← hgr]
      clear hgr
      refine (sgn_calls W1 _ f (HFE.out.of_below HB1.out)).mono ?_
      rintro e w2 ⟨rfl, hb⟩
      have HB2 := Hd (below_next HB1.out hb)
      have hkb2 := HKB1.out.below hb HKB1.out.lt
      have z0 := hkb2.cell (j := 0) rfl
      have hzl := hkb2.lt
      clear hb hkb2
      have HRound : Hid (∀ wz, AccF wz gz (dotStep sm pr) → HS w [(w.heap.size, 26, #[.int .i64 (n : Int), .slice A1 p.free.length c1, .slice A2 p.goal.length c2, .slice (some ⟨g1, o1, none⟩) p.rows.length c3])] wz → ∃ j', j' ≤ p.rows.length ∧ Value.int .i64 ((j : Int) + 1) = .int .i64 (j' : Int) ∧ AccF wz gz ((ds.take j').foldl dotStep 0) ∧ HS w [(w.heap.size, 26, #[.int .i64 (n : Int), .slice A1 p.free.length c1, .slice A2 p.goal.length c2, .slice (some ⟨g1, o1, none⟩) p.rows.length c3])] wz) := by
       intro wz h1 h2
       exact ⟨j + 1, by omega, by go_num, by rw [HNX.out]; exact h1, h2⟩
      by_cases s0 : signQ (fixQ f) = 0
      ·have t0 : (signQ (fixQ f) != 0) = false := beqI s0
       have HP0 : Hid (dotStep sm pr = sm) := by unfold Hid; rw [HPR.out, signQ_zero_iff.1 s0, Rat.zero_mul, dotStep_zero HCAP.out]
       clear s0
       go_wp2_with fail
       go_roundw
       case rel => exact HRound.out _ (by rw [HP0.out]; exact HA5.out.step HB2.out) (HK5.out.step HB2.out)
       case measure => simp [intOf]; omega
      have t0 : (signQ (fixQ f) != 0) = true := bneI s0
      clear s0
      have HA6 := Hd (HA5.out.step HB2.out)
      have hb2c := (bcell HB2.out).1
      obtain ⟨E5, k5, f5, E6, k6, f6, hk, hR⟩ := HA6.out
      have HR1 := Hd hR
      obtain ⟨a0, a1, a2⟩ := hk.c3
      obtain ⟨b0, b1, b2⟩ := hk.f3
      have hlt3 := hk.lt
      have HFE2 := Hd (HFE.out.of_below HB2.out)
      have HAE2 := Hd (HAE.out.of_below HB2.out)
      have HK6 := Hd (HK5.out.step HB2.out)
      have j0' := (hb2c g2 _ hg2).trans j0
      have j1' := (hb2c g2 _ hg2).trans j1
      have j2' := (hb2c g2 _ hg2).trans j2
      have q0' := (hb2c g3 _ hg3).trans q0
      have q1' := (hb2c g3 _ hg3).trans q1
      have q2' := (hb2c g3 _ hg3).trans q2
      have hg2' : g2 < w2.heap.size := Nat.lt_of_lt_of_le hg2 HB2.out.size
      have hg3' : g3 < w2.heap.size := Nat.lt_of_lt_of_le hg3 HB2.out.size
      clear hR hk hb2c j0 j1 j2 q0 q1 q2 k0 k1 k2 k3 k4
      go_wp2_with fail
      refine wp_chain (S := Below w2.heap.size w2) 12 [([0, 1, 2, 3, 4, 5, 6, 7, 8, 9], 10), ([], 11), ([], 12)] (by kernel_rfl) (by kernel_rfl) (by kernel_rfl) rfl (Below.drew (Below.refl _ _)) ?_
      refine ⟨?_, _, ?_, rfl, ?_⟩
      rotate_left
      ·repeat (refine ⟨_, ?_, rfl, Or.inl ⟨by rfl, ?_⟩, ?_⟩; rotate_left; focus (intro W hW; replace hW := (bcell hW).1; go_simp; try with_reducible rfl); (try simp only [SQ]))
       exact rfl
      go_wp2_with fail
      refine (fmul_calls _ _ _ f av (HFE2.out.of_below (Below.drew (Below.refl _ _))) (HAE2.out.of_below (Below.drew (Below.refl _ _)))).mono ?_
      rintro e w7 ⟨v, rfl, hv, hb⟩
      rw [← HPR.out] at hv
      obtain ⟨A7, n7, c7, A8, n8, c8, rfl, HV5⟩ := hv.opened
      have HB7 := Hd (below_next (Below.drew (Below.refl w2.heap.size w2)) hb)
      clear hv hb
      go_wp2_with fail
      refine And.intro HB7.out ⟨_, _, rfl, rfl, ?_⟩
      go_wp2_with fail
      refine (fadd_calls _ _ _ _ _ (FR.of_fq (HR1.out.of_below HB7.out) (by rw [← HCAP.out]; exact capQ_size _)) (FR.of_fq HV5.out (capQ_size _))).mono ?_
      rintro e w8 ⟨v, rfl, hv, hb⟩
      have hpost : capQ (fixQ (rawQ sm) + fixQ (rawQ (capQ pr))) = dotStep sm pr := by
       rw [fixQ_raw _ (by rw [← HCAP.out]; exact capQ_size _), fixQ_raw _ (capQ_size _)]
       rfl
      rw [hpost] at hv
      obtain ⟨A9, n9, c9, A10, n10, c10, rfl, HV6⟩ := hv.opened
      have HB8 := Hd (below_next HB7.out hb)
      clear hv hb hpost
      go_wp2_with fail
      refine And.intro HB8.out ⟨_, _, rfl, rfl, ?_⟩
      have HA8 := Hd (HA6.out.step HB8.out)
      obtain ⟨_, _, _, _, _, _, hk5, _⟩ := HA8.out
      obtain ⟨y0, y1, y2⟩ := hk5.c3
      obtain ⟨f0, f1, f2⟩ := hk5.f3
      clear hk5
      go_wp2_with fail
      refine NoPanic.normal ?_
      go_wp2_with fail
      go_roundw
      case rel => exact HRound.out _ (HA8.out.put HV6.out) ((HK6.out.step HB8.out).other3 (by omega) (by simp; omega) _ _ _)
      case measure => simp [intOf]; omega
     ·obtain rfl : j = p.rows.length := by omega
      have hly := HLEN.out
      have hzl : ds.take p.rows.length = ds := List.take_of_length_le (by rw [HDS.out, HYS.out]; unfold colL; rw [List.length_zipWith, List.length_map]; omega)
      have HCQ : Hid (colQ p.rows ys i = sm) := by unfold Hid colQ; rw [← HDS.out, HSM.out, hzl]
      clear hzl hly
      have hif : i < p.free.length := by have := HFL.out; omega
      obtain ⟨bf, hbf⟩ : ∃ b, p.free[i]? = some b := ⟨p.free[i], List.getElem?_eq_getElem hif⟩
      obtain ⟨g4, o4, rfl, hg4, kb⟩ := BL.at1 (H1.out.below EB.stays HK5.out.2) hbf
      have HFA : Hid (freeAt p i = bf) := by unfold Hid freeAt; rw [List.getD_eq_getElem?_getD, hbf]; rfl
      have m6 : (i : Int).toNat = i := by omega
      have m7 : (0 : Int) ≤ (i : Int) := by omega
      have m8 : (i : Int) < (p.free.length : Int) := by omega
      have HBF := Hd hbf
      clear hbf hif
      obtain ⟨fg, hfg⟩ : ∃ f, g[i]? = some f := ⟨g[i]'(by have := HGV.out; omega), List.getElem?_eq_getElem _⟩
      obtain ⟨g5, o5, C5, l5, e5, C6, l6, e6, ee, hg5, q0, q1, q2, HGE⟩ := FL.at3 (HG.out.below EF.stays HK5.out.2) hfg
      injection ee with ee
      injection ee with ee1 ee2
      subst ee1 ee2
      have m9 : (i : Int) < (g.length : Int) := by have := HGV.out; omega
      obtain ⟨cv, hcv⟩ : ∃ c, c = capQ (sm + -(fixQ fg)) := ⟨_, rfl⟩
      have HCV : Hid (colV p.rows ys (some g) i = cv) := by unfold Hid colV; simp only; rw [HCQ.out, nthF_get hfg, hcv]
      have HCC := Hd hcv
      obtain ⟨E5, k5, f5, E6, k6, f6, hk, hR⟩ := HA5.out
      have HR1 := Hd hR
      obtain ⟨a0, a1, a2⟩ := hk.c3
      obtain ⟨b0, b1, b2⟩ := hk.f3
      have hlt3 := hk.lt
      have hnn := neq_some wr ⟨gb, ob, none⟩ g.length c6
      clear hR hk hfg hcv
      go_wp2_with fail
      refine wp_chain (S := Below wr.heap.size wr) 6 [([0, 1, 2, 3, 4], 5), ([], 6)] (by kernel_rfl) (by kernel_rfl) (by kernel_rfl) rfl (Below.drew (Below.refl _ _)) ?_
      refine ⟨?_, _, ?_, rfl, ?_⟩
      rotate_left
      ·repeat (refine ⟨_, ?_, rfl, Or.inl ⟨by rfl, ?_⟩, ?_⟩; rotate_left; focus (intro W hW; replace hW := (bcell hW).1; go_simp; try with_reducible rfl); (try simp only [SQ]))
       exact rfl
      go_wp2_with fail
      refine (fsub_calls _ _ _ _ fg (FR.of_fq (HR1.out.of_below (Below.drew (Below.refl _ _))) (by rw [← HCAP.out]; exact capQ_size _)) (HGE.out.of_below (Below.drew (Below.refl _ _)))).mono ?_
      rintro e w8 ⟨v, rfl, hv, hb⟩
      rw [fixQ_raw _ (by rw [← HCAP.out]; exact capQ_size _), ← HCC.out] at hv
      obtain ⟨A9, n9, c9, A10, n10, c10, rfl, HV6⟩ := hv.opened
      have HB8 := Hd (below_next (Below.drew (Below.refl wr.heap.size wr)) hb)
      clear hv hb
      go_wp2_with fail
      refine And.intro HB8.out ⟨_, _, rfl, rfl, ?_⟩
      have HA8 := Hd (HA5.out.step HB8.out)
      obtain ⟨_, _, _, _, _, _, hk5, _⟩ := HA8.out
      obtain ⟨y0, y1, y2⟩ := hk5.c3
      obtain ⟨f0, f1, f2⟩ := hk5.f3
      clear hk5
      go_wp2_with fail
      refine NoPanic.normal ?_
      have HA9 := Hd (HA8.out.put HV6.out)
      have HK9 := Hd ((HK5.out.step HB8.out).other3 (g := gz) (by omega) (by simp; omega) (.bool (negQ cv)) (.slice A9 n9 c9) (.slice A10 n10 c10))
      generalize ((w8.setCell ⟨gz, 0, none⟩ (.bool (negQ cv))).setCell ⟨gz, 1, none⟩ (.slice A9 n9 c9)).setCell ⟨gz, 2, none⟩ (.slice A10 n10 c10) = W9 at *
      obtain ⟨E7, k7, f7, E8, k8, f8, hk, hR⟩ := HA9.out
      have HR9 := Hd hR
      obtain ⟨i0, i1, i2⟩ := hk.c3
      clear hR hk
      go_wp2_with fail
      have hcs : sizeQ cv ≤ 4096 := by rw [HCC.out]; exact capQ_size _
      refine (sgn_calls _ _ _ (FR.of_fq HR9.out hcs)).mono ?_
      rintro e wE ⟨rfl, hb⟩
      rw [fixQ_raw _ hcs]
      have HKE := Hd (HK9.out.step hb)
      obtain ⟨g4', o4', ee, hg4', kb'⟩ := BL.at1 (H1.out.below EB.stays HKE.out.2) HBF.out
      injection ee with ee
      injection ee with ee1 ee2
      subst ee1 ee2
      clear hb kb
      obtain ⟨x0, x1, x2, x3⟩ := HKE.out.c4 0 rfl
      have hltp := (HKE.out.blk 0 rfl).lt
      obtain ⟨c, hc⟩ : ∃ c, c = signQ cv := ⟨_, rfl⟩
      have HOK : Hid (colOk p ys (some g) i = !(decide (c < 0) || (decide (c > 0) && bf))) := by unfold Hid colOk; rw [HCV.out, hc, HFA.out]
      rw [← hc]
      clear hc
      have HRound : Hid (∀ wz, Below wE.heap.size wE wz → colOk p ys (some g) i = true → ∃ i', i' ≤ n ∧ Value.int .i64 ((i : Int) + 1) = .int .i64 (i' : Int) ∧ (∀ (j : Nat), j < i' → colOk p ys (some g) j = true) ∧ HS w [(w.heap.size, 26, #[.int .i64 (n : Int), .slice (some ⟨g4, o4, none⟩) p.free.length c1, .slice A2 p.goal.length c2, .slice A3 p.rows.length c3])] wz) := by
       intro wz h1 h2
       refine ⟨i + 1, by omega, by go_num, fun j hj => ?_, HKE.out.step h1⟩
       by_cases hji : j = i
       ·rw [hji]; exact h2
       ·exact HA.out j (by omega)
      by_cases s1 : c < 0
      ·have t1 : decide (c < 0) = true := decide_eq_true s1
       have HE2 : Hid (boundsB p y (some g) = false) := by unfold Hid; rw [HE1.out]; exact range_all_false hlt (by rw [HOK.out, t1]; rfl)
       clear s1
       go_wp2_with fail
       go_ret
       exact ⟨by rw [HE2.out]; rfl, HKE.out.2⟩
      have t1 : decide (c < 0) = false := decide_eq_false s1
      by_cases s2 : c > 0
      ·have t2 : decide (c > 0) = true := decide_eq_true s2
       cases bf with
       | true =>
        have HE2 : Hid (boundsB p y (some g) = false) := by unfold Hid; rw [HE1.out]; exact range_all_false hlt (by rw [HOK.out, t1, t2]; rfl)
        clear s1 s2
        go_wp2_with fail
        go_ret
        exact ⟨by rw [HE2.out]; rfl, HKE.out.2⟩
       | false =>
        have HG : Hid (colOk p ys (some g) i = true) := by unfold Hid; rw [HOK.out, t1, t2]; rfl
        clear s1 s2
        go_wp2_with fail
        go_roundw
        case rel => exact HRound.out _ (Below.refl _ _) HG.out
        case measure => simp [intOf]; omega
      ·have t2 : decide (c > 0) = false := decide_eq_false s2
       have HG : Hid (colOk p ys (some g) i = true) := by unfold Hid; rw [HOK.out, t1, t2]; rfl
       clear s1 s2
       go_wp2_with fail
       go_roundw
       case rel => exact HRound.out _ (Below.refl _ _) HG.out
       case measure => simp [intOf]; omega
theorem rwhole0_calls (w : World) : Calls Tryz.prog 60 #[.int .i64 0] w fun e w' => FPost w 0 e w' := rwhole_calls w 0 (by decide) (by decide)
set_option maxHeartbeats 16000000 in
set_option maxRecDepth 100000 in
theorem r2right_calls (w : World) (v : Value) (p : ProgF) (h : PR w v p) : Calls Tryz.prog 12 #[v] w fun e w' => IPost w (rightP p) e w' := by
 obtain ⟨A1, c1, A2, c2, A3, c3, rfl, HI, H1, H2, H3⟩ := h.opened
 clear h
 obtain ⟨vars, hv⟩ : ∃ n, n = p.vars := ⟨_, rfl⟩
 rw [← hv]
 have HV := Hd hv
 clear hv
 go_enter Tryz.func12, Tryz.ntmps12
 by_cases a1 : vars > 160
 ·have t1 : decide (vars > 160) = true := decide_eq_true a1
  have HR := Hd (rightP_a (p := p) (.inl (HV.out ▸ a1)))
  clear a1
  go_wp2_with fail
  go_ret
  exact ⟨by rw [HR.out]; rfl, below_new w _⟩
 have t1 : decide (vars > 160) = false := decide_eq_false a1
 by_cases a2 : p.rows.length > 400
 ·have t2 : decide ((p.rows.length : Int) > 400) = true := decide_eq_true (by omega)
  have HR := Hd (rightP_a (p := p) (.inr a2))
  clear a1 a2
  go_wp2_with fail
  go_ret
  exact ⟨by rw [HR.out]; rfl, below_new w _⟩
 have t2 : decide ((p.rows.length : Int) > 400) = false := decide_eq_false (by omega)
 have N1 : Hid (¬ (p.vars > 160 ∨ p.rows.length > 400)) := by unfold Hid; rw [← HV.out]; omega
 by_cases b1 : vars < 1
 ·have t3 : decide (vars < 1) = true := decide_eq_true b1
  have HR := Hd (rightP_b N1.out (.inl (HV.out ▸ b1)))
  clear a1 a2 b1
  go_wp2_with fail
  go_ret
  exact ⟨by rw [HR.out]; rfl, below_new w _⟩
 have t3 : decide (vars < 1) = false := decide_eq_false b1
 by_cases b2 : (p.free.length : Int) = vars
 case neg =>
  have t4 : ((p.free.length : Int) != vars) = true := bneI b2
  have HR := Hd (rightP_b N1.out (.inr (.inl (HV.out ▸ b2))))
  clear a1 a2 b1 b2
  go_wp2_with fail
  go_ret
  exact ⟨by rw [HR.out]; rfl, below_new w _⟩
 have t4 : ((p.free.length : Int) != vars) = false := beqI b2
 by_cases b3 : (p.goal.length : Int) = vars
 case neg =>
  have t5 : ((p.goal.length : Int) != vars) = true := bneI b3
  have HR := Hd (rightP_b N1.out (.inr (.inr (HV.out ▸ b3))))
  clear a1 a2 b1 b2 b3
  go_wp2_with fail
  go_ret
  exact ⟨by rw [HR.out]; rfl, below_new w _⟩
 have t5 : ((p.goal.length : Int) != vars) = false := beqI b3
 have N2 : Hid (¬ (p.vars < 1 ∨ (p.free.length : Int) ≠ p.vars ∨ (p.goal.length : Int) ≠ p.vars)) := by unfold Hid; rw [← HV.out]; omega
 clear a1 b1 b2 b3
 go_wp2_with fail
 have hb0 := below_new w (.cells #[.int .i64 vars, .slice A1 p.free.length c1, .slice A2 p.goal.length c2, .slice A3 p.rows.length c3] 26)
 have hk0 := Blk.new w 26 #[.int .i64 vars, .slice A1 p.free.length c1, .slice A2 p.goal.length c2, .slice A3 p.rows.length c3]
 generalize w.alloc (.cells #[.int .i64 vars, .slice A1 p.free.length c1, .slice A2 p.goal.length c2, .slice A3 p.rows.length c3] 26) = W0 at *
 go_loopw [36] (fun vi wr => ∃ i : Nat, i ≤ p.rows.length ∧ vi = .int .i64 (i : Int) ∧ (∀ j r, j < i → p.rows[j]? = some r → rowBad p.vars r = false) ∧ Blk wr w.heap.size 26 #[.int .i64 vars, .slice A1 p.free.length c1, .slice A2 p.goal.length c2, .slice A3 p.rows.length c3] ∧ Below w.heap.size w wr) (fun vi _ => p.rows.length - (intOf vi).toNat)
 case atStart => exact ⟨0, Nat.zero_le _, rfl, fun j r h => absurd h (Nat.not_lt_zero _), hk0, hb0⟩
 case round =>
  obtain ⟨i, hi, rfl, hall, hk, hb⟩ := hrel
  have HA := Hd hall
  have HK := Hd hk
  have HB := Hd hb
  clear hall hb hk hk0 hb0
  by_cases hlt : i < p.rows.length
  ·obtain ⟨r, hr⟩ : ∃ r, p.rows[i]? = some r := ⟨p.rows[i], List.getElem?_eq_getElem hlt⟩
   obtain ⟨g, o, B1, d1, B2, n2, d2, B3, n3, d3, rfl, hg, k0, k1, k2, k3, k4, _, _, _⟩ := RL.at5 (H3.out.below ER.stays HB.out) hr
   have HRR := Hd hr
   clear hr
   have m1 : (i : Int) < (p.rows.length : Int) := by omega
   have m3 : (i : Int).toNat = i := by omega
   have m4 : (0 : Int) ≤ (i : Int) := by omega
   have x0 := HK.out.cell (j := 0) rfl
   have hz := HK.out.lt
   by_cases q1 : (r.a.length : Int) = vars
   case neg =>
    have u1 : ((r.a.length : Int) != vars) = true := bneI q1
    have HR := Hd (rightP_c N1.out N2.out HRR.out (by unfold rowBad; rw [← HV.out, decide_eq_true q1]; rfl))
    clear q1
    go_wp2_with fail
    go_ret
    exact ⟨by rw [HR.out]; rfl, below_next HB.out (below_new _ _)⟩
   have u1 : ((r.a.length : Int) != vars) = false := beqI q1
   by_cases q2 : r.s < -1
   ·have u2 : decide (r.s < -1) = true := decide_eq_true q2
    have HR := Hd (rightP_c N1.out N2.out HRR.out (by unfold rowBad; rw [decide_eq_true q2]; simp))
    clear q1 q2
    go_wp2_with fail
    go_ret
    exact ⟨by rw [HR.out]; rfl, below_next HB.out (below_new _ _)⟩
   have u2 : decide (r.s < -1) = false := decide_eq_false q2
   by_cases q3 : r.s > 1
   ·have u3 : decide (r.s > 1) = true := decide_eq_true q3
    have HR := Hd (rightP_c N1.out N2.out HRR.out (by unfold rowBad; rw [decide_eq_true q3]; simp))
    clear q1 q2 q3
    go_wp2_with fail
    go_ret
    exact ⟨by rw [HR.out]; rfl, below_next HB.out (below_new _ _)⟩
   have u3 : decide (r.s > 1) = false := decide_eq_false q3
   have HGood : Hid (rowBad p.vars r = false) := by unfold Hid rowBad; rw [← HV.out, decide_eq_false q2, decide_eq_false q3, decide_eq_false (by simpa using q1)]; rfl
   clear q1 q2 q3
   go_wp2_with fail
   go_roundw
   case rel =>
    refine ⟨i + 1, by omega, by go_num, fun j r' hj hr' => ?_, HK.out.alloc _, below_next HB.out (below_new _ _)⟩
    by_cases hji : j = i
    ·rw [hji, HRR.out] at hr'
     injection hr' with e
     subst e
     exact HGood.out
    ·exact HA.out j r' (by omega) hr'
   case measure => simp [intOf]; omega
  ·obtain rfl : i = p.rows.length := by omega
   have HR := Hd (rightP_d N1.out N2.out fun j r hr => HA.out j r (List.getElem?_eq_some_iff.1 hr).1 hr)
   go_wp2_with fail
   go_ret
   exact ⟨by rw [HR.out]; rfl, HB.out⟩
noncomputable def rvalueP (p : ProgF) (x : List RawF) : Rat := if rightP p ≠ 0 ∨ (x.length : Int) ≠ p.vars then 0 else rdotQ (p.goal.map fixQ) (x.map fixQ)
set_option maxHeartbeats 16000000 in
set_option maxRecDepth 100000 in
theorem r2value_calls (w : World) (v v2 : Value) (p : ProgF) (x : List RawF) (h : PR w v p) (h2 : FL w v2 x) : Calls Tryz.prog 18 #[v, v2] w fun e w' => FPost w (rvalueP p x) e w' := by
 have HP := Hd h
 obtain ⟨A1, c1, A2, c2, A3, c3, rfl, HI, H1, H2, H3⟩ := h.opened
 obtain ⟨A4, c4, rfl, hc4⟩ := h2.slice
 have HX := Hd h2
 clear h h2
 obtain ⟨vars, hv⟩ : ∃ n, n = p.vars := ⟨_, rfl⟩
 rw [← hv] at HP ⊢
 have HV := Hd hv
 clear hv
 go_enter Tryz.func18, Tryz.ntmps18
 go_wp2_with fail
 have H0 := Hd (HS.two (w := w) #[.int .i64 vars, .slice A1 p.free.length c1, .slice A2 p.goal.length c2, .slice A3 p.rows.length c3] #[.bool false, .slice none 0 0, .slice none 0 0] 26 46)
 generalize (w.alloc (.cells #[.int .i64 vars, .slice A1 p.free.length c1, .slice A2 p.goal.length c2, .slice A3 p.rows.length c3] 26)).alloc (.cells #[.bool false, .slice none 0 0, .slice none 0 0] 46) = W0 at *
 refine (r2right_calls _ _ p (HP.out.of_below H0.out.2)).mono ?_
 rintro e w1 ⟨rfl, hb⟩
 have H1' := Hd (H0.out.step hb)
 obtain ⟨x0, x1, x2, x3⟩ := H1'.out.c4 1 rfl
 clear hb
 by_cases q1 : rightP p = 0
 case neg =>
  have u1 : (rightP p != 0) = true := bneI q1
  have HE := Hd (show rvalueP p x = 0 from if_pos (.inl q1))
  clear q1
  go_wp2_with fail
  refine (rwhole0_calls w1).mono ?_
  rintro e w2 ⟨v, rfl, hv, hb⟩
  obtain ⟨A5, n5, c5, A6, n6, c6, rfl, HV2⟩ := hv.opened
  have H2' := Hd (H1'.out.step hb)
  clear hb hv
  obtain ⟨e0, e1, e2⟩ := (H2'.out.blk 0 rfl).c3
  obtain ⟨f0, f1, f2⟩ := (H2'.out.blk 0 rfl).f3
  go_wp2_with fail
  rw [HE.out]
  exact end40 Tryz.results18 rfl (H2'.out.blk 0 rfl) HV2.out (by omega) H2'.out.2
 have u1 : (rightP p != 0) = false := beqI q1
 by_cases q2 : (x.length : Int) = vars
 case neg =>
  have u2 : ((x.length : Int) != vars) = true := bneI q2
  have HE := Hd (show rvalueP p x = 0 from if_pos (.inr (by rw [← HV.out]; exact q2)))
  clear q1 q2
  go_wp2_with fail
  refine (rwhole0_calls w1).mono ?_
  rintro e w2 ⟨v, rfl, hv, hb⟩
  obtain ⟨A5, n5, c5, A6, n6, c6, rfl, HV2⟩ := hv.opened
  have H2' := Hd (H1'.out.step hb)
  clear hb hv
  obtain ⟨e0, e1, e2⟩ := (H2'.out.blk 0 rfl).c3
  obtain ⟨f0, f1, f2⟩ := (H2'.out.blk 0 rfl).f3
  go_wp2_with fail
  rw [HE.out]
  exact end40 Tryz.results18 rfl (H2'.out.blk 0 rfl) HV2.out (by omega) H2'.out.2
 have u2 : ((x.length : Int) != vars) = false := beqI q2
 have HE := Hd (show rvalueP p x = rdotQ (p.goal.map fixQ) (x.map fixQ) from if_neg (by rw [← HV.out]; omega))
 have hrl := rightP_len q1
 have hgl : p.goal.length ≤ 100000 := by omega
 have hxl : x.length ≤ 100000 := by have := HV.out; omega
 clear q1 q2 hrl
 go_wp2_with fail
 refine (rdot_calls w1 _ _ p.goal x (H2.out.below EF.stays H1'.out.2) (HX.out.below EF.stays H1'.out.2) hgl hxl).mono ?_
 rintro e w2 ⟨v, rfl, hv, hb⟩
 obtain ⟨A5, n5, c5, A6, n6, c6, rfl, HV2⟩ := hv.opened
 have H2' := Hd (H1'.out.step hb)
 clear hb hv
 obtain ⟨e0, e1, e2⟩ := (H2'.out.blk 0 rfl).c3
 obtain ⟨f0, f1, f2⟩ := (H2'.out.blk 0 rfl).f3
 go_wp2_with fail
 rw [HE.out]
 exact end40 Tryz.results18 rfl (H2'.out.blk 0 rfl) HV2.out (by omega) H2'.out.2
def rholdsB (s : Int) (a b : Rat) : Bool := decide (ordQ a b = 0) || decide (ordQ a b = s)
set_option maxHeartbeats 16000000 in
set_option maxRecDepth 100000 in
theorem rholds_calls (w : World) (s : Int) (v v2 : Value) (f g : RawF) (h : FR w v f) (h2 : FR w v2 g) : Calls Tryz.prog 91 #[v, .int .i64 s, v2] w fun e w' => BPost w (rholdsB s (fixQ f) (fixQ g)) e w' := by
 obtain ⟨A1, n1, c1, A2, n2, c2, rfl, H⟩ := h.opened
 obtain ⟨A3, n3, c3, A4, n4, c4, rfl, G⟩ := h2.opened
 clear h h2
 go_enter Tryz.func91, Tryz.ntmps91
 go_wp2_with fail
 have H0 := Hd (HS.two (w := w) #[.bool f.neg, .slice A1 n1 c1, .slice A2 n2 c2] #[.bool g.neg, .slice A3 n3 c3, .slice A4 n4 c4] 46 46)
 generalize (w.alloc (.cells #[.bool f.neg, .slice A1 n1 c1, .slice A2 n2 c2] 46)).alloc (.cells #[.bool g.neg, .slice A3 n3 c3, .slice A4 n4 c4] 46) = W0 at *
 refine (rcmp_calls W0 _ _ f g (H.out.of_below H0.out.2) (G.out.of_below H0.out.2)).mono ?_
 rintro e w1 ⟨rfl, hb⟩
 have H1 := Hd (H0.out.step hb)
 clear hb
 obtain ⟨c, hc⟩ : ∃ c, c = ordQ (fixQ f) (fixQ g) := ⟨_, rfl⟩
 have HE : Hid (rholdsB s (fixQ f) (fixQ g) = (decide (c = 0) || decide (c = s))) := by unfold Hid rholdsB; rw [hc]
 rw [← hc]
 clear hc
 by_cases q1 : c = 0
 ·have u1 : (c == 0) = true := by simpa using q1
  have HE2 : Hid (rholdsB s (fixQ f) (fixQ g) = true) := by unfold Hid; rw [HE.out, decide_eq_true q1]; rfl
  clear q1
  go_wp2_with fail
  go_ret
  exact ⟨by rw [HE2.out]; rfl, H1.out.2⟩
 have u1 : (c == 0) = false := by simpa using q1
 by_cases q3 : c = s
 ·have u3 : (c == s) = true := by simpa using q3
  have HE2 : Hid (rholdsB s (fixQ f) (fixQ g) = true) := by unfold Hid; rw [HE.out, decide_eq_true q3]; simp
  clear q1 q3
  go_wp2_with fail
  go_ret
  exact ⟨by rw [HE2.out]; rfl, H1.out.2⟩
 ·have u3 : (c == s) = false := by simpa using q3
  have HE2 : Hid (rholdsB s (fixQ f) (fixQ g) = false) := by unfold Hid; rw [HE.out, decide_eq_false q1, decide_eq_false q3]; simp
  clear q1 q3
  go_wp2_with fail
  go_ret
  exact ⟨by rw [HE2.out]; rfl, H1.out.2⟩
set_option maxHeartbeats 16000000 in
set_option maxRecDepth 100000 in
theorem fmake_calls (w : World) (n : Int) (h0 : -9223372036854775808 ≤ n) (h1 : n < 9223372036854775808) :
  Calls Tryz.prog 90 #[.int .i64 n, .int .i64 1] w fun e w' => ∃ v, e = .returned (.tuple #[v, .int .i64 0]) ∧ FQ w' v (n : Rat) ∧ Below w.heap.size w w' := by
 go_enter Tryz.func90, Tryz.ntmps90
 go_wp2_with fail
 have H0 := Hd (HS.one (w := w) #[.bool false, .slice none 0 0, .slice none 0 0] 46)
 generalize w.alloc (.cells #[.bool false, .slice none 0 0, .slice none 0 0] 46) = W0 at *
 refine (whole_calls W0 n h0 h1).mono ?_
 rintro e w1 ⟨v, rfl, hv, hb⟩
 obtain ⟨A1, n1, c1, A2, n2, c2, rfl, HV⟩ := hv.opened'
 have H1 := Hd (H0.out.step hb)
 clear hv hb
 go_wp2_with fail
 refine (whole_calls w1 1 (by omega) (by omega)).mono ?_
 rintro e w2 ⟨v, rfl, hv, hb⟩
 have hone : ((1 : Int) : Rat) = 1 := rfl
 rw [hone] at hv
 obtain ⟨A3, n3, c3, A4, n4, c4, rfl, HW⟩ := hv.opened'
 have H2 := Hd (H1.out.step hb)
 have HV2 := Hd (HV.out.of_below hb)
 clear hv hb hone
 go_wp2_with fail
 refine (over_calls w2 _ 1 HW.out (by decide)).mono ?_
 rintro e w3 ⟨v, rfl, hv, hb⟩
 rw [rat_inv_one] at hv
 obtain ⟨A5, n5, c5, A6, n6, c6, rfl, HW3⟩ := hv.opened'
 have H3 := Hd (H2.out.step hb)
 have HV3 := Hd (HV2.out.of_below hb)
 clear hv hb
 go_wp2_with fail
 have hs := size_int n h0 h1
 refine (times_calls w3 _ _ (n : Rat) 1 HV3.out HW3.out (by omega) (by have := size_int 1 (by omega) (by omega); have e : ((1 : Int) : Rat) = 1 := rfl; rw [e] at this; omega)).mono ?_
 rintro e w4 ⟨v, rfl, hv, hb⟩
 rw [Rat.mul_one] at hv
 obtain ⟨A7, n7, c7, A8, n8, c8, rfl, HV4⟩ := hv.opened'
 have H4 := Hd (H3.out.step hb)
 clear hv hb
 go_wp2_with fail
 refine (told_calls w4 _ (n : Rat) HV4.out (by omega)).mono ?_
 rintro e w5 ⟨v, rfl, hv, hb⟩
 rw [capQ_fits (show sizeQ (n : Rat) ≤ 4096 by omega)] at hv
 obtain ⟨A9, n9, c9, A10, n10, c10, rfl, HV5⟩ := hv.opened
 have H5 := Hd (H4.out.step hb)
 clear hv hb hs
 obtain ⟨f0, f1, f2⟩ := (H5.out.blk 0 rfl).f3
 obtain ⟨x0, x1, x2⟩ := (H5.out.blk 0 rfl).c3
 go_wp2_with fail
 refine ret40i Tryz.results90 rfl rfl ((H5.out.blk 0 rfl).put3 _ _ _) ⟨_, rfl, HV5.out.put3 (H5.out.blk 0 rfl) ni40 _ _ _, below_put3 H5.out.2 (by omega) _ _ _⟩
set_option maxHeartbeats 16000000 in
set_option maxRecDepth 100000 in
theorem number_calls (w : World) (n : Int) (h0 : -9223372036854775808 ≤ n) (h1 : n < 9223372036854775808) : Calls Tryz.prog 45 #[.int .i64 n] w fun e w' => FPost w (n : Rat) e w' := by
 go_enter Tryz.func45, Tryz.ntmps45
 go_wp2_with fail
 have H0 := Hd (HS.one (w := w) #[.bool false, .slice none 0 0, .slice none 0 0] 46)
 generalize w.alloc (.cells #[.bool false, .slice none 0 0, .slice none 0 0] 46) = W0 at *
 refine (fmake_calls W0 n h0 h1).mono ?_
 rintro e w1 ⟨v, rfl, hv, hb⟩
 obtain ⟨A1, n1, c1, A2, n2, c2, rfl, HV⟩ := FQ.opened hv
 have H1 := Hd (H0.out.step hb)
 clear hv hb
 obtain ⟨f0, f1, f2⟩ := (H1.out.blk 0 rfl).f3
 obtain ⟨x0, x1, x2⟩ := (H1.out.blk 0 rfl).c3
 have hlt := (H1.out.blk 0 rfl).lt
 go_wp2_with fail
 exact ret40 Tryz.results45 rfl (((H1.out.blk 0 rfl).put3 _ _ _).alloc _) ⟨_, rfl, (HV.out.put3 (H1.out.blk 0 rfl) ni40 _ _ _).of_below (below_new _ _), below_next (below_put3 H1.out.2 (Nat.le_refl _) _ _ _) (below_new _ _)⟩
def EI (w : World) (vs : Array Value) (n : Int) : Prop := vs = #[.int .i64 n]
theorem EI.stays : Stays EI := fun _ _ _ _ h _ => h
abbrev IL (w : World) (v : Value) (l : List Int) : Prop := SL 1 EI w v l
theorem IL.at1 {w : World} {A : Option Addr} {n c : Nat} {l : List Int} (h : IL w (.slice A n c) l) {j : Nat} {b : Int} (hj : l[j]? = some b) : ∃ g o, A = some ⟨g, o, none⟩ ∧ g < w.heap.size ∧ w.cell? ⟨g, o + j, none⟩ = some (.int .i64 b) := by
 obtain ⟨g, o, vs, hA, hg, hs, hc, he⟩ := h.at_ hj
 subst he
 have := hc 0 _ rfl
 rw [Nat.mul_one] at this
 exact ⟨g, o, hA, hg, this⟩
def hasB (l : List Int) (n : Int) : Bool := l.any fun x => decide (x = n)
set_option maxHeartbeats 16000000 in
set_option maxRecDepth 100000 in
theorem has_calls (w : World) (v : Value) (l : List Int) (n : Int) (h : IL w v l) (hl : l.length ≤ 9223372036854775807) : Calls Tryz.prog 75 #[v, .int .i64 n] w fun e w' => BPost w (hasB l n) e w' := by
 obtain ⟨A, c, rfl, hc⟩ := h.slice
 have HF := Hd h
 clear h
 go_enter Tryz.func75, Tryz.ntmps75
 go_wp2_with fail
 go_loopw [9] (fun vi wr => ∃ i : Nat, i ≤ l.length ∧ vi = .int .i64 (i : Int) ∧ (∀ (j : Nat) (x : Int), j < i → l[j]? = some x → x ≠ n) ∧ Below w.heap.size w wr) (fun vi _ => l.length - (intOf vi).toNat)
 case atStart => exact ⟨0, Nat.zero_le _, rfl, fun j _ h => absurd h (Nat.not_lt_zero _), Below.refl _ _⟩
 case round =>
  obtain ⟨i, hi, rfl, hall, hb⟩ := hrel
  have HA := Hd hall
  have HB := Hd hb
  clear hall hb
  by_cases hlt : i < l.length
  ·obtain ⟨x, hx⟩ : ∃ x, l[i]? = some x := ⟨l[i], List.getElem?_eq_getElem hlt⟩
   obtain ⟨g, o, rfl, hg, k0⟩ := IL.at1 (HF.out.below EI.stays HB.out) hx
   have HX := Hd hx
   clear hx
   have m1 : (i : Int) < (l.length : Int) := by omega
   have m3 : (i : Int).toNat = i := by omega
   have m4 : (0 : Int) ≤ (i : Int) := by omega
   by_cases q1 : x = n
   ·have u1 : (x == n) = true := beqI' q1
    have HE2 : Hid (hasB l n = true) := by
     unfold Hid hasB
     rw [List.any_eq_true]
     exact ⟨x, List.mem_of_getElem? HX.out, decide_eq_true q1⟩
    clear q1
    go_wp2_with fail
    go_ret
    exact ⟨by rw [HE2.out]; rfl, HB.out⟩
   ·have u1 : (x == n) = false := bneI' q1
    have HQ := Hd q1
    clear q1
    go_wp2_with fail
    go_roundw
    case rel =>
     refine ⟨i + 1, by omega, by go_num, fun j y hj hy => ?_, HB.out⟩
     by_cases hji : j = i
     ·rw [hji, HX.out] at hy
      injection hy with e
      rw [← e]
      exact HQ.out
     ·exact HA.out j y (by omega) hy
    case measure => simp [intOf]; omega
  ·obtain rfl : i = l.length := by omega
   have HE2 : Hid (hasB l n = false) := by
    unfold Hid hasB
    rw [List.any_eq_false]
    intro x hx
    obtain ⟨j, hj⟩ := List.getElem?_of_mem hx
    simpa using HA.out j x (List.getElem?_eq_some_iff.1 hj).1 hj
   go_wp2_with fail
   go_ret
   exact ⟨by rw [HE2.out]; rfl, HB.out⟩
def UPost (w : World) (r : RowQ) (e : Ending) (w' : World) : Prop := ∃ vs, e = .returned (.agg vs) ∧ ERO w.heap.size w' vs r ∧ Below w.heap.size w w'
def unitL (n : Nat) (v : Int) : List Rat := (List.range n).map fun (i : Nat) => if (i : Int) = v then (1 : Rat) else 0
def unitQ (n : Nat) (v s b : Int) : RowQ := ⟨unitL n v, s, b⟩
theorem unitL_length (n : Nat) (v : Int) : (unitL n v).length = n := by simp [unitL]
theorem unitL_next (n : Nat) (v : Int) : unitL (n + 1) v = unitL n v ++ [if (n : Int) = v then 1 else 0] := by
 simp [unitL, List.range_succ]
theorem Blk.c5 {W : World} {g t : Nat} {a b c d e : Value} (h : Blk W g t #[a, b, c, d, e]) : W.cell? ⟨g, 0, none⟩ = some a ∧ W.cell? ⟨g, 1, none⟩ = some b ∧ W.cell? ⟨g, 2, none⟩ = some c ∧ W.cell? ⟨g, 3, none⟩ = some d ∧ W.cell? ⟨g, 4, none⟩ = some e := ⟨h.cell rfl, h.cell rfl, h.cell rfl, h.cell rfl, h.cell rfl⟩
theorem Blk.f5 {W : World} {g t : Nat} {cs : Array Value} (h : Blk W g t cs) : W.frozen? ⟨g, 0, none⟩ = false ∧ W.frozen? ⟨g, 1, none⟩ = false ∧ W.frozen? ⟨g, 2, none⟩ = false ∧ W.frozen? ⟨g, 3, none⟩ = false ∧ W.frozen? ⟨g, 4, none⟩ = false := ⟨h.frozen 0, h.frozen 1, h.frozen 2, h.frozen 3, h.frozen 4⟩
theorem Blk.put5 {w : World} {g t : Nat} {a b c d e : Value} (h : Blk w g t #[a, b, c, d, e]) (x y z u v : Value) : Blk (_root_.Go.Proofs.YtfhambfgjigneaaGreat.put5 w g 0 x y z u v) g t #[x, y, z, u, v] :=
 ((((h.put 0 x).put 1 y).put 2 z).put 3 u).put 4 v
theorem below_put5 {B : Nat} {w w1 : World} (h : Below B w w1) {g : Nat} (ha : B ≤ g) (x y z u v : Value) : Below B w (put5 w1 g 0 x y z u v) :=
 Below.setCell (below_put4 h ha x y z u) (p := ⟨g, 4, none⟩) ha v
theorem chg_put5 {base g t : Nat} {w : World} {cs : Array Value} (h : Blk w g t cs) (hg : base ≤ g) (hn : ∀ u ∈ cs, notWord u = true) (x y z u v : Value) : Chg base t w (put5 w g 0 x y z u v) := by
 have ho : ∀ k, k < w.heap.size → k ≠ g → (put5 w g 0 x y z u v).heap[k]? = w.heap[k]? := fun k _ hk => put5_other w g 0 x y z u v hk
 exact Chg.own h hg (Keeps.apart h hn (Nat.le_of_eq (put5_size w g 0 x y z u v).symm) ho) ho
theorem rowA_words {s : Int} {b : Bool} {A0 A1 A2 : Option Addr} {n0 c0 n1 c1 n2 c2 : Nat} : ∀ u ∈ #[Value.slice A0 n0 c0, .int .i64 s, .bool b, .slice A1 n1 c1, .slice A2 n2 c2], notWord u = true := by
 intro u hu
 simp only [List.mem_toArray, List.mem_cons, List.not_mem_nil, or_false] at hu
 rcases hu with rfl | rfl | rfl | rfl | rfl <;> rfl
theorem ret65 {fn : Func} {p : Tmp} {Post : Ending → World → Prop} {tmps : Array Value} {w : World} {g : Nat} {a b c d e : Value} (hres : fn.results = #[.cell p 73]) (hp : tmps.getD p undef = .pointer (some ⟨g, 0, none⟩)) (hb : Blk w g 73 #[a, b, c, d, e])
  (hP : Post (.returned (.agg #[a, b, c, d, e])) w) : bodyPost Tryz.prog fn Post Exit.ret { tmps := tmps, defers := [] } w :=
 bodyPost_ret (v := .agg #[a, b, c, d, e]) (results_cell_row hres _ _ g 73 #[a, b, c, d, e] (0, 0) _ hp hb Tryz.underlying73 rfl info65s) rfl hP
set_option maxHeartbeats 16000000 in
set_option maxRecDepth 100000 in
theorem runit_calls (w : World) (n : Nat) (v s b : Int) (hn : n ≤ 1000000) (hs : I64 s) (h0 : -9223372036854775808 ≤ b) (h1 : b < 9223372036854775808) : Calls Tryz.prog 124 #[.int .i64 (n : Int), .int .i64 v, .int .i64 s, .int .i64 b] w fun e w' => UPost w (unitQ n v s b) e w' := by
 have HS1 := Hd hs
 clear hs
 go_enter Tryz.func124, Tryz.ntmps124
 go_wp2_with fail
 have H0 := Hd (HS.one (w := w) #[.slice none 0 0, .int .i64 0, .bool false, .slice none 0 0, .slice none 0 0] 73)
 have hsz0 : (w.alloc (.cells #[.slice none 0 0, .int .i64 0, .bool false, .slice none 0 0, .slice none 0 0] 73)).heap.size = w.heap.size + 1 := by simp
 generalize w.alloc (.cells #[.slice none 0 0, .int .i64 0, .bool false, .slice none 0 0, .slice none 0 0] 73) = W0 at *
 refine (rwhole_calls W0 b h0 h1).mono ?_
 rintro e w1 ⟨u, rfl, hv, hb⟩
 obtain ⟨A1, n1, c1, A2, n2, c2, rfl, HV⟩ := FQ.opened hv
 have H1 := Hd (H0.out.step hb)
 have hsz1 : w.heap.size + 1 ≤ w1.heap.size := by have := hb.size; omega
 clear hv hb hsz0
 go_wp2_with fail
 have H2 := Hd (H1.out.step (below_new w1 (.cells #[.slice none 0 0, .int .i64 s, .bool (negQ (b : Rat)), .slice A1 n1 c1, .slice A2 n2 c2] 73)))
 have HBQ0 := Hd (Blk.new w1 73 #[.slice none 0 0, .int .i64 s, .bool (negQ (b : Rat)), .slice A1 n1 c1, .slice A2 n2 c2])
 have HV2 := Hd (HV.out.of_below (below_new w1 (.cells #[.slice none 0 0, .int .i64 s, .bool (negQ (b : Rat)), .slice A1 n1 c1, .slice A2 n2 c2] 73)))
 obtain ⟨gq, hgq⟩ : ∃ g, g = w1.heap.size := ⟨_, rfl⟩
 rw [← hgq] at HBQ0 hsz1
 generalize w1.alloc (.cells #[.slice none 0 0, .int .i64 s, .bool (negQ (b : Rat)), .slice A1 n1 c1, .slice A2 n2 c2] 73) = W2 at *
 rw [← hgq]
 clear hgq H1 H0 HV
 go_loopw [10] (fun vi wr => ∃ i : Nat, i ≤ n ∧ vi = .int .i64 (i : Int) ∧ (∃ A5 c5, Blk wr gq 73 #[.slice A5 i c5, .int .i64 s, .bool (negQ (b : Rat)), .slice A1 n1 c1, .slice A2 n2 c2] ∧ QO w.heap.size wr (.slice A5 i c5) (unitL i v)) ∧ FQ wr (.agg #[.bool (negQ (b : Rat)), .slice A1 n1 c1, .slice A2 n2 c2]) (b : Rat) ∧ HS w [(w.heap.size, 73, #[.slice none 0 0, .int .i64 0, .bool false, .slice none 0 0, .slice none 0 0])] wr) (fun vi _ => n - (intOf vi).toNat)
 case atStart => exact ⟨0, Nat.zero_le _, rfl, ⟨none, 0, HBQ0.out, OL.nil _ _ _ _ _⟩, HV2.out, H2.out⟩
 case round =>
  obtain ⟨i, hi, rfl, ⟨A5, c5, hbq, hq⟩, hvb, hs⟩ := hrel
  have HBQ := Hd hbq
  have HQ := Hd hq
  have HVB := Hd hvb
  have HK := Hd hs
  clear hbq hq hvb hs HBQ0 HV2 H2
  obtain ⟨i0, i1, i2, i3, i4⟩ := HBQ.out.c5
  have hltq := HBQ.out.lt
  by_cases hlt : i < n
  ·have HNX := Hd (unitL_next i v)
   have hul : (unitL i v).length ≤ 1000000000 := by rw [unitL_length]; omega
   have m1 : (i : Int) < (n : Int) := by omega
   by_cases hiv : (i : Int) = v
   ·have u1 : (((i : Int) == v)) = true := by simp [hiv]
    rw [if_pos hiv] at HNX
    clear hiv
    go_wp2_with fail
    refine wp_chainF (l := [_, _, _, _, _, _, _, _]) (S := Below wr.heap.size wr) 5 [([0, 1, 2], 3), ([], 4)] [] (by kernel_rfl) (by kernel_rfl) (by kernel_rfl) rfl (Below.drew (Below.refl _ _)) ?_
    refine ⟨?_, _, ?_, rfl, ?_⟩
    rotate_left
    ·repeat (refine ⟨_, ?_, rfl, Or.inl ⟨by rfl, ?_⟩, ?_⟩; rotate_left; focus (intro W hW; replace hW := (bcell hW).1; go_simp; try with_reducible rfl); (try simp only [SQ]))
     exact rfl
    have D0 : Hid (Below wr.heap.size wr wr.drew) := Below.drew (Below.refl _ _)
    go_wp2_with fail
    refine (rwhole_calls _ 1 (by decide) (by decide)).mono ?_
    rintro e W3 ⟨u, rfl, hv, hb⟩
    have hcast : ((1 : Int) : Rat) = (1 : Rat) := by norm_cast
    rw [hcast] at hv
    obtain ⟨B1, m1, d1, B2, m2, d2, rfl, HV3⟩ := FQ.opened hv
    have D3 := Hd (below_next D0.out hb)
    clear hv hb hcast
    go_wp2_with fail
    refine And.intro D3.out ⟨_, _, rfl, rfl, ?_⟩
    go_wp2_with fail
    have hbn := below_new W3 (.cells #[.bool (negQ (1 : Rat)), .slice B1 m1 d1, .slice B2 m2 d2] 46)
    have D4 := Hd (below_next D3.out hbn)
    have HL4 := Hd (Blk.new W3 46 #[.bool (negQ (1 : Rat)), .slice B1 m1 d1, .slice B2 m2 d2])
    have HV4 := Hd (HV3.out.of_below hbn)
    obtain ⟨gl, hgl⟩ : ∃ g, g = W3.heap.size := ⟨_, rfl⟩
    rw [← hgl] at HL4 ⊢
    generalize W3.alloc (.cells #[.bool (negQ (1 : Rat)), .slice B1 m1 d1, .slice B2 m2 d2] 46) = W4 at *
    clear hgl hbn
    refine And.intro D4.out ⟨_, rfl, ?_⟩
    have HBQ4 := Hd (HBQ.out.below D4.out HBQ.out.lt)
    have HQ4 := Hd (HQ.out.below EFQ.stays D4.out)
    have HVB4 := Hd (HVB.out.of_below D4.out)
    have HK4 := Hd (HK.out.step D4.out)
    have hbase4 : w.heap.size ≤ W4.heap.size := HK4.out.2.size
    simp only [SQ, List.drop_succ_cons, List.drop_zero]
    clear i0 i1 i2 i3 i4
    go_wp2_with (at_builtin; refine wpl_appendQ rfl (.tmp 25) (.tmp 28) rfl (base := w.heap.size) (.slice A5 i c5) (unitL i v) rfl HQ4.out (1 : Rat) rfl HL4.out HV4.out hul hbase4 ?_; intro v6 W6 hq6 hg6 hk6 hb6; have hcg6 : Chg w.heap.size 46 W4 W6 := (by obtain ⟨xs, ho, _⟩ := HQ4.out; exact ho.changes hg6 hk6); have hw6 : W4.os = W6.os ∧ W4.tape = W6.tape ∧ W4.output = W6.output := ⟨hg6.os.symm, hg6.tape.symm, hg6.output.symm⟩; rw [← HNX.out] at hq6; obtain ⟨A6, c6, hv6, _⟩ := hq6.slice; rw [unitL_length] at hv6; subst hv6; have HQ6 := Hd hq6; have HBQ6 := Hd (HBQ4.out.chg hcg6 (by decide)); have HVB6 := Hd (FQ.keeps HVB4.out hk6); have HK6 := Hd (HS.chg HK4.out hcg6 (by simp) rfl hw6); obtain ⟨i0, i1, i2, i3, i4⟩ := HBQ6.out.c5; obtain ⟨f0, f1, f2, f3, f4⟩ := HBQ6.out.f5; have hltq6 := HBQ6.out.lt; clear hq6 hcg6 hw6 hb6 hg6 hk6)
    refine NoPanic.normal ?_
    have hcp := chg_put1 (base := w.heap.size) (j := 0) HBQ6.out (by omega) rowA_words (.slice A6 (i + 1) c6)
    have HX1 := Hd (HBQ6.out.put 0 (.slice A6 (i + 1) c6))
    have HX2 := Hd (QO.chg HQ6.out hcp (by decide))
    have HX3 := Hd (FQ.keeps HVB6.out hcp.1)
    have HX5 := Hd (HK6.out.other1 (g := gq) (by omega) (by simp; omega) 0 (.slice A6 (i + 1) c6))
    clear hcp
    go_wp2_with fail
    go_roundw
    case rel => exact ⟨i + 1, by omega, by go_num, ⟨A6, c6, HX1.out, HX2.out⟩, HX3.out, HX5.out⟩
    case measure => simp [intOf]; omega
   ·have u1 : (((i : Int) == v)) = false := by simp [hiv]
    rw [if_neg hiv] at HNX
    clear hiv
    go_wp2_with fail
    refine wp_chainF (l := [_, _, _, _, _, _, _, _]) (S := Below wr.heap.size wr) 5 [([0, 1, 2], 3), ([], 4)] [] (by kernel_rfl) (by kernel_rfl) (by kernel_rfl) rfl (Below.drew (Below.refl _ _)) ?_
    refine ⟨?_, _, ?_, rfl, ?_⟩
    rotate_left
    ·repeat (refine ⟨_, ?_, rfl, Or.inl ⟨by rfl, ?_⟩, ?_⟩; rotate_left; focus (intro W hW; replace hW := (bcell hW).1; go_simp; try with_reducible rfl); (try simp only [SQ]))
     exact rfl
    have D0 : Hid (Below wr.heap.size wr wr.drew) := Below.drew (Below.refl _ _)
    go_wp2_with fail
    refine (rwhole_calls _ 0 (by decide) (by decide)).mono ?_
    rintro e W3 ⟨u, rfl, hv, hb⟩
    have hcast : ((0 : Int) : Rat) = (0 : Rat) := by norm_cast
    rw [hcast] at hv
    obtain ⟨B1, m1, d1, B2, m2, d2, rfl, HV3⟩ := FQ.opened hv
    have D3 := Hd (below_next D0.out hb)
    clear hv hb hcast
    go_wp2_with fail
    refine And.intro D3.out ⟨_, _, rfl, rfl, ?_⟩
    go_wp2_with fail
    have hbn := below_new W3 (.cells #[.bool (negQ (0 : Rat)), .slice B1 m1 d1, .slice B2 m2 d2] 46)
    have D4 := Hd (below_next D3.out hbn)
    have HL4 := Hd (Blk.new W3 46 #[.bool (negQ (0 : Rat)), .slice B1 m1 d1, .slice B2 m2 d2])
    have HV4 := Hd (HV3.out.of_below hbn)
    obtain ⟨gl, hgl⟩ : ∃ g, g = W3.heap.size := ⟨_, rfl⟩
    rw [← hgl] at HL4 ⊢
    generalize W3.alloc (.cells #[.bool (negQ (0 : Rat)), .slice B1 m1 d1, .slice B2 m2 d2] 46) = W4 at *
    clear hgl hbn
    refine And.intro D4.out ⟨_, rfl, ?_⟩
    have HBQ4 := Hd (HBQ.out.below D4.out HBQ.out.lt)
    have HQ4 := Hd (HQ.out.below EFQ.stays D4.out)
    have HVB4 := Hd (HVB.out.of_below D4.out)
    have HK4 := Hd (HK.out.step D4.out)
    have hbase4 : w.heap.size ≤ W4.heap.size := HK4.out.2.size
    simp only [SQ, List.drop_succ_cons, List.drop_zero]
    clear i0 i1 i2 i3 i4
    go_wp2_with (at_builtin; refine wpl_appendQ rfl (.tmp 25) (.tmp 28) rfl (base := w.heap.size) (.slice A5 i c5) (unitL i v) rfl HQ4.out (0 : Rat) rfl HL4.out HV4.out hul hbase4 ?_; intro v6 W6 hq6 hg6 hk6 hb6; have hcg6 : Chg w.heap.size 46 W4 W6 := (by obtain ⟨xs, ho, _⟩ := HQ4.out; exact ho.changes hg6 hk6); have hw6 : W4.os = W6.os ∧ W4.tape = W6.tape ∧ W4.output = W6.output := ⟨hg6.os.symm, hg6.tape.symm, hg6.output.symm⟩; rw [← HNX.out] at hq6; obtain ⟨A6, c6, hv6, _⟩ := hq6.slice; rw [unitL_length] at hv6; subst hv6; have HQ6 := Hd hq6; have HBQ6 := Hd (HBQ4.out.chg hcg6 (by decide)); have HVB6 := Hd (FQ.keeps HVB4.out hk6); have HK6 := Hd (HS.chg HK4.out hcg6 (by simp) rfl hw6); obtain ⟨i0, i1, i2, i3, i4⟩ := HBQ6.out.c5; obtain ⟨f0, f1, f2, f3, f4⟩ := HBQ6.out.f5; have hltq6 := HBQ6.out.lt; clear hq6 hcg6 hw6 hb6 hg6 hk6)
    refine NoPanic.normal ?_
    have hcp := chg_put1 (base := w.heap.size) (j := 0) HBQ6.out (by omega) rowA_words (.slice A6 (i + 1) c6)
    have HX1 := Hd (HBQ6.out.put 0 (.slice A6 (i + 1) c6))
    have HX2 := Hd (QO.chg HQ6.out hcp (by decide))
    have HX3 := Hd (FQ.keeps HVB6.out hcp.1)
    have HX5 := Hd (HK6.out.other1 (g := gq) (by omega) (by simp; omega) 0 (.slice A6 (i + 1) c6))
    clear hcp
    go_wp2_with fail
    go_roundw
    case rel => exact ⟨i + 1, by omega, by go_num, ⟨A6, c6, HX1.out, HX2.out⟩, HX3.out, HX5.out⟩
    case measure => simp [intOf]; omega
  ·obtain rfl : i = n := by omega
   obtain ⟨j0, j1, j2, j3, j4⟩ := (HK.out.blk 0 rfl).c5
   obtain ⟨f0, f1, f2, f3, f4⟩ := (HK.out.blk 0 rfl).f5
   have hlt0 := (HK.out.blk 0 rfl).lt
   go_wp2_with fail
   have hcg := chg_put5 (base := w.heap.size) (HK.out.blk 0 rfl) (by simp) rowA_words (.slice A5 i c5) (.int .i64 s) (.bool (negQ (b : Rat))) (.slice A1 n1 c1) (.slice A2 n2 c2)
   exact ret65 Tryz.results124 rfl ((HK.out.blk 0 rfl).put5 _ _ _ _ _) ⟨_, rfl, ⟨_, _, _, _, _, _, _, rfl, HS1.out, QO.chg HQ.out hcg (by decide), FQ.keeps HVB.out hcg.1⟩, below_put5 HK.out.2 (by simp) _ _ _ _ _⟩
def seenB (l : List Int) (i : Nat) (x : Int) : Bool := (l.take i).any fun y => decide (y = x)
def distinctB (n : Int) (l : List Int) : Bool := decide ((∀ x ∈ l, 0 ≤ x ∧ x < n) ∧ l.Nodup)
theorem seenB_next {l : List Int} {i : Nat} {x : Int} (h : l[i]? = some x) (y : Int) : seenB l (i + 1) y = (seenB l i y || decide (x = y)) := by
 unfold seenB
 rw [List.take_add_one, h]
 simp
theorem nodup_take {l : List Int} (h : ∀ (i : Nat) (x : Int), l[i]? = some x → seenB l i x = false) : l.Nodup := by
 rw [List.nodup_iff_pairwise_ne, List.pairwise_iff_getElem]
 intro i j hi hj hij e
 have := h j l[j] (List.getElem?_eq_getElem hj)
 unfold seenB at this
 rw [List.any_eq_false] at this
 refine this l[i] ?_ (decide_eq_true e)
 rw [List.mem_take_iff_getElem]
 exact ⟨i, by omega, rfl⟩
theorem not_nodup {l : List Int} {i : Nat} {x : Int} (h : l[i]? = some x) (hs : seenB l i x = true) : ¬ l.Nodup := by
 intro hn
 rw [List.nodup_iff_pairwise_ne, List.pairwise_iff_getElem] at hn
 unfold seenB at hs
 rw [List.any_eq_true] at hs
 obtain ⟨y, hy, e⟩ := hs
 obtain ⟨hlt, ex⟩ := List.getElem?_eq_some_iff.1 h
 obtain ⟨j, hj, ey⟩ := List.mem_take_iff_getElem.1 hy
 have hj' : j < i := by omega
 refine hn j i (by omega) hlt hj' ?_
 rw [ey, ex]
 exact of_decide_eq_true e
def boolElem : Value → Option (DataW Nat × List MemPlace)
 | .bool b => some (.lit (.bool b), [])
 | _ => none
theorem boolElem_inv {v : Value} {d : DataW Nat} {ps : List MemPlace} (h : boolElem v = some (d, ps)) : ∃ b, v = .bool b ∧ d = .lit (.bool b) := by
 cases v <;> simp [boolElem] at h
 exact ⟨_, rfl, h.1.symm⟩
theorem law3k : Go.Maps.Keyed Tryz.prog 3 := Go.Maps.int_keyed Tryz.underlying3
theorem zero4 (w : World) : (zeroValue 4).run Tryz.prog w = .ok (.bool false) w := by kernel_rfl
theorem key3 {n : Int} (h : I64 n) : keyOf Tryz.prog 3 (.int .i64 n) = some (.int .i64 n) := Go.Maps.keyOf_int_mk Tryz.underlying3 (by unfold I64 at h; simp only [Lit.wf, Bool.and_eq_true, decide_eq_true_eq]; exact h)
def Seen (w : World) (b : Nat) (l : List Int) (i : Nat) : Prop := ∃ D : DataW Nat, w.ownsMap Tryz.prog 3 boolElem b i D ∧ Go.Maps.IsMap D ∧ ∀ x : Int, D.atKey (.int .i64 x) (.lit (.bool false)) = .lit (.bool (seenB l i x))
set_option maxRecDepth 100000 in
theorem Seen.look {w : World} {b i : Nat} {l : List Int} (h : Seen w b l i) {x : Int} (hx : I64 x) : (Instr.lookup 142 (.map (some b)) (.int .i64 x) false).run Tryz.prog w = .ok (.bool (seenB l i x)) w := by
 obtain ⟨D, hown, _, hat⟩ := h
 obtain ⟨v, ps, hrun, hv⟩ := hown.lookup law3k Tryz.underlying142 (zero4 w) (zd := .lit (.bool false)) (zp := []) rfl (key3 hx)
 rw [hat] at hv
 obtain ⟨b, rfl, e⟩ := boolElem_inv hv
 injection e with e
 injection e with e
 rw [hrun, e]
set_option maxRecDepth 100000 in
theorem Seen.next {w : World} {b i : Nat} {l : List Int} (h : Seen w b l i) {x : Int} (hx : I64 x) (hl : l[i]? = some x) (hi : i < maxLen) : ∃ w', (Instr.mapUpdate 142 (.map (some b)) (.int .i64 x) (.bool true)).run Tryz.prog w = .ok () w' ∧ Seen w' b l (i + 1) ∧ w.grownBy w' (some b) := by
 obtain ⟨D, hown, hm, hat⟩ := h
 obtain ⟨w', hrun, hown', hg⟩ := hown.update law3k Tryz.underlying142 hi (val := .bool true) (d := .lit (.bool true)) (ps := []) (key3 hx) rfl
 refine ⟨w', hrun, ⟨_, hown', hm.put _ _, fun y => ?_⟩, hg⟩
 rw [seenB_next hl]
 by_cases e : x = y
 ·subst e
  rw [Go.Maps.atKey_put_same hm (by simp [WideAt.IsKeyLit])]
  simp
 ·rw [Go.Maps.atKey_put_other (by intro h; injection h with _ h; exact e h.symm), hat]
  simp [e]
theorem Seen.made (w : World) (l : List Int) : Seen (w.alloc (.map #[] 0)) w.heap.size l 0 := ⟨_, World.ownsMap_made _ _ _ _, Go.Maps.isMap_empty, fun x => rfl⟩
set_option maxHeartbeats 16000000 in
set_option maxRecDepth 100000 in
theorem distinct_calls (w : World) (v : Value) (l : List Int) (n : Int) (h : IL w v l) (hl : l.length ≤ 4000000000000000) (hw : ∀ x ∈ l, I64 x) : Calls Tryz.prog 80 #[.int .i64 n, v] w fun e w' => BPost w (distinctB n l) e w' := by
 obtain ⟨A, c, rfl, hc⟩ := h.slice
 have HF := Hd h
 have HW := Hd hw
 clear h hw
 have hmm := @run_makeMap Tryz.prog
 go_enter Tryz.func80, Tryz.ntmps80
 go_wp2_with fail
 go_loopw [11] (fun vi wr => ∃ i : Nat, i ≤ l.length ∧ vi = .int .i64 (i : Int) ∧ Seen wr w.heap.size l i ∧ (∀ (j : Nat) (x : Int), j < i → l[j]? = some x → (0 ≤ x ∧ x < n) ∧ seenB l j x = false) ∧ Below w.heap.size w wr) (fun vi _ => l.length - (intOf vi).toNat)
 case atStart => exact ⟨0, Nat.zero_le _, rfl, Seen.made w l, fun j _ h => absurd h (Nat.not_lt_zero _), below_new _ _⟩
 case round =>
  obtain ⟨i, hi, rfl, hsn, hall, hb⟩ := hrel
  have HS0 := Hd hsn
  have HA := Hd hall
  have HB := Hd hb
  clear hsn hall hb hmm
  by_cases hlt : i < l.length
  ·obtain ⟨x, hx⟩ : ∃ x, l[i]? = some x := ⟨l[i], List.getElem?_eq_getElem hlt⟩
   obtain ⟨g, o, rfl, hg, k0⟩ := IL.at1 (HF.out.below EI.stays HB.out) hx
   have HX := Hd hx
   have hxi := HW.out x (List.mem_of_getElem? hx)
   have HXI := Hd hxi
   have hlook := HS0.out.look hxi
   obtain ⟨w2, hupd, hs2, hg2⟩ := HS0.out.next hxi hx (by unfold maxLen; omega)
   have HS2 := Hd hs2
   have HB2 := Hd (below_none HB.out hg2 (fun k hk => by cases hk; exact Nat.le_refl _))
   clear hx hxi hs2 hg2
   have m1 : (i : Int) < (l.length : Int) := by omega
   have m3 : (i : Int).toNat = i := by omega
   have m4 : (0 : Int) ≤ (i : Int) := by omega
   by_cases q1 : x < 0
   ·have HE2 : Hid (distinctB n l = false) := by
     unfold Hid distinctB
     exact decide_eq_false fun hh => by have := (hh.1 x (List.mem_of_getElem? HX.out)).1; omega
    go_wp2_with fail
    go_ret
    exact ⟨by rw [HE2.out]; rfl, HB.out⟩
   ·by_cases q2 : n ≤ x
    ·have HE2 : Hid (distinctB n l = false) := by
      unfold Hid distinctB
      exact decide_eq_false fun hh => by have := (hh.1 x (List.mem_of_getElem? HX.out)).2; omega
     go_wp2_with fail
     go_ret
     exact ⟨by rw [HE2.out]; rfl, HB.out⟩
    ·cases hsb : seenB l i x
     ·have HSB := Hd hsb
      rw [hsb] at hlook
      clear hsb
      go_wp2_with fail
      go_roundw
      case rel =>
       refine ⟨i + 1, by omega, by go_num, HS2.out, fun j y hj hy => ?_, HB2.out⟩
       by_cases hji : j = i
       ·rw [hji, HX.out] at hy
        injection hy with e
        rw [← e, hji]
        exact ⟨⟨by omega, by omega⟩, HSB.out⟩
       ·exact HA.out j y (by omega) hy
      case measure => simp [intOf]; omega
     ·rw [hsb] at hlook
      have HE2 : Hid (distinctB n l = false) := by
       unfold Hid distinctB
       exact decide_eq_false fun hh => not_nodup HX.out hsb hh.2
      clear hsb
      go_wp2_with fail
      go_ret
      exact ⟨by rw [HE2.out]; rfl, HB.out⟩
  ·obtain rfl : i = l.length := by omega
   have HE2 : Hid (distinctB n l = true) := by
    unfold Hid distinctB
    refine decide_eq_true ⟨fun x hx => ?_, nodup_take fun i x hx => ?_⟩
    ·obtain ⟨j, hj⟩ := List.getElem?_of_mem hx
     exact (HA.out j x (List.getElem?_eq_some_iff.1 hj).1 hj).1
    ·exact (HA.out i x (List.getElem?_eq_some_iff.1 hx).1 hx).2
   go_wp2_with fail
   go_ret
   exact ⟨by rw [HE2.out]; rfl, HB.out⟩
open Go
inductive CU where
 | fin (p0 : List Nat)
 | one (p : List Nat) (c : Nat) (t : CU)
 | two (p : List Nat) (c1 : Nat) (t1 : CU) (c2 : Nat) (t2 : CU)
 | three (p : List Nat) (c1 : Nat) (t1 : CU) (c2 : Nat) (t2 : CU) (c3 : Nat) (t3 : CU)
section
variable {P : Program} {ops : Array Oper} {Q : Exit → Act → World → Prop} {md : Region.Mode} {S : World → Prop} {L : Nat}
def CU.len : CU → Nat
 | .fin p0 => p0.length
 | .one p _ t => p.length + 1 + t.len
 | .two p _ t1 _ _ => p.length + 1 + t1.len
 | .three p _ t1 _ _ _ _ => p.length + 1 + t1.len
def forkF (P : Program) (ops : Array Oper) (Q : Exit → Act → World → Prop) (S : World → Prop) (os : List Oper) : CU → Act → World → Prop
 | .fin p0, a, w => ∃ A, pureTo P ops S p0 a A ∧ wpList P ops Q os A w
 | .one p c t, a, w => ∃ A o, pureTo P ops S p a A ∧ ops[c]? = some o ∧ wpList P ops (chainQ Q fun a' w' => S w' ∧ forkF P ops Q S os t a' w') [o] A w
 | .two p c1 t1 c2 t2, a, w => ∃ A o1 o2, pureTo P ops S p a A ∧ ops[c1]? = some o1 ∧ ops[c2]? = some o2 ∧ wpList P ops (chainQ Q fun a' w' => S w' ∧ forkF P ops Q S os t1 a' w') [o1] A w ∧ wpList P ops (chainQ Q fun a' w' => S w' ∧ forkF P ops Q S os t2 a' w') [o2] A w
 | .three p c1 t1 c2 t2 c3 t3, a, w => ∃ A o1 o2 o3, pureTo P ops S p a A ∧ ops[c1]? = some o1 ∧ ops[c2]? = some o2 ∧ ops[c3]? = some o3 ∧ wpList P ops (chainQ Q fun a' w' => S w' ∧ forkF P ops Q S os t1 a' w') [o1] A w ∧ wpList P ops (chainQ Q fun a' w' => S w' ∧ forkF P ops Q S os t2 a' w') [o2] A w ∧ wpList P ops (chainQ Q fun a' w' => S w' ∧ forkF P ops Q S os t3 a' w') [o3] A w
def forkOk (md : Region.Mode) (ops : Array Oper) (L : Nat) : CU → Array Bool → Bool
 | .fin p0, listed => takesF md ops L p0 listed && freeF md ops (ops.size - L) L (marked p0 listed)
 | .one p c t, listed => takesF md ops L p listed && (Region.ready md ops (marked p listed) == [c]) && forkOk md ops L t ((marked p listed).setIfInBounds c true)
 | .two p c1 t1 c2 t2, listed => takesF md ops L p listed && (Region.ready md ops (marked p listed) == [c1, c2]) && forkOk md ops L t1 ((marked p listed).setIfInBounds c1 true) && forkOk md ops L t2 ((marked p listed).setIfInBounds c2 true) && (t1.len == t2.len)
 | .three p c1 t1 c2 t2 c3 t3, listed => takesF md ops L p listed && (Region.ready md ops (marked p listed) == [c1, c2, c3]) && forkOk md ops L t1 ((marked p listed).setIfInBounds c1 true) && forkOk md ops L t2 ((marked p listed).setIfInBounds c2 true) && forkOk md ops L t3 ((marked p listed).setIfInBounds c3 true) && (t1.len == t2.len) && (t1.len == t3.len)
theorem wpAnyF_two4 {c1 c2 : Nat} {fuel : Nat} {listed : Array Bool} {a : Act} {w : World} (hr : Region.ready md ops listed = [c1, c2])
  (h1 : wpOp P ops Q c1 (fun a' w' => (c1 < L → S w') ∧ wpAnyF P md ops Q S L fuel (listed.setIfInBounds c1 true) a' w') a w)
  (h2 : wpOp P ops Q c2 (fun a' w' => (c2 < L → S w') ∧ wpAnyF P md ops Q S L fuel (listed.setIfInBounds c2 true) a' w') a w) : wpAnyF P md ops Q S L (fuel + 1) listed a w :=
 ⟨fun h0 => (by rw [hr] at h0; cases h0), fun i hi => by
  rw [hr] at hi
  simp at hi
  rcases hi with rfl | rfl
  ·exact h1
  ·exact h2⟩
theorem wpAnyF_three {c1 c2 c3 : Nat} {fuel : Nat} {listed : Array Bool} {a : Act} {w : World} (hr : Region.ready md ops listed = [c1, c2, c3])
  (h1 : wpOp P ops Q c1 (fun a' w' => (c1 < L → S w') ∧ wpAnyF P md ops Q S L fuel (listed.setIfInBounds c1 true) a' w') a w)
  (h2 : wpOp P ops Q c2 (fun a' w' => (c2 < L → S w') ∧ wpAnyF P md ops Q S L fuel (listed.setIfInBounds c2 true) a' w') a w)
  (h3 : wpOp P ops Q c3 (fun a' w' => (c3 < L → S w') ∧ wpAnyF P md ops Q S L fuel (listed.setIfInBounds c3 true) a' w') a w) : wpAnyF P md ops Q S L (fuel + 1) listed a w :=
 ⟨fun h0 => (by rw [hr] at h0; cases h0), fun i hi => by
  rw [hr] at hi
  simp at hi
  rcases hi with rfl | rfl | rfl
  ·exact h1
  ·exact h2
  ·exact h3⟩
theorem fork_sound (hsel : ∀ (j : Nat) (o : Oper) cs b, ops[j]? = some o → o.op ≠ .select cs b) (hQ : ∀ c a d v w, Q (.panic c) (Act.put a d v) w → Q (.panic c) a w) (os : List Oper) (hos : os = ops.toList.drop L) :
  ∀ (t : CU) (listed : Array Bool) (a : Act) (w : World), forkOk md ops L t listed = true → Closed md ops listed → forkF P ops Q S os t a w → S w → ∀ more, wpAnyF P md ops Q S L (t.len + (ops.size - L) + more) listed a w
 | .fin p0, listed, a, w, hc, hcl, ⟨A, hp, h⟩, hS, more => by
  simp only [forkOk, Bool.and_eq_true] at hc
  rw [show (CU.fin p0).len + (ops.size - L) + more = p0.length + (ops.size - L + more) by simp only [CU.len]; omega]
  refine takesF_sound hsel hQ p0 listed a A w _ hc.1 hcl hp hS (fun _ => freeF_sound _ L os _ A w (Nat.le_refl _) hc.2 (by rw [hos]; simp) (fun j => ?_) h more)
  left
  rw [hos, List.getElem?_drop]
  simp
 | .one p c t, listed, a, w, hc, hcl, ⟨A, o, hp, ho, h⟩, hS, more => by
  simp only [forkOk, Bool.and_eq_true, beq_iff_eq] at hc
  obtain ⟨⟨ht, hr⟩, he⟩ := hc
  rw [show (CU.one p c t).len + (ops.size - L) + more = p.length + (t.len + (ops.size - L) + more + 1) by simp only [CU.len]; omega]
  refine takesF_sound hsel hQ p listed a A w _ ht hcl hp hS (fun hcl' => wpAnyF_only hr (wpOp_mono (fun a' w' hk => ⟨fun _ => hk.1, ?_⟩) (wpOp_of_chain ho h)))
  exact fork_sound hsel hQ os hos t _ a' w' he (hcl'.step (by rw [hr]; simp)) hk.2 hk.1 more
 | .two p c1 t1 c2 t2, listed, a, w, hc, hcl, ⟨A, o1, o2, hp, ho1, ho2, h1, h2⟩, hS, more => by
  simp only [forkOk, Bool.and_eq_true, beq_iff_eq] at hc
  obtain ⟨⟨⟨⟨ht, hr⟩, he1⟩, he2⟩, hl⟩ := hc
  rw [show (CU.two p c1 t1 c2 t2).len + (ops.size - L) + more = p.length + (t1.len + (ops.size - L) + more + 1) by simp only [CU.len]; omega]
  refine takesF_sound hsel hQ p listed a A w _ ht hcl hp hS (fun hcl' => wpAnyF_two4 hr (wpOp_mono (fun a' w' hk => ⟨fun _ => hk.1, ?_⟩) (wpOp_of_chain ho1 h1)) (wpOp_mono (fun a' w' hk => ⟨fun _ => hk.1, ?_⟩) (wpOp_of_chain ho2 h2)))
  ·exact fork_sound hsel hQ os hos t1 _ a' w' he1 (hcl'.step (by rw [hr]; simp)) hk.2 hk.1 more
  ·rw [hl]
   exact fork_sound hsel hQ os hos t2 _ a' w' he2 (hcl'.step (by rw [hr]; simp)) hk.2 hk.1 more
 | .three p c1 t1 c2 t2 c3 t3, listed, a, w, hc, hcl, ⟨A, o1, o2, o3, hp, ho1, ho2, ho3, h1, h2, h3⟩, hS, more => by
  simp only [forkOk, Bool.and_eq_true, beq_iff_eq] at hc
  obtain ⟨⟨⟨⟨⟨⟨ht, hr⟩, he1⟩, he2⟩, he3⟩, hl⟩, hl3⟩ := hc
  rw [show (CU.three p c1 t1 c2 t2 c3 t3).len + (ops.size - L) + more = p.length + (t1.len + (ops.size - L) + more + 1) by simp only [CU.len]; omega]
  refine takesF_sound hsel hQ p listed a A w _ ht hcl hp hS (fun hcl' => wpAnyF_three hr (wpOp_mono (fun a' w' hk => ⟨fun _ => hk.1, ?_⟩) (wpOp_of_chain ho1 h1)) (wpOp_mono (fun a' w' hk => ⟨fun _ => hk.1, ?_⟩) (wpOp_of_chain ho2 h2)) (wpOp_mono (fun a' w' hk => ⟨fun _ => hk.1, ?_⟩) (wpOp_of_chain ho3 h3)))
  ·exact fork_sound hsel hQ os hos t1 _ a' w' he1 (hcl'.step (by rw [hr]; simp)) hk.2 hk.1 more
  ·rw [hl]
   exact fork_sound hsel hQ os hos t2 _ a' w' he2 (hcl'.step (by rw [hr]; simp)) hk.2 hk.1 more
  ·rw [hl3]
   exact fork_sound hsel hQ os hos t3 _ a' w' he3 (hcl'.step (by rw [hr]; simp)) hk.2 hk.1 more
theorem wp_fork {id : Nat} {a : Act} {w : World} {l : List Oper} (S : World → Prop) (L : Nat) (t : CU) (hm : P.follows .mixedOrders = true) (hs : Region.noSelect l.toArray = true) (hc : forkOk .any l.toArray L t (Array.replicate l.toArray.size false) = true)
  (hlen : t.len + (l.toArray.size - L) = l.toArray.size) (hS : S w.drew) (h : forkF P l.toArray (NoPanic Q) S (l.drop L) t a w.drew) : (Code.region id l.toArray true).wp P Q a w := by
 have := fork_sound (md := .any) (L := L) (Region.noSelect_spec hs) (fun _ _ _ _ _ h => h) (l.drop L) (by simp) t (Array.replicate l.toArray.size false) a w.drew hc (Closed.start _) h hS 0
 rw [Nat.add_zero, hlen] at this
 exact wp_region_noPanic (wp_region_any hm (wpAny_of_F _ _ _ _ this))
end
end Go.Proofs.YtfhambfgjigneaaGreat

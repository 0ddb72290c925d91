/- Contracts of Go functions that the statement reaches, proved by walking their text, and plain laws over them (texts put together). -/
import Derived.Test.YtfhambfgjigneaaK4
import Derived.Test.YtfhambfgjigneaaK1
set_option linter.unusedVariables false
set_option linter.unusedSimpArgs false
namespace Go.Proofs.Ytfhambfgjigneaa
open Go.RowKit
def sumQ (l : List Rat) : Rat := l.foldl (· + ·) 0
theorem sumQ_snoc (l : List Rat) (q : Rat) : sumQ (l ++ [q]) = sumQ l + q := by unfold sumQ; rw [List.foldl_append]; rfl
theorem fit_zero : FitQ 1 0 := by unfold FitQ; decide +kernel
theorem fit_fold (k : Nat) : ∀ (l : List Rat) (c : Nat) (a : Rat), FitQ c a → (∀ q ∈ l, FitQ k q) → FitQ (l.length * (k + 1) + c) (l.foldl (· + ·) a)
  | [], c, a, ha, _ => by simpa using ha
  | q :: l, c, a, ha, h => by
    have := fit_fold k l (c + k + 1) (a + q) (fit_add ha (h q (by simp)) (Nat.le_refl _)) fun x hx => h x (List.mem_cons_of_mem _ hx)
    rw [List.foldl_cons]
    refine fit_mono this ?_
    rw [List.length_cons, Nat.add_mul]
    omega
theorem fit_sum (l : List Rat) (k : Nat) (h : ∀ q ∈ l, FitQ k q) : FitQ (l.length * (k + 1) + 1) (sumQ l) := fit_fold k l 1 0 fit_zero h
/-- A number that a function keeps in a block of its own. -/
def Acc (W : World) (g : Nat) (q : Rat) : Prop := ∃ A1 n1 c1 A2 n2 c2, Blk W g 85 #[.slice A1 n1 c1, .slice A2 n2 c2, .bool (negQ q)] ∧ RQ W (.agg #[.slice A1 n1 c1, .slice A2 n2 c2, .bool (negQ q)]) q
theorem Acc.step {W W' : World} {g : Nat} {q : Rat} (h : Acc W g q) (hb : Below W.heap.size W W') : Acc W' g q := by
  obtain ⟨A1, n1, c1, A2, n2, c2, h1, h2⟩ := h
  exact ⟨A1, n1, c1, A2, n2, c2, h1.below hb h1.lt, h2.of_below hb⟩
theorem ni_acc {A1 A2 : Option Addr} {n1 c1 n2 c2 : Nat} {s : Bool} : ∀ u ∈ #[Value.slice A1 n1 c1, .slice A2 n2 c2, .bool s], notInt u = true := by simp [notInt]
theorem Acc.put {W : World} {g : Nat} {q p : Rat} {A1 A2 : Option Addr} {n1 c1 n2 c2 : Nat} (h : Acc W g q) (hp : RQ W (.agg #[.slice A1 n1 c1, .slice A2 n2 c2, .bool (negQ p)]) p) : Acc (((W.setCell ⟨g, 0, none⟩ (.slice A1 n1 c1)).setCell ⟨g, 1, none⟩ (.slice A2 n2 c2)).setCell ⟨g, 2, none⟩ (.bool (negQ p))) g p := by
  obtain ⟨_, _, _, _, _, _, h1, _⟩ := h
  exact ⟨A1, n1, c1, A2, n2, c2, h1.put3 _ _ _, hp.put3 h1 ni_acc _ _ _⟩
theorem HS.other3 {w W : World} {bs : List (Nat × Nat × Array Value)} {g : Nat} (h : HS w bs W) (hg : w.heap.size ≤ g) (hne : ∀ b ∈ bs, b.1 ≠ g) (x y z : Value) : HS w bs (((W.setCell ⟨g, 0, none⟩ x).setCell ⟨g, 1, none⟩ y).setCell ⟨g, 2, none⟩ z) := by
  refine ⟨fun b hm => ?_, below_put3 h.2 hg x y z⟩
  exact (((h.1 b hm).other (a := ⟨g, 0, none⟩) (hne b hm) x).other (a := ⟨g, 1, none⟩) (hne b hm) y).other (a := ⟨g, 2, none⟩) (hne b hm) z
theorem le_of_getElem? {α : Type} {l : List α} {i : Nat} {x : α} (h : l[i]? = some x) : i < l.length := (List.getElem?_eq_some_iff.1 h).1
theorem fit_all (fs : List RawF) : ∀ q ∈ fs.map fixQ, FitQ 4096 q := fun q hq => by
  obtain ⟨f, _, rfl⟩ := List.mem_map.1 hq
  exact fit_fix f
theorem size_sums (fs : List RawF) (i : Nat) (hl : fs.length ≤ 100000) : sizeQ (sumQ ((fs.map fixQ).take i)) ≤ 4000000000 := by
  have := (fit_sum ((fs.map fixQ).take i) 4096 fun q hq => fit_all fs q (List.mem_of_mem_take hq)).size
  have h2 : ((fs.map fixQ).take i).length ≤ 100000 := by rw [List.length_take, List.length_map]; omega
  have h3 := Nat.mul_le_mul_right 4097 h2
  omega
set_option maxHeartbeats 16000000 in
set_option maxRecDepth 100000 in
theorem fsum_calls (w : World) (v : Value) (fs : List RawF) (h : FL w v fs) (hl : fs.length ≤ 100000) : Calls Try.prog 54 #[v] w fun e w' => FPost w (capQ (sumQ (fs.map fixQ))) e w' := by
  obtain ⟨A, c, rfl, hc⟩ := h.slice
  have HF := Lib.hid h
  clear h
  go_enter Try.func54, Try.ntmps54
  go_wp2_with fail
  have H0 := Lib.hid (HS.one (w := w) #[.bool false, .slice none 0 0, .slice none 0 0] 40)
  generalize w.alloc (.cells #[.bool false, .slice none 0 0, .slice none 0 0] 40) = W0 at *
  refine (whole_calls W0 0 (by decide) (by decide)).mono ?_
  rintro e w1 ⟨v, rfl, hv, hb⟩
  obtain ⟨A5, n5, c5, A6, n6, c6, rfl, HV⟩ := hv.opened'
  have H1 := Lib.hid (H0.out.step hb)
  clear hb hv
  go_wp2_with fail
  have HA0 := Lib.hid (show Acc (w1.alloc (.cells #[.slice A5 n5 c5, .slice A6 n6 c6, .bool (negQ 0)] 85)) w1.heap.size 0 from ⟨A5, n5, c5, A6, n6, c6, Blk.new _ _ _, HV.out.of_below (below_new _ _)⟩)
  have H2 := Lib.hid (H1.out.more (.cells #[.slice A5 n5 c5, .slice A6 n6 c6, .bool (negQ 0)] 85))
  have hg0 := (H1.out.blk 0 rfl).lt
  have hw0 := H1.out.2.size
  have HF2 := Lib.hid (HF.out.below EF.stays H2.out.2)
  obtain ⟨g3, hg3⟩ : ∃ g3, g3 = w1.heap.size := ⟨_, rfl⟩
  rw [← hg3] at HA0 hg0 hw0
  have HG3 := Lib.hid hg3
  generalize w1.alloc (.cells #[.slice A5 n5 c5, .slice A6 n6 c6, .bool (negQ 0)] 85) = W2 at *
  rw [← hg3]
  clear hg3
  refine (all_calls _ _ fs HF2.out (by omega)).mono ?_
  rintro e w3 ⟨gq, rfl, hgq, hgq2, hql, hb⟩
  have HA3 := Lib.hid (HA0.out.step hb)
  have hgq3 : g3 < gq := by obtain ⟨_, _, _, _, _, _, h1, _⟩ := HA0.out; have := h1.lt; omega
  have H3 := Lib.hid (H2.out.step hb)
  have HQL := Lib.hid hql
  clear hb hql
  go_wp2_with fail
  go_loopw [10] (fun vi wr => ∃ i : Nat, i ≤ fs.length ∧ vi = .int .i64 (i : Int) ∧ Acc wr g3 (sumQ ((fs.map fixQ).take i)) ∧ QL wr (.slice (some ⟨gq, 0, none⟩) fs.length fs.length) (fs.map fixQ) ∧ HS w [(w.heap.size, 40, #[.bool false, .slice none 0 0, .slice none 0 0])] wr) (fun vi _ => fs.length - (intOf vi).toNat)
  case atStart => exact ⟨0, Nat.zero_le _, rfl, HA3.out, HQL.out, H3.out⟩
  case round =>
    obtain ⟨i, hi, rfl, hacc, hq, hs⟩ := hrel
    have HA4 := Lib.hid hacc
    have HQ4 := Lib.hid hq
    have H4 := Lib.hid hs
    clear hacc hq hs
    by_cases hlt : i < fs.length
    · obtain ⟨q, hqi⟩ : ∃ q, (fs.map fixQ)[i]? = some q := ⟨(fs.map fixQ)[i]'(by simpa using hlt), List.getElem?_eq_getElem (by simpa using hlt)⟩
      obtain ⟨g', o', A1, n1, c1, A2, n2, c2, eA, hg, k0, k1, k2, HE⟩ := QL.at3 HQ4.out hqi
      injection eA with eA
      injection eA with eA1 eA2
      subst eA1 eA2
      rw [Nat.zero_add] at k0 k1 k2
      have HQI := Lib.hid hqi
      have hsq : sizeQ q ≤ 4000000000 := by
        have := (fit_all fs q (List.mem_of_getElem? hqi)).size
        omega
      clear hqi
      have m1 : (i : Int) < (fs.length : Int) := by omega
      have m3 : (i : Int).toNat = i := by omega
      have m4 : (0 : Int) ≤ (i : Int) := by omega
      have hsz := size_sums fs i hl
      obtain ⟨B1, k1', d1, B2, k2', d2, hk, hR⟩ := HA4.out
      have HR1 := Lib.hid hR
      have HK := Lib.hid hk
      obtain ⟨a0, a1, a2⟩ := hk.c3
      have hlt3 := hk.lt
      clear hR hk
      go_wp2_with fail
      have hb1 := below_new wr (.cells #[.slice A1 n1 c1, .slice A2 n2 c2, .bool (negQ q)] 85)
      refine (plus_calls _ _ _ _ _ (HR1.out.of_below hb1) (HE.out.of_below hb1) hsz hsq).mono ?_
      rintro e w2 ⟨v, rfl, hv, hb2⟩
      obtain ⟨A7, n7, c7, A8, n8, c8, rfl, HV⟩ := hv.opened'
      have hbb := below_next hb1 hb2
      have HA5 := Lib.hid (HA4.out.step hbb)
      have HQ5 := Lib.hid (HQ4.out.below EQ.stays hbb)
      have H5 := Lib.hid (H4.out.step hbb)
      obtain ⟨_, _, _, _, _, _, hk5, _⟩ := HA5.out
      obtain ⟨a0', a1', a2'⟩ := hk5.c3
      obtain ⟨f0, f1, f2⟩ := hk5.f3
      have HK5 := Lib.hid hk5
      clear hv hb1 hb2 hbb hk5
      go_wp2_with fail
      go_roundw
      case rel =>
        refine ⟨i + 1, by omega, by go_num, ?_, HQ5.out.put3 EQ.far HK5.out ni_acc (by omega), H5.out.other3 (by omega) (by simp; omega) _ _ _⟩
        rw [List.take_add_one, HQI.out]
        have e : sumQ (List.take i (List.map fixQ fs) ++ (some q).toList) = sumQ (List.take i (List.map fixQ fs)) + q := sumQ_snoc _ _
        rw [e]
        exact HA5.out.put HV.out
      case measure => simp [intOf]; omega
    · obtain rfl : i = fs.length := by omega
      rw [show (fs.map fixQ).take fs.length = fs.map fixQ from List.take_of_length_le (by simp)] at HA4
      obtain ⟨B1, k1', d1, B2, k2', d2, hk, hR⟩ := HA4.out
      have HR1 := Lib.hid hR
      obtain ⟨a0, a1, a2⟩ := hk.c3
      clear hR hk
      have hsz := size_sums fs fs.length hl
      rw [show (fs.map fixQ).take fs.length = fs.map fixQ from List.take_of_length_le (by simp)] at hsz
      go_wp2_with fail
      refine (told_calls _ _ _ HR1.out hsz).mono ?_
      rintro e w2 ⟨v, rfl, hv, hb2⟩
      obtain ⟨A7, n7, c7, A8, n8, c8, rfl, HV⟩ := hv.opened
      have H5 := Lib.hid (H4.out.step hb2)
      clear hv hb2
      obtain ⟨e0, e1, e2⟩ := (H5.out.blk 0 rfl).c3
      obtain ⟨f0, f1, f2⟩ := (H5.out.blk 0 rfl).f3
      go_wp2_with fail
      exact end40 Try.results54 rfl (H5.out.blk 0 rfl) HV.out (Nat.le_refl _) H5.out.2
end Go.Proofs.Ytfhambfgjigneaa
set_option linter.unusedVariables false
set_option linter.unusedSimpArgs false
namespace Go.Proofs.Ytfhambfgjigneaa
open Go.RowKit
def dotQ (a b : List Rat) : Rat := sumQ (List.zipWith (· * ·) a b)
theorem fit_dots (fs gs : List RawF) : ∀ q ∈ List.zipWith (· * ·) (fs.map fixQ) (gs.map fixQ), FitQ 8192 q := fun q hq => by
  obtain ⟨i, hi, rfl⟩ := List.getElem_of_mem hq
  rw [List.getElem_zipWith, List.getElem_map, List.getElem_map]
  exact fit_mul (fit_fix _) (fit_fix _) (by omega)
theorem size_dots (fs gs : List RawF) (i : Nat) (hl : fs.length ≤ 100000) : sizeQ (sumQ ((List.zipWith (· * ·) (fs.map fixQ) (gs.map fixQ)).take i)) ≤ 4000000000 := by
  have := (fit_sum ((List.zipWith (· * ·) (fs.map fixQ) (gs.map fixQ)).take i) 8192 fun q hq => fit_dots fs gs q (List.mem_of_mem_take hq)).size
  have h2 : ((List.zipWith (· * ·) (fs.map fixQ) (gs.map fixQ)).take i).length ≤ 100000 := by rw [List.length_take, List.length_zipWith, List.length_map]; omega
  have h3 := Nat.mul_le_mul_right 8193 h2
  omega
set_option maxHeartbeats 16000000 in
set_option maxRecDepth 100000 in
theorem fdot_calls (w : World) (v v2 : Value) (fs gs : List RawF) (h : FL w v fs) (h2 : FL w v2 gs) (hl : fs.length ≤ 100000) (hl2 : gs.length ≤ 100000) : Calls Try.prog 55 #[v, v2] w fun e w' => FPost w (capQ (dotQ (fs.map fixQ) (gs.map fixQ))) e w' := by
  obtain ⟨A, c, rfl, hc⟩ := h.slice
  obtain ⟨A', c', rfl, hc'⟩ := h2.slice
  have HF := Lib.hid h
  have HG := Lib.hid h2
  obtain ⟨ds, hds⟩ : ∃ ds, ds = List.zipWith (· * ·) (fs.map fixQ) (gs.map fixQ) := ⟨_, rfl⟩
  have HDS := Lib.hid hds
  rw [show dotQ (fs.map fixQ) (gs.map fixQ) = sumQ ds from by rw [hds]; rfl]
  have hszs : ∀ i, sizeQ (sumQ (ds.take i)) ≤ 4000000000 := by rw [hds]; exact fun i => size_dots fs gs i hl
  have HSZ := Lib.hid hszs
  clear h h2 hds hszs
  go_enter Try.func55, Try.ntmps55
  obtain ⟨m, hm⟩ : ∃ m : Nat, min (fs.length : Int) (gs.length : Int) = (m : Int) := ⟨min fs.length gs.length, by omega⟩
  have h1 : m ≤ fs.length := by omega
  have h2 : m ≤ gs.length := by omega
  have HM : Hid (m = min fs.length gs.length) := by unfold Hid; omega
  have h3 : (m : Int) ≤ (c : Int) := by omega
  have h4 : (m : Int) ≤ (c' : Int) := by omega
  have h5 : (m : Int).toNat = m := by omega
  go_wp2_with fail
  clear hm
  have H0 := Lib.hid (HS.one (w := w) #[.bool false, .slice none 0 0, .slice none 0 0] 40)
  generalize w.alloc (.cells #[.bool false, .slice none 0 0, .slice none 0 0] 40) = W0 at *
  have HF1 := Lib.hid (HF.out.take m h1 (Nat.le_refl _))
  have HG1 := Lib.hid (HG.out.take m h2 (Nat.le_refl _))
  have lf : (fs.take m).length = m := by rw [List.length_take]; omega
  have lg : (gs.take m).length = m := by rw [List.length_take]; omega
  have LF := Lib.hid lf
  have LG := Lib.hid lg
  clear lf lg
  go_region_held3 (fun W => HS w [(w.heap.size, 40, #[.bool false, .slice none 0 0, .slice none 0 0])] W)
    (first
      | exact H0.out.drew
      | assumption
      | exact HS.step ‹HS _ _ _› ‹_›)
    (first
      | (go_at_call_of 91 (Value.slice A m m); refine (all_calls _ _ (fs.take m) (HF1.out.below EF.stays (HS.step ‹HS _ _ _› (Below.refl _ _)).2) (by rw [LF.out]; omega)).mono ?_; rintro e w3 ⟨gq, rfl, hgq, hgq2, hql, hb⟩; rw [LF.out])
      | (go_at_call_of 91 (Value.slice A' m m); refine (all_calls _ _ (gs.take m) (HG1.out.below EF.stays (HS.step ‹HS _ _ _› (Below.refl _ _)).2) (by rw [LG.out]; omega)).mono ?_; rintro e w4 ⟨gp, rfl, hgp, hgp2, hpl, hb4⟩; have H4 := Lib.hid (HS.step ‹HS _ _ _› hb4); rw [LG.out]))
  have HQL := Lib.hid (hql.below EQ.stays hb4)
  have HPL := Lib.hid hpl
  rw [LF.out] at HQL
  rw [LG.out] at HPL
  clear hql hpl hb hb4
  have hgq4 : gq < w4.heap.size := by have := HQL.out; have := H4.out.2.size; have := HPL; omega
  go_wp2_with fail
  refine (whole_calls w4 0 (by decide) (by decide)).mono ?_
  rintro e w5 ⟨v, rfl, hv, hb⟩
  obtain ⟨A5, n5, c5, A6, n6, c6, rfl, HV⟩ := hv.opened'
  have H5 := Lib.hid (H4.out.step hb)
  have HQ5 := Lib.hid (HQL.out.below EQ.stays hb)
  have HP5 := Lib.hid (HPL.out.below EQ.stays hb)
  have hs5 := hb.size
  have hg0 := (H5.out.blk 0 rfl).lt
  clear hv hb
  have HA0 := Lib.hid (show Acc (w5.alloc (.cells #[.slice A5 n5 c5, .slice A6 n6 c6, .bool (negQ 0)] 85)) w5.heap.size 0 from ⟨A5, n5, c5, A6, n6, c6, Blk.new _ _ _, HV.out.of_below (below_new _ _)⟩)
  have H6 := Lib.hid (H5.out.more (.cells #[.slice A5 n5 c5, .slice A6 n6 c6, .bool (negQ 0)] 85))
  have HQ6 := Lib.hid (HQ5.out.below EQ.stays (below_new w5 (.cells #[.slice A5 n5 c5, .slice A6 n6 c6, .bool (negQ 0)] 85)))
  have HP6 := Lib.hid (HP5.out.below EQ.stays (below_new w5 (.cells #[.slice A5 n5 c5, .slice A6 n6 c6, .bool (negQ 0)] 85)))
  go_wp2_with fail
  obtain ⟨g3, hg3⟩ : ∃ g3, g3 = w5.heap.size := ⟨_, rfl⟩
  rw [← hg3] at HA0
  have hq3 : gq ≠ g3 := by omega
  have hp3 : gp ≠ g3 := by omega
  have h03 : w.heap.size ≠ g3 := by omega
  have hw3 : w.heap.size ≤ g3 := by omega
  generalize w5.alloc (.cells #[.slice A5 n5 c5, .slice A6 n6 c6, .bool (negQ 0)] 85) = W6 at *
  rw [← hg3]
  clear hg3
  go_loopw [28] (fun vi wr => ∃ i : Nat, i ≤ m ∧ vi = .int .i64 (i : Int) ∧ Acc wr g3 (sumQ (ds.take i)) ∧ QL wr (.slice (some ⟨gq, 0, none⟩) m m) ((fs.take m).map fixQ) ∧ QL wr (.slice (some ⟨gp, 0, none⟩) m m) ((gs.take m).map fixQ) ∧ HS w [(w.heap.size, 40, #[.bool false, .slice none 0 0, .slice none 0 0])] wr) (fun vi _ => m - (intOf vi).toNat)
  case atStart => exact ⟨0, Nat.zero_le _, rfl, HA0.out, HQ6.out, HP6.out, H6.out⟩
  case round =>
    obtain ⟨i, hi, rfl, hacc, hq, hp, hs⟩ := hrel
    have HA4 := Lib.hid hacc
    have HQ4 := Lib.hid hq
    have HP4 := Lib.hid hp
    have H7 := Lib.hid hs
    clear hacc hq hp hs
    by_cases hlt : i < m
    · have hif : i < fs.length := by omega
      have hig : i < gs.length := by omega
      have e1 : ((fs.take m).map fixQ)[i]? = some (fixQ fs[i]) := by simp [List.getElem?_map, List.getElem?_take, hlt, List.getElem?_eq_getElem hif]
      have e2 : ((gs.take m).map fixQ)[i]? = some (fixQ gs[i]) := by simp [List.getElem?_map, List.getElem?_take, hlt, List.getElem?_eq_getElem hig]
      have e3 : ds[i]? = some (fixQ fs[i] * fixQ gs[i]) := by rw [HDS.out]; simp [List.getElem?_zipWith, List.getElem?_eq_getElem hif, List.getElem?_eq_getElem hig]
      obtain ⟨p, hp⟩ : ∃ p, p = fixQ fs[i] := ⟨_, rfl⟩
      obtain ⟨q, hq⟩ : ∃ q, q = fixQ gs[i] := ⟨_, rfl⟩
      have fp : FitQ 4096 p := hp ▸ fit_fix _
      have fq : FitQ 4096 q := hq ▸ fit_fix _
      rw [← hp, ← hq] at e3
      rw [← hp] at e1
      rw [← hq] at e2
      clear hp hq
      obtain ⟨g', o', A1, n1, c1, A2, n2, c2, eA, hg, k0, k1, k2, HE⟩ := QL.at3 HQ4.out e1
      injection eA with eA
      injection eA with eA1 eA2
      subst eA1 eA2
      obtain ⟨g', o', A3, n3, c3, A4, n4, c4, eA, hg', k0', k1', k2', HE'⟩ := QL.at3 HP4.out e2
      injection eA with eA
      injection eA with eA1 eA2
      subst eA1 eA2
      rw [Nat.zero_add] at k0 k1 k2 k0' k1' k2'
      have HE3 := Lib.hid e3
      clear e1 e2 e3
      have s1 : sizeQ p ≤ 4000000000 := by have := fp.size; omega
      have s2 : sizeQ q ≤ 4000000000 := by have := fq.size; omega
      have s3 : sizeQ (p * q) ≤ 4000000000 := by have := (fit_mul fp fq (Nat.le_refl _)).size; omega
      have s4 : sizeQ (sumQ (ds.take i)) ≤ 4000000000 := HSZ.out i
      clear fp fq
      have m1 : (i : Int) < (m : Int) := by omega
      have m3 : (i : Int).toNat = i := by omega
      have m4 : (0 : Int) ≤ (i : Int) := by omega
      obtain ⟨B1, b1, d1, B2, b2, d2, hk, hR⟩ := HA4.out
      have HR1 := Lib.hid hR
      have HK := Lib.hid hk
      obtain ⟨a0, a1, a2⟩ := hk.c3
      obtain ⟨f0, f1, f2⟩ := hk.f3
      have hlt3 := hk.lt
      clear hR hk
      go_wp2_with fail
      have HB0 := Lib.hid (Below.refl wr.heap.size wr)
      refine wp_chain (S := Below wr.heap.size wr) 11 [([0, 1, 2, 3, 4, 5, 6, 7, 8], 9), ([], 10), ([], 11)] (by kernel_rfl) (by kernel_rfl) (by kernel_rfl) rfl (Below.drew (Below.refl _ _)) ?_
      refine ⟨?_, _, ?_, rfl, ?_⟩
      rotate_left
      · repeat (refine ⟨_, ?_, rfl, Or.inl ⟨by rfl, ?_⟩, ?_⟩; rotate_left; focus (intro W hW; have hcW := (bcell hW).1; clear hW; go_simp; try with_reducible rfl); (try simp only [Act.put, List.setIfInBounds_toArray, List.set_cons_zero, List.set_cons_succ]))
        exact rfl
      go_wp2_with fail
      refine (times_calls _ _ _ p q (HE.out.of_below (Below.drew (Below.refl _ _))) (HE'.out.of_below (Below.drew (Below.refl _ _))) s1 s2).mono ?_
      rintro e w7 ⟨v, rfl, hv, hb⟩
      obtain ⟨A5, n5, c5, A6, n6, c6, rfl, HV5⟩ := hv.opened'
      have HB7 := Lib.hid (below_next (Below.drew (Below.refl wr.heap.size wr)) hb)
      clear hv hb
      go_wp2_with fail
      refine And.intro HB7.out ⟨_, _, rfl, rfl, ?_⟩
      go_wp2_with fail
      refine (plus_calls _ _ _ _ _ (HR1.out.of_below HB7.out) HV5.out s4 s3).mono ?_
      rintro e w8 ⟨v, rfl, hv, hb⟩
      obtain ⟨A7, n7, c7, A8, n8, c8, rfl, HV6⟩ := hv.opened'
      have HB8 := Lib.hid (below_next HB7.out hb)
      clear hv hb
      go_wp2_with fail
      refine And.intro HB8.out ⟨_, _, rfl, rfl, ?_⟩
      have HA5 := Lib.hid (HA4.out.step HB8.out)
      obtain ⟨_, _, _, _, _, _, hk5, _⟩ := HA5.out
      obtain ⟨y0, y1, y2⟩ := hk5.c3
      obtain ⟨f0, f1, f2⟩ := hk5.f3
      have HK5 := Lib.hid hk5
      clear hk5
      go_wp2_with fail
      refine NoPanic.normal ?_
      go_wp2_with fail
      go_roundw
      case rel =>
        refine ⟨i + 1, by omega, by go_num, ?_, (HQ4.out.below EQ.stays HB8.out).put3 EQ.far HK5.out ni_acc hq3, (HP4.out.below EQ.stays HB8.out).put3 EQ.far HK5.out ni_acc hp3, (H7.out.step HB8.out).other3 hw3 (by simp; omega) _ _ _⟩
        rw [List.take_add_one, HE3.out]
        have e : sumQ (List.take i ds ++ (some (p * q)).toList) = sumQ (List.take i ds) + p * q := sumQ_snoc _ _
        rw [e]
        exact HA5.out.put HV6.out
      case measure => simp [intOf]; omega
    · obtain rfl : i = m := by omega
      have hzl : ds.take i = ds := List.take_of_length_le (by rw [HDS.out, List.length_zipWith, List.length_map, List.length_map]; have := HM.out; omega)
      have hsz := HSZ.out i
      rw [hzl] at HA4 hsz
      obtain ⟨B1, k1', d1, B2, k2', d2, hk, hR⟩ := HA4.out
      have HR1 := Lib.hid hR
      obtain ⟨a0, a1, a2⟩ := hk.c3
      clear hR hk hzl
      go_wp2_with fail
      refine (told_calls _ _ _ HR1.out hsz).mono ?_
      rintro e w2 ⟨v, rfl, hv, hb2⟩
      obtain ⟨A7, n7, c7, A8, n8, c8, rfl, HV⟩ := hv.opened
      have H8 := Lib.hid (H7.out.step hb2)
      clear hv hb2
      obtain ⟨e0, e1, e2⟩ := (H8.out.blk 0 rfl).c3
      obtain ⟨f0, f1, f2⟩ := (H8.out.blk 0 rfl).f3
      go_wp2_with fail
      exact end40 Try.results55 rfl (H8.out.blk 0 rfl) HV.out (Nat.le_refl _) H8.out.2
end Go.Proofs.Ytfhambfgjigneaa
set_option linter.unusedVariables false
set_option linter.unusedSimpArgs false
namespace Go.Proofs.Ytfhambfgjigneaa
open Go.RowKit
/-- A row of a program, and a program, as they come. -/
structure RowF where
  a : List RawF
  s : Int
  b : RawF
structure ProgF where
  vars : Int
  free : List Bool
  goal : List RawF
  rows : List RowF
def I64 (n : Int) : Prop := -9223372036854775808 ≤ n ∧ n ≤ 9223372036854775807
def EB (w : World) (vs : Array Value) (b : Bool) : Prop := vs = #[.bool b]
abbrev BL (w : World) (v : Value) (bs : List Bool) : Prop := SL 1 EB w v bs
def ER (w : World) (vs : Array Value) (r : RowF) : Prop := ∃ v A1 n1 c1 A2 n2 c2, vs = #[v, .int .i64 r.s, .bool r.b.neg, .slice A1 n1 c1, .slice A2 n2 c2] ∧ I64 r.s ∧ FL w v r.a ∧ FR w (.agg #[.bool r.b.neg, .slice A1 n1 c1, .slice A2 n2 c2]) r.b
abbrev RL (w : World) (v : Value) (rs : List RowF) : Prop := SL 5 ER w v rs
def PR (w : World) (v : Value) (p : ProgF) : Prop := ∃ v1 v2 v3, v = .agg #[.int .i64 p.vars, v1, v2, v3] ∧ I64 p.vars ∧ BL w v1 p.free ∧ FL w v2 p.goal ∧ RL w v3 p.rows
theorem EB.stays : Stays EB := fun _ _ _ _ h _ => h
theorem ER.stays : Stays ER := fun _ _ _ _ h hb => by
  obtain ⟨v, A1, n1, c1, A2, n2, c2, e, hs, h1, h2⟩ := h
  exact ⟨v, A1, n1, c1, A2, n2, c2, e, hs, h1.below EF.stays hb, h2.of_below hb⟩
theorem PR.of_below {w w1 : World} {v : Value} {p : ProgF} (h : PR w v p) (hb : Below w.heap.size w w1) : PR w1 v p := by
  obtain ⟨v1, v2, v3, e, hv, h1, h2, h3⟩ := h
  exact ⟨v1, v2, v3, e, hv, h1.below EB.stays hb, h2.below EF.stays hb, h3.below ER.stays hb⟩
theorem PR.opened {w : World} {v : Value} {p : ProgF} (h : PR w v p) : ∃ A1 c1 A2 c2 A3 c3, v = .agg #[.int .i64 p.vars, .slice A1 p.free.length c1, .slice A2 p.goal.length c2, .slice A3 p.rows.length c3] ∧ Hid (I64 p.vars) ∧ Hid (BL w (.slice A1 p.free.length c1) p.free) ∧ Hid (FL w (.slice A2 p.goal.length c2) p.goal) ∧ Hid (RL w (.slice A3 p.rows.length c3) p.rows) := by
  obtain ⟨v1, v2, v3, rfl, hv, h1, h2, h3⟩ := h
  obtain ⟨A1, c1, rfl, _⟩ := h1.slice
  obtain ⟨A2, c2, rfl, _⟩ := h2.slice
  obtain ⟨A3, c3, rfl, _⟩ := h3.slice
  exact ⟨A1, c1, A2, c2, A3, c3, rfl, hv, h1, h2, h3⟩
theorem RL.at5 {w : World} {A : Option Addr} {n c : Nat} {rs : List RowF} (h : RL w (.slice A n c) rs) {j : Nat} {r : RowF} (hj : rs[j]? = some r) :
    ∃ g o A1 c1 A2 n2 c2 A3 n3 c3, A = some ⟨g, o, none⟩ ∧ g < w.heap.size ∧ w.cell? ⟨g, o + j * 5, none⟩ = some (.slice A1 r.a.length c1) ∧ w.cell? ⟨g, o + j * 5 + 1, none⟩ = some (.int .i64 r.s) ∧ w.cell? ⟨g, o + j * 5 + 2, none⟩ = some (.bool r.b.neg) ∧
      w.cell? ⟨g, o + j * 5 + 3, none⟩ = some (.slice A2 n2 c2) ∧ w.cell? ⟨g, o + j * 5 + 4, none⟩ = some (.slice A3 n3 c3) ∧ Hid (I64 r.s) ∧ Hid (FL w (.slice A1 r.a.length c1) r.a) ∧ Hid (FR w (.agg #[.bool r.b.neg, .slice A2 n2 c2, .slice A3 n3 c3]) r.b) := by
  obtain ⟨g, o, vs, hA, hg, hs, hc, v, A2, n2, c2, A3, n3, c3, rfl, hI, h1, h2⟩ := h.at_ hj
  obtain ⟨A1, c1, rfl, _⟩ := h1.slice
  exact ⟨g, o, A1, c1, A2, n2, c2, A3, n3, c3, hA, hg, hc 0 _ rfl, hc 1 _ rfl, hc 2 _ rfl, hc 3 _ rfl, hc 4 _ rfl, hI, h1, h2⟩
def rowBad (vars : Int) (r : RowF) : Bool := decide ((r.a.length : Int) ≠ vars) || decide (r.s < -1) || decide (r.s > 1)
def rightP (p : ProgF) : Int := if p.vars > 160 ∨ p.rows.length > 400 then 1 else if p.vars < 1 ∨ (p.free.length : Int) ≠ p.vars ∨ (p.goal.length : Int) ≠ p.vars then 20 else if p.rows.any (rowBad p.vars) then 20 else 0
theorem rightP_a {p : ProgF} (h : p.vars > 160 ∨ p.rows.length > 400) : rightP p = 1 := by unfold rightP; rw [if_pos h]
theorem rightP_b {p : ProgF} (h : ¬ (p.vars > 160 ∨ p.rows.length > 400)) (h2 : p.vars < 1 ∨ (p.free.length : Int) ≠ p.vars ∨ (p.goal.length : Int) ≠ p.vars) : rightP p = 20 := by unfold rightP; rw [if_neg h, if_pos h2]
theorem rightP_c {p : ProgF} (h : ¬ (p.vars > 160 ∨ p.rows.length > 400)) (h2 : ¬ (p.vars < 1 ∨ (p.free.length : Int) ≠ p.vars ∨ (p.goal.length : Int) ≠ p.vars)) {i : Nat} {r : RowF} (hr : p.rows[i]? = some r) (hb : rowBad p.vars r = true) : rightP p = 20 := by
  unfold rightP
  rw [if_neg h, if_neg h2, if_pos (List.any_eq_true.2 ⟨r, List.mem_of_getElem? hr, hb⟩)]
theorem rightP_d {p : ProgF} (h : ¬ (p.vars > 160 ∨ p.rows.length > 400)) (h2 : ¬ (p.vars < 1 ∨ (p.free.length : Int) ≠ p.vars ∨ (p.goal.length : Int) ≠ p.vars)) (ha : ∀ (j : Nat) (r : RowF), p.rows[j]? = some r → rowBad p.vars r = false) : rightP p = 0 := by
  unfold rightP
  rw [if_neg h, if_neg h2, if_neg]
  rw [List.any_eq_true]
  rintro ⟨r, hr, hb⟩
  obtain ⟨j, hj⟩ := List.getElem?_of_mem hr
  rw [ha j r hj] at hb
  cases hb
theorem bneI {a b : Int} (h : a ≠ b) : (a != b) = true := by simpa using h
theorem beqI {a b : Int} (h : a = b) : (a != b) = false := by simpa using h
set_option maxHeartbeats 16000000 in
set_option maxRecDepth 100000 in
theorem pright_calls (w : World) (v : Value) (p : ProgF) (h : PR w v p) : Calls Try.prog 20 #[v] w fun e w' => IPost w (rightP p) e w' := by
  obtain ⟨A1, c1, A2, c2, A3, c3, rfl, HI, H1, H2, H3⟩ := h.opened
  clear h
  obtain ⟨vars, hv⟩ : ∃ n, n = p.vars := ⟨_, rfl⟩
  rw [← hv]
  have HV := Lib.hid hv
  clear hv
  go_enter Try.func20, Try.ntmps20
  by_cases a1 : vars > 160
  · have t1 : decide (vars > 160) = true := decide_eq_true a1
    have HR := Lib.hid (rightP_a (p := p) (.inl (HV.out ▸ a1)))
    clear a1
    go_wp2_with fail
    go_ret
    exact ⟨by rw [HR.out]; rfl, below_new w _⟩
  have t1 : decide (vars > 160) = false := decide_eq_false a1
  by_cases a2 : p.rows.length > 400
  · have t2 : decide ((p.rows.length : Int) > 400) = true := decide_eq_true (by omega)
    have HR := Lib.hid (rightP_a (p := p) (.inr a2))
    clear a1 a2
    go_wp2_with fail
    go_ret
    exact ⟨by rw [HR.out]; rfl, below_new w _⟩
  have t2 : decide ((p.rows.length : Int) > 400) = false := decide_eq_false (by omega)
  have N1 : Hid (¬ (p.vars > 160 ∨ p.rows.length > 400)) := by unfold Hid; rw [← HV.out]; omega
  by_cases b1 : vars < 1
  · have t3 : decide (vars < 1) = true := decide_eq_true b1
    have HR := Lib.hid (rightP_b N1.out (.inl (HV.out ▸ b1)))
    clear a1 a2 b1
    go_wp2_with fail
    go_ret
    exact ⟨by rw [HR.out]; rfl, below_new w _⟩
  have t3 : decide (vars < 1) = false := decide_eq_false b1
  by_cases b2 : (p.free.length : Int) = vars
  case neg =>
    have t4 : ((p.free.length : Int) != vars) = true := bneI b2
    have HR := Lib.hid (rightP_b N1.out (.inr (.inl (HV.out ▸ b2))))
    clear a1 a2 b1 b2
    go_wp2_with fail
    go_ret
    exact ⟨by rw [HR.out]; rfl, below_new w _⟩
  have t4 : ((p.free.length : Int) != vars) = false := beqI b2
  by_cases b3 : (p.goal.length : Int) = vars
  case neg =>
    have t5 : ((p.goal.length : Int) != vars) = true := bneI b3
    have HR := Lib.hid (rightP_b N1.out (.inr (.inr (HV.out ▸ b3))))
    clear a1 a2 b1 b2 b3
    go_wp2_with fail
    go_ret
    exact ⟨by rw [HR.out]; rfl, below_new w _⟩
  have t5 : ((p.goal.length : Int) != vars) = false := beqI b3
  have N2 : Hid (¬ (p.vars < 1 ∨ (p.free.length : Int) ≠ p.vars ∨ (p.goal.length : Int) ≠ p.vars)) := by unfold Hid; rw [← HV.out]; omega
  clear a1 b1 b2 b3
  go_wp2_with fail
  have hb0 := below_new w (.cells #[.int .i64 vars, .slice A1 p.free.length c1, .slice A2 p.goal.length c2, .slice A3 p.rows.length c3] 26)
  have hk0 := Blk.new w 26 #[.int .i64 vars, .slice A1 p.free.length c1, .slice A2 p.goal.length c2, .slice A3 p.rows.length c3]
  generalize w.alloc (.cells #[.int .i64 vars, .slice A1 p.free.length c1, .slice A2 p.goal.length c2, .slice A3 p.rows.length c3] 26) = W0 at *
  go_loopw [36] (fun vi wr => ∃ i : Nat, i ≤ p.rows.length ∧ vi = .int .i64 (i : Int) ∧ (∀ j r, j < i → p.rows[j]? = some r → rowBad p.vars r = false) ∧ Blk wr w.heap.size 26 #[.int .i64 vars, .slice A1 p.free.length c1, .slice A2 p.goal.length c2, .slice A3 p.rows.length c3] ∧ Below w.heap.size w wr) (fun vi _ => p.rows.length - (intOf vi).toNat)
  case atStart => exact ⟨0, Nat.zero_le _, rfl, fun j r h => absurd h (Nat.not_lt_zero _), hk0, hb0⟩
  case round =>
    obtain ⟨i, hi, rfl, hall, hk, hb⟩ := hrel
    have HA := Lib.hid hall
    have HK := Lib.hid hk
    have HB := Lib.hid hb
    clear hall hb hk hk0 hb0
    by_cases hlt : i < p.rows.length
    · obtain ⟨r, hr⟩ : ∃ r, p.rows[i]? = some r := ⟨p.rows[i], List.getElem?_eq_getElem hlt⟩
      obtain ⟨g, o, B1, d1, B2, n2, d2, B3, n3, d3, rfl, hg, k0, k1, k2, k3, k4, _, _, _⟩ := RL.at5 (H3.out.below ER.stays HB.out) hr
      have HRR := Lib.hid hr
      clear hr
      have m1 : (i : Int) < (p.rows.length : Int) := by omega
      have m3 : (i : Int).toNat = i := by omega
      have m4 : (0 : Int) ≤ (i : Int) := by omega
      have x0 := HK.out.cell (j := 0) rfl
      have hz := HK.out.lt
      by_cases q1 : (r.a.length : Int) = vars
      case neg =>
        have u1 : ((r.a.length : Int) != vars) = true := bneI q1
        have HR := Lib.hid (rightP_c N1.out N2.out HRR.out (by unfold rowBad; rw [← HV.out, decide_eq_true q1]; rfl))
        clear q1
        go_wp2_with fail
        go_ret
        exact ⟨by rw [HR.out]; rfl, below_next HB.out (below_new _ _)⟩
      have u1 : ((r.a.length : Int) != vars) = false := beqI q1
      by_cases q2 : r.s < -1
      · have u2 : decide (r.s < -1) = true := decide_eq_true q2
        have HR := Lib.hid (rightP_c N1.out N2.out HRR.out (by unfold rowBad; rw [decide_eq_true q2]; simp))
        clear q1 q2
        go_wp2_with fail
        go_ret
        exact ⟨by rw [HR.out]; rfl, below_next HB.out (below_new _ _)⟩
      have u2 : decide (r.s < -1) = false := decide_eq_false q2
      by_cases q3 : r.s > 1
      · have u3 : decide (r.s > 1) = true := decide_eq_true q3
        have HR := Lib.hid (rightP_c N1.out N2.out HRR.out (by unfold rowBad; rw [decide_eq_true q3]; simp))
        clear q1 q2 q3
        go_wp2_with fail
        go_ret
        exact ⟨by rw [HR.out]; rfl, below_next HB.out (below_new _ _)⟩
      have u3 : decide (r.s > 1) = false := decide_eq_false q3
      have HGood : Hid (rowBad p.vars r = false) := by unfold Hid rowBad; rw [← HV.out, decide_eq_false q2, decide_eq_false q3, decide_eq_false (by simpa using q1)]; rfl
      clear q1 q2 q3
      go_wp2_with fail
      go_roundw
      case rel =>
        refine ⟨i + 1, by omega, by go_num, fun j r' hj hr' => ?_, HK.out.alloc _, below_next HB.out (below_new _ _)⟩
        by_cases hji : j = i
        · rw [hji, HRR.out] at hr'
          injection hr' with e
          subst e
          exact HGood.out
        · exact HA.out j r' (by omega) hr'
      case measure => simp [intOf]; omega
    · obtain rfl : i = p.rows.length := by omega
      have HR := Lib.hid (rightP_d N1.out N2.out fun j r hr => HA.out j r (List.getElem?_eq_some_iff.1 hr).1 hr)
      go_wp2_with fail
      go_ret
      exact ⟨by rw [HR.out]; rfl, HB.out⟩
end Go.Proofs.Ytfhambfgjigneaa
set_option linter.unusedVariables false
set_option linter.unusedSimpArgs false
namespace Go.Proofs.Ytfhambfgjigneaa
open Go.RowKit
theorem HS.c4 {w W : World} {bs : List (Nat × Nat × Array Value)} {g t : Nat} {a b c d : Value} (h : HS w bs W) (i : Nat) (hi : bs[i]? = some (g, t, #[a, b, c, d])) : W.cell? ⟨g, 0, none⟩ = some a ∧ W.cell? ⟨g, 1, none⟩ = some b ∧ W.cell? ⟨g, 2, none⟩ = some c ∧ W.cell? ⟨g, 3, none⟩ = some d :=
  ⟨(h.blk i hi).cell rfl, (h.blk i hi).cell rfl, (h.blk i hi).cell rfl, (h.blk i hi).cell rfl⟩
noncomputable def valueP (p : ProgF) (x : List RawF) : Rat := if rightP p ≠ 0 ∨ (x.length : Int) ≠ p.vars then 0 else capQ (dotQ (p.goal.map fixQ) (x.map fixQ))
theorem capQ_zero : capQ 0 = 0 := by unfold capQ; split <;> rfl
theorem FL.nil (w : World) : FL w (.slice none 0 0) [] := ⟨none, 0, rfl, Nat.le_refl _, fun h => absurd h (by simp)⟩
theorem rightP_len {p : ProgF} (h : rightP p = 0) : (p.free.length : Int) = p.vars ∧ (p.goal.length : Int) = p.vars ∧ 1 ≤ p.vars ∧ p.vars ≤ 160 ∧ p.rows.length ≤ 400 ∧ ∀ (r : RowF), r ∈ p.rows → (r.a.length : Int) = p.vars ∧ -1 ≤ r.s ∧ r.s ≤ 1 := by
  unfold rightP at h
  split at h
  · omega
  · split at h
    · omega
    · split at h
      · omega
      · rename_i h1 h2 h3
        refine ⟨by omega, by omega, by omega, by omega, by omega, fun r hr => ?_⟩
        have hb : rowBad p.vars r = false := by
          cases e : rowBad p.vars r with
          | false => rfl
          | true => exact absurd (List.any_eq_true.2 ⟨r, hr, e⟩) h3
        unfold rowBad at hb
        simp only [Bool.or_eq_false_iff, decide_eq_false_iff_not] at hb
        exact ⟨by omega, by omega, by omega⟩
theorem rightP_vals (p : ProgF) : rightP p = 0 ∨ rightP p = 1 ∨ rightP p = 20 := by
  unfold rightP
  split
  · omega
  · split
    · omega
    · split <;> omega
set_option maxHeartbeats 16000000 in
set_option maxRecDepth 100000 in
theorem value_calls (w : World) (v v2 : Value) (p : ProgF) (x : List RawF) (h : PR w v p) (h2 : FL w v2 x) : Calls Try.prog 23 #[v, v2] w fun e w' => FPost w (valueP p x) e w' := by
  have HP := Lib.hid h
  obtain ⟨A1, c1, A2, c2, A3, c3, rfl, HI, H1, H2, H3⟩ := h.opened
  obtain ⟨A4, c4, rfl, hc4⟩ := h2.slice
  have HX := Lib.hid h2
  clear h h2
  obtain ⟨vars, hv⟩ : ∃ n, n = p.vars := ⟨_, rfl⟩
  rw [← hv] at HP ⊢
  have HV := Lib.hid hv
  clear hv
  go_enter Try.func23, Try.ntmps23
  go_wp2_with fail
  have H0 := Lib.hid (HS.two (w := w) #[.int .i64 vars, .slice A1 p.free.length c1, .slice A2 p.goal.length c2, .slice A3 p.rows.length c3] #[.bool false, .slice none 0 0, .slice none 0 0] 26 40)
  generalize (w.alloc (.cells #[.int .i64 vars, .slice A1 p.free.length c1, .slice A2 p.goal.length c2, .slice A3 p.rows.length c3] 26)).alloc (.cells #[.bool false, .slice none 0 0, .slice none 0 0] 40) = W0 at *
  refine (pright_calls _ _ p (HP.out.of_below H0.out.2)).mono ?_
  rintro e w1 ⟨rfl, hb⟩
  have H1' := Lib.hid (H0.out.step hb)
  obtain ⟨x0, x1, x2, x3⟩ := H1'.out.c4 1 rfl
  clear hb
  by_cases q1 : rightP p = 0
  case neg =>
    have u1 : (rightP p != 0) = true := bneI q1
    have HE := Lib.hid (show valueP p x = 0 from if_pos (.inl q1))
    clear q1
    go_wp2_with fail
    refine (fsum_calls w1 _ [] (FL.nil _) (by simp)).mono ?_
    rintro e w2 ⟨v, rfl, hv, hb⟩
    obtain ⟨A5, n5, c5, A6, n6, c6, rfl, HV2⟩ := hv.opened
    have H2' := Lib.hid (H1'.out.step hb)
    clear hb hv
    obtain ⟨e0, e1, e2⟩ := (H2'.out.blk 0 rfl).c3
    obtain ⟨f0, f1, f2⟩ := (H2'.out.blk 0 rfl).f3
    go_wp2_with fail
    rw [HE.out]
    exact end40 Try.results23 rfl (H2'.out.blk 0 rfl) HV2.out (by omega) H2'.out.2
  have u1 : (rightP p != 0) = false := beqI q1
  by_cases q2 : (x.length : Int) = vars
  case neg =>
    have u2 : ((x.length : Int) != vars) = true := bneI q2
    have HE := Lib.hid (show valueP p x = 0 from if_pos (.inr (by rw [← HV.out]; exact q2)))
    clear q1 q2
    go_wp2_with fail
    refine (fsum_calls w1 _ [] (FL.nil _) (by simp)).mono ?_
    rintro e w2 ⟨v, rfl, hv, hb⟩
    obtain ⟨A5, n5, c5, A6, n6, c6, rfl, HV2⟩ := hv.opened
    have H2' := Lib.hid (H1'.out.step hb)
    clear hb hv
    obtain ⟨e0, e1, e2⟩ := (H2'.out.blk 0 rfl).c3
    obtain ⟨f0, f1, f2⟩ := (H2'.out.blk 0 rfl).f3
    go_wp2_with fail
    rw [HE.out]
    exact end40 Try.results23 rfl (H2'.out.blk 0 rfl) HV2.out (by omega) H2'.out.2
  have u2 : ((x.length : Int) != vars) = false := beqI q2
  have HE := Lib.hid (show valueP p x = capQ (dotQ (p.goal.map fixQ) (x.map fixQ)) from if_neg (by rw [← HV.out]; omega))
  have hrl := rightP_len q1
  have hgl : p.goal.length ≤ 100000 := by omega
  have hxl : x.length ≤ 100000 := by have := HV.out; omega
  clear q1 q2 hrl
  go_wp2_with fail
  refine (fdot_calls w1 _ _ p.goal x (H2.out.below EF.stays H1'.out.2) (HX.out.below EF.stays H1'.out.2) hgl hxl).mono ?_
  rintro e w2 ⟨v, rfl, hv, hb⟩
  obtain ⟨A5, n5, c5, A6, n6, c6, rfl, HV2⟩ := hv.opened
  have H2' := Lib.hid (H1'.out.step hb)
  clear hb hv
  obtain ⟨e0, e1, e2⟩ := (H2'.out.blk 0 rfl).c3
  obtain ⟨f0, f1, f2⟩ := (H2'.out.blk 0 rfl).f3
  go_wp2_with fail
  rw [HE.out]
  exact end40 Try.results23 rfl (H2'.out.blk 0 rfl) HV2.out (by omega) H2'.out.2
def holdsB (s : Int) (a b : Rat) : Bool := decide (ordQ a b = 0) || (decide (s ≠ 0) && decide (ordQ a b = s))
set_option maxHeartbeats 16000000 in
set_option maxRecDepth 100000 in
theorem holds_calls (w : World) (s : Int) (v v2 : Value) (f g : RawF) (h : FR w v f) (h2 : FR w v2 g) : Calls Try.prog 96 #[.int .i64 s, v, v2] w fun e w' => BPost w (holdsB s (fixQ f) (fixQ g)) e w' := by
  obtain ⟨A1, n1, c1, A2, n2, c2, rfl, H⟩ := h.opened
  obtain ⟨A3, n3, c3, A4, n4, c4, rfl, G⟩ := h2.opened
  clear h h2
  go_enter Try.func96, Try.ntmps96
  go_wp2_with fail
  have H0 := Lib.hid (HS.two (w := w) #[.bool f.neg, .slice A1 n1 c1, .slice A2 n2 c2] #[.bool g.neg, .slice A3 n3 c3, .slice A4 n4 c4] 40 40)
  generalize (w.alloc (.cells #[.bool f.neg, .slice A1 n1 c1, .slice A2 n2 c2] 40)).alloc (.cells #[.bool g.neg, .slice A3 n3 c3, .slice A4 n4 c4] 40) = W0 at *
  refine (fcmp_calls W0 _ _ f g (H.out.of_below H0.out.2) (G.out.of_below H0.out.2)).mono ?_
  rintro e w1 ⟨rfl, hb⟩
  have H1 := Lib.hid (H0.out.step hb)
  clear hb
  obtain ⟨c, hc⟩ : ∃ c, c = ordQ (fixQ f) (fixQ g) := ⟨_, rfl⟩
  have HE : Hid (holdsB s (fixQ f) (fixQ g) = (decide (c = 0) || (decide (s ≠ 0) && decide (c = s)))) := by unfold Hid holdsB; rw [hc]
  rw [← hc]
  clear hc
  by_cases q1 : c = 0
  · have u1 : (c == 0) = true := by simpa using q1
    have HE2 : Hid (holdsB s (fixQ f) (fixQ g) = true) := by unfold Hid; rw [HE.out, decide_eq_true q1]; rfl
    clear q1
    go_wp2_with fail
    go_ret
    exact ⟨by rw [HE2.out]; rfl, H1.out.2⟩
  have u1 : (c == 0) = false := by simpa using q1
  by_cases q2 : s = 0
  · have u2 : (s != 0) = false := beqI q2
    have HE2 : Hid (holdsB s (fixQ f) (fixQ g) = false) := by unfold Hid; rw [HE.out, decide_eq_false q1, decide_eq_false (by simpa using q2)]; rfl
    clear q1 q2
    go_wp2_with fail
    go_ret
    exact ⟨by rw [HE2.out]; rfl, H1.out.2⟩
  have u2 : (s != 0) = true := bneI q2
  by_cases q3 : c = s
  · have u3 : (c == s) = true := by simpa using q3
    have HE2 : Hid (holdsB s (fixQ f) (fixQ g) = true) := by unfold Hid; rw [HE.out, decide_eq_true q2, decide_eq_true q3]; simp
    clear q1 q2 q3
    go_wp2_with fail
    go_ret
    exact ⟨by rw [HE2.out]; rfl, H1.out.2⟩
  · have u3 : (c == s) = false := by simpa using q3
    have HE2 : Hid (holdsB s (fixQ f) (fixQ g) = false) := by unfold Hid; rw [HE.out, decide_eq_false q1, decide_eq_false q3]; simp
    clear q1 q2 q3
    go_wp2_with fail
    go_ret
    exact ⟨by rw [HE2.out]; rfl, H1.out.2⟩
end Go.Proofs.Ytfhambfgjigneaa
set_option linter.unusedVariables false
set_option linter.unusedSimpArgs false
namespace Go.Proofs.Ytfhambfgjigneaa
open Go.RowKit
theorem BL.at1 {w : World} {A : Option Addr} {n c : Nat} {bs : List Bool} (h : BL w (.slice A n c) bs) {j : Nat} {b : Bool} (hj : bs[j]? = some b) : ∃ g o, A = some ⟨g, o, none⟩ ∧ g < w.heap.size ∧ w.cell? ⟨g, o + j, none⟩ = some (.bool b) := by
  obtain ⟨g, o, vs, hA, hg, hs, hc, he⟩ := h.at_ hj
  subst he
  have := hc 0 _ rfl
  rw [Nat.mul_one] at this
  exact ⟨g, o, hA, hg, this⟩
def signedB (free : List Bool) (x : List Rat) : Bool := (free.zip x).all fun bq => bq.1 || !decide (signQ bq.2 < 0)
theorem signedB_false {free : List Bool} {x : List Rat} {i : Nat} {b : Bool} {q : Rat} (h1 : free[i]? = some b) (h2 : x[i]? = some q) (h : (b || !decide (signQ q < 0)) = false) : signedB free x = false := by
  unfold signedB
  rw [Bool.eq_false_iff, ne_eq, List.all_eq_true]
  intro h0
  have := h0 (b, q) (List.mem_of_getElem? (i := i) (by rw [List.getElem?_zip_eq_some]; exact ⟨h1, h2⟩))
  rw [h] at this
  cases this
theorem signedB_true {free : List Bool} {x : List Rat} (h : ∀ (i : Nat) (b : Bool) (q : Rat), free[i]? = some b → x[i]? = some q → (b || !decide (signQ q < 0)) = true) : signedB free x = true := by
  unfold signedB
  rw [List.all_eq_true]
  rintro ⟨b, q⟩ hm
  obtain ⟨i, hi⟩ := List.getElem?_of_mem hm
  rw [List.getElem?_zip_eq_some] at hi
  exact h i b q hi.1 hi.2
set_option maxHeartbeats 16000000 in
set_option maxRecDepth 100000 in
theorem signed_calls (w : World) (v v2 : Value) (p : ProgF) (x : List RawF) (h : PR w v p) (h2 : FL w v2 x) (hl : x.length = p.free.length) (hs : x.length ≤ 100000) : Calls Try.prog 95 #[v, v2] w fun e w' => BPost w (signedB p.free (x.map fixQ)) e w' := by
  obtain ⟨A1, c1, A2, c2, A3, c3, rfl, HI, H1, H2, H3⟩ := h.opened
  obtain ⟨A4, c4, rfl, hc4⟩ := h2.slice
  have HX := Lib.hid h2
  clear h h2
  obtain ⟨vars, hv⟩ : ∃ n, n = p.vars := ⟨_, rfl⟩
  rw [← hv]
  clear hv
  go_enter Try.func95, Try.ntmps95
  go_wp2_with fail
  have h0 := HS.one (w := w) #[.int .i64 vars, .slice A1 p.free.length c1, .slice A2 p.goal.length c2, .slice A3 p.rows.length c3] 26
  generalize w.alloc (.cells #[.int .i64 vars, .slice A1 p.free.length c1, .slice A2 p.goal.length c2, .slice A3 p.rows.length c3] 26) = W0 at *
  go_loopw [9] (fun vi wr => ∃ i : Nat, i ≤ x.length ∧ vi = .int .i64 (i : Int) ∧ (∀ (j : Nat) (b : Bool) (q : Rat), j < i → p.free[j]? = some b → (x.map fixQ)[j]? = some q → (b || !decide (signQ q < 0)) = true) ∧ HS w [(w.heap.size, 26, #[.int .i64 vars, .slice A1 p.free.length c1, .slice A2 p.goal.length c2, .slice A3 p.rows.length c3])] wr) (fun vi _ => x.length - (intOf vi).toNat)
  case atStart => exact ⟨0, Nat.zero_le _, rfl, fun j _ _ h => absurd h (Nat.not_lt_zero _), h0⟩
  case round =>
    obtain ⟨i, hi, rfl, hall, hk⟩ := hrel
    have HA := Lib.hid hall
    have HK := Lib.hid hk
    clear hall hk h0
    by_cases hlt : i < x.length
    · obtain ⟨f, hf⟩ : ∃ f, x[i]? = some f := ⟨x[i], List.getElem?_eq_getElem hlt⟩
      obtain ⟨b, hbf⟩ : ∃ b, p.free[i]? = some b := ⟨p.free[i], List.getElem?_eq_getElem (by omega)⟩
      obtain ⟨g, o, B1, n1, d1, B2, n2, d2, rfl, hg, k0, k1, k2, HE⟩ := FL.at3 (HX.out.below EF.stays HK.out.2) hf
      obtain ⟨g2, o2, rfl, hg2, kb⟩ := BL.at1 (H1.out.below EB.stays HK.out.2) hbf
      have HXI : Hid ((x.map fixQ)[i]? = some (fixQ f)) := by unfold Hid; rw [List.getElem?_map, hf]; rfl
      have HFI := Lib.hid hbf
      clear hf hbf
      have m1 : (i : Int) < (x.length : Int) := by omega
      have m2 : (i : Int) < (p.free.length : Int) := by omega
      have m3 : (i : Int).toNat = i := by omega
      have m4 : (0 : Int) ≤ (i : Int) := by omega
      obtain ⟨x0, x1, x2, x3⟩ := HK.out.c4 0 rfl
      have hz := (HK.out.blk 0 rfl).lt
      have hl2 := Lib.hid hl
      clear hl
      have fin : ∀ wz, Below wr.heap.size wr wz → (b || !decide (signQ (fixQ f) < 0)) = true → (∃ i', i' ≤ x.length ∧ Value.int .i64 ((i : Int) + 1) = .int .i64 (i' : Int) ∧ (∀ (j : Nat) (b : Bool) (q : Rat), j < i' → p.free[j]? = some b → (x.map fixQ)[j]? = some q → (b || !decide (signQ q < 0)) = true) ∧ HS w [(w.heap.size, 26, #[.int .i64 vars, .slice (some ⟨g2, o2, none⟩) p.free.length c1, .slice A2 p.goal.length c2, .slice A3 p.rows.length c3])] wz) := fun wz hbz hgood => by
        refine ⟨i + 1, by omega, by go_num, fun j b' q' hj hb' hq' => ?_, HK.out.step hbz⟩
        by_cases hji : j = i
        · subst hji
          rw [HFI.out] at hb'
          rw [HXI.out] at hq'
          injection hb' with e1
          injection hq' with e2
          rw [← e1, ← e2]
          exact hgood
        · exact HA.out j b' q' (by omega) hb' hq'
      have HFin := Lib.hid fin
      clear fin
      cases b with
      | true =>
        go_wp2_with fail
        go_roundw
        case rel => exact HFin.out _ (below_new _ _) rfl
        case measure => simp [intOf]; omega
      | false =>
        go_wp2_with fail
        have hb1 := below_new wr (.cells #[.bool f.neg, .slice B1 n1 d1, .slice B2 n2 d2] 40)
        refine (sgn_calls _ _ f (HE.out.of_below hb1)).mono ?_
        rintro e w2 ⟨rfl, hb2⟩
        have HB := Lib.hid (below_next hb1 hb2)
        clear hb1 hb2
        by_cases q1 : signQ (fixQ f) < 0
        · have u1 : decide (signQ (fixQ f) < 0) = true := decide_eq_true q1
          have HE2 := Lib.hid (signedB_false HFI.out HXI.out (by rw [decide_eq_true q1]; rfl))
          clear q1
          go_wp2_with fail
          go_ret
          exact ⟨by rw [HE2.out]; rfl, (HK.out.step HB.out).2⟩
        · have u1 : decide (signQ (fixQ f) < 0) = false := decide_eq_false q1
          have HG : Hid ((false || !decide (signQ (fixQ f) < 0)) = true) := by unfold Hid; rw [decide_eq_false q1]; rfl
          clear q1
          go_wp2_with fail
          go_roundw
          case rel => exact HFin.out _ HB.out HG.out
          case measure => simp [intOf]; omega
    · obtain rfl : i = x.length := by omega
      have HE2 := Lib.hid (signedB_true (free := p.free) (x := x.map fixQ) fun j b q h1 h2 => HA.out j b q (by have := (List.getElem?_eq_some_iff.1 h2).1; simpa using this) h1 h2)
      go_wp2_with fail
      go_ret
      exact ⟨by rw [HE2.out]; rfl, HK.out.2⟩
end Go.Proofs.Ytfhambfgjigneaa
set_option linter.unusedVariables false
set_option linter.unusedSimpArgs false
namespace Go.Proofs.Ytfhambfgjigneaa
open Go.RowKit
noncomputable def rowHolds (x : List Rat) (r : RowF) : Bool := holdsB r.s (capQ (dotQ (r.a.map fixQ) x)) (fixQ r.b)
noncomputable def fitsB (p : ProgF) (x : List RawF) : Bool := decide ((x.length : Int) = p.vars) && signedB p.free (x.map fixQ) && p.rows.all (rowHolds (x.map fixQ))
theorem fix_cap (q : Rat) : fixQ (rawQ (capQ q)) = capQ q := fixQ_raw _ (capQ_size q)
theorem all_false {α : Type} {l : List α} {f : α → Bool} {i : Nat} {a : α} (h : l[i]? = some a) (hf : f a = false) : l.all f = false := by
  rw [Bool.eq_false_iff, ne_eq, List.all_eq_true]
  intro h0
  rw [h0 a (List.mem_of_getElem? h)] at hf
  cases hf
theorem all_true {α : Type} {l : List α} {f : α → Bool} (h : ∀ (i : Nat) (a : α), l[i]? = some a → f a = true) : l.all f = true := by
  rw [List.all_eq_true]
  intro a hm
  obtain ⟨i, hi⟩ := List.getElem?_of_mem hm
  exact h i a hi
set_option maxHeartbeats 16000000 in
set_option maxRecDepth 100000 in
theorem fits_calls (w : World) (v v2 : Value) (p : ProgF) (x : List RawF) (h : PR w v p) (h2 : FL w v2 x) (hr : rightP p = 0) : Calls Try.prog 58 #[v, v2] w fun e w' => BPost w (fitsB p x) e w' := by
  have hrl := rightP_len hr
  clear hr
  have HP := Lib.hid h
  obtain ⟨A1, c1, A2, c2, A3, c3, rfl, HI, H1, H2, H3⟩ := h.opened
  obtain ⟨A4, c4, rfl, hc4⟩ := h2.slice
  have HX := Lib.hid h2
  clear h h2
  obtain ⟨vars, hv⟩ : ∃ n, n = p.vars := ⟨_, rfl⟩
  rw [← hv] at HP ⊢
  have HV := Lib.hid hv
  have hfl : (p.free.length : Int) = vars := by rw [hv]; exact hrl.1
  have hvl : vars ≤ 160 := by rw [hv]; exact hrl.2.2.2.1
  have hrw : p.rows.length ≤ 400 := hrl.2.2.2.2.1
  have HROW : Hid (∀ (r : RowF), r ∈ p.rows → (r.a.length : Int) = vars) := by unfold Hid; rw [hv]; exact fun r hm => (hrl.2.2.2.2.2 r hm).1
  clear hv hrl
  go_enter Try.func58, Try.ntmps58
  by_cases q1 : (x.length : Int) = vars
  case neg =>
    have u1 : ((x.length : Int) != vars) = true := bneI q1
    have HE : Hid (fitsB p x = false) := by unfold Hid fitsB; rw [decide_eq_false (by rw [← HV.out]; exact q1)]; rfl
    clear q1 hfl
    go_wp2_with fail
    go_ret
    exact ⟨by rw [HE.out]; rfl, below_new w _⟩
  have u1 : ((x.length : Int) != vars) = false := beqI q1
  have hxl : x.length ≤ 100000 := by omega
  have hxf : x.length = p.free.length := by omega
  have HXV := Lib.hid q1
  have HXF := Lib.hid hxf
  clear q1 hfl hxf
  go_wp2_with fail
  have H0 := Lib.hid (HS.one (w := w) #[.int .i64 vars, .slice A1 p.free.length c1, .slice A2 p.goal.length c2, .slice A3 p.rows.length c3] 26)
  generalize w.alloc (.cells #[.int .i64 vars, .slice A1 p.free.length c1, .slice A2 p.goal.length c2, .slice A3 p.rows.length c3] 26) = W0 at *
  refine (signed_calls W0 _ _ p x (HP.out.of_below H0.out.2) (HX.out.below EF.stays H0.out.2) HXF.out hxl).mono ?_
  rintro e w1 ⟨rfl, hb⟩
  have h1' := H0.out.step hb
  have H1' := Lib.hid h1'
  obtain ⟨x0, x1, x2, x3⟩ := H1'.out.c4 0 rfl
  clear hb h1'
  cases hsg : signedB p.free (x.map fixQ) with
  | false =>
    have HE : Hid (fitsB p x = false) := by unfold Hid fitsB; rw [hsg]; simp
    clear hsg
    go_wp2_with fail
    go_ret
    exact ⟨by rw [HE.out]; rfl, H1'.out.2⟩
  | true =>
    have HE : Hid (fitsB p x = p.rows.all (rowHolds (x.map fixQ))) := by unfold Hid fitsB; rw [hsg, decide_eq_true (by rw [← HV.out]; exact HXV.out)]; simp
    clear hsg
    go_wp2_with fail
    clear x0 x1 x2 x3
    go_loopw [21] (fun vi wr => ∃ i : Nat, i ≤ p.rows.length ∧ vi = .int .i64 (i : Int) ∧ (∀ (j : Nat) (r : RowF), j < i → p.rows[j]? = some r → rowHolds (x.map fixQ) r = true) ∧ HS w [(w.heap.size, 26, #[.int .i64 vars, .slice A1 p.free.length c1, .slice A2 p.goal.length c2, .slice A3 p.rows.length c3])] wr) (fun vi _ => p.rows.length - (intOf vi).toNat)
    case atStart => exact ⟨0, Nat.zero_le _, rfl, fun j _ h => absurd h (Nat.not_lt_zero _), H1'.out⟩
    case round =>
      obtain ⟨i, hi, rfl, hall, hk⟩ := hrel
      have HA := Lib.hid hall
      have HK := Lib.hid hk
      clear hall hk
      by_cases hlt : i < p.rows.length
      · obtain ⟨r, hr⟩ : ∃ r, p.rows[i]? = some r := ⟨p.rows[i], List.getElem?_eq_getElem hlt⟩
        obtain ⟨g, o, B1, d1, B2, n2, d2, B3, n3, d3, rfl, hg, k0, k1, k2, k3, k4, HI', HA', HB'⟩ := RL.at5 (H3.out.below ER.stays HK.out.2) hr
        have hrl : r.a.length ≤ 100000 := by have := HROW.out r (List.mem_of_getElem? hr); omega
        have HRR := Lib.hid hr
        clear hr
        have m1 : (i : Int) < (p.rows.length : Int) := by omega
        have m3 : (i : Int).toNat = i := by omega
        have m4 : (0 : Int) ≤ (i : Int) := by omega
        obtain ⟨s, hs⟩ : ∃ s, s = r.s := ⟨_, rfl⟩
        rw [← hs] at k1
        have HSE := Lib.hid hs
        clear hs
        go_wp2_with fail
        have hb1 := below_new wr (.cells #[.slice B1 r.a.length d1, .int .i64 s, .bool r.b.neg, .slice B2 n2 d2, .slice B3 n3 d3] 65)
        have hk1 := Blk.new wr 65 #[.slice B1 r.a.length d1, .int .i64 s, .bool r.b.neg, .slice B2 n2 d2, .slice B3 n3 d3]
        have HB1 := Lib.hid hb1
        have z0 := hk1.cell (j := 0) rfl
        have z1 := hk1.cell (j := 1) rfl
        have z2 := hk1.cell (j := 2) rfl
        have z3 := hk1.cell (j := 3) rfl
        have z4 := hk1.cell (j := 4) rfl
        have hz := hk1.lt
        generalize wr.alloc (.cells #[.slice B1 r.a.length d1, .int .i64 s, .bool r.b.neg, .slice B2 n2 d2, .slice B3 n3 d3] 65) = W1 at *
        clear hk1 hb1
        refine wp_chainS (S := Below W1.heap.size W1) [([0, 1, 2, 3, 4, 6, 7], 5), ([], 8)] [9] (by kernel_rfl) (by kernel_rfl) (by kernel_rfl) rfl (Below.drew (Below.refl _ _)) ?_
        refine ⟨?_, _, ?_, rfl, ?_⟩
        rotate_left
        · repeat (refine ⟨_, ?_, rfl, Or.inl ⟨by rfl, ?_⟩, ?_⟩; rotate_left; focus (intro W hW; have hcW := (bcell hW).1; clear hW; go_simp; try with_reducible rfl); (try simp only [Act.put, List.setIfInBounds_toArray, List.set_cons_zero, List.set_cons_succ]))
          exact rfl
        have hbd : Below W1.heap.size W1 W1.drew := Below.drew (Below.refl _ _)
        have hbx := below_next HB1.out hbd
        have HBX := Lib.hid hbx
        go_wp2_with fail
        refine (fdot_calls _ _ _ r.a x (HA'.out.below EF.stays HBX.out) (HX.out.below EF.stays (HK.out.step HBX.out).2) hrl hxl).mono ?_
        rintro e w7 ⟨v, rfl, hv, hb⟩
        obtain ⟨A5, n5, c5, A6, n6, c6, rfl, HV5⟩ := hv.opened
        have HB7 := Lib.hid (below_next hbd hb)
        have HB17 := Lib.hid (below_next HB1.out HB7.out)
        clear hv hb hbd hbx
        go_wp2_with fail
        refine And.intro HB7.out ⟨_, _, rfl, rfl, ?_⟩
        go_wp2_with fail
        refine (holds_calls _ s _ _ _ r.b (FR.of_fq HV5.out (capQ_size _)) (HB'.out.of_below HB17.out)).mono ?_
        rintro e w8 ⟨rfl, hb⟩
        have HB8 := Lib.hid (below_next HB7.out hb)
        have HB18 := Lib.hid (below_next HB1.out HB8.out)
        have HH : Hid (holdsB s (fixQ (rawQ (capQ (dotQ (r.a.map fixQ) (x.map fixQ))))) (fixQ r.b) = rowHolds (x.map fixQ) r) := by unfold Hid rowHolds; rw [fix_cap, HSE.out]
        rw [HH.out]
        clear hb
        go_wp2_with fail
        refine And.intro HB8.out ⟨?_, ?_, ?_⟩
        rotate_left
        · repeat (refine ⟨_, ?_, rfl, Or.inl ⟨by rfl, ?_⟩, ?_⟩; rotate_left; focus (intro W hW; have hcW := (bcell hW).1; clear hW; go_simp; try with_reducible rfl); (try simp only [Act.put, List.setIfInBounds_toArray, List.set_cons_zero, List.set_cons_succ]))
          exact rfl
        refine NoPanic.normal ?_
        cases hb : rowHolds (x.map fixQ) r with
        | false =>
          have HE2 : Hid (fitsB p x = false) := by unfold Hid; rw [HE.out]; exact all_false HRR.out hb
          clear hb
          go_wp2_with fail
          go_ret
          exact ⟨by rw [HE2.out]; rfl, (HK.out.step HB18.out).2⟩
        | true =>
          have HG := Lib.hid hb
          clear hb
          go_wp2_with fail
          go_roundw
          case rel =>
            refine ⟨i + 1, by omega, by go_num, fun j r' hj hr' => ?_, HK.out.step HB18.out⟩
            by_cases hji : j = i
            · rw [hji, HRR.out] at hr'
              injection hr' with e
              rw [← e]
              exact HG.out
            · exact HA.out j r' (by omega) hr'
          case measure => simp [intOf]; omega
      · obtain rfl : i = p.rows.length := by omega
        have HE2 : Hid (fitsB p x = true) := by unfold Hid; rw [HE.out]; exact all_true fun j r hr => HA.out j r (List.getElem?_eq_some_iff.1 hr).1 hr
        go_wp2_with fail
        go_ret
        exact ⟨by rw [HE2.out]; rfl, HK.out.2⟩
noncomputable def fitsP (p : ProgF) (x : List RawF) : Bool := decide (rightP p = 0) && fitsB p x
set_option maxHeartbeats 16000000 in
set_option maxRecDepth 100000 in
theorem pfits_calls (w : World) (v v2 : Value) (p : ProgF) (x : List RawF) (h : PR w v p) (h2 : FL w v2 x) : Calls Try.prog 25 #[v, v2] w fun e w' => BPost w (fitsP p x) e w' := by
  have HP := Lib.hid h
  obtain ⟨A1, c1, A2, c2, A3, c3, rfl, HI, H1, H2, H3⟩ := h.opened
  obtain ⟨A4, c4, rfl, hc4⟩ := h2.slice
  have HX := Lib.hid h2
  clear h h2
  obtain ⟨vars, hv⟩ : ∃ n, n = p.vars := ⟨_, rfl⟩
  rw [← hv] at HP ⊢
  clear hv
  go_enter Try.func25, Try.ntmps25
  go_wp2_with fail
  have H0 := Lib.hid (HS.one (w := w) #[.int .i64 vars, .slice A1 p.free.length c1, .slice A2 p.goal.length c2, .slice A3 p.rows.length c3] 26)
  generalize w.alloc (.cells #[.int .i64 vars, .slice A1 p.free.length c1, .slice A2 p.goal.length c2, .slice A3 p.rows.length c3] 26) = W0 at *
  refine (pright_calls W0 _ p (HP.out.of_below H0.out.2)).mono ?_
  rintro e w1 ⟨rfl, hb⟩
  have H1' := Lib.hid (H0.out.step hb)
  obtain ⟨x0, x1, x2, x3⟩ := H1'.out.c4 0 rfl
  clear hb
  by_cases q1 : rightP p = 0
  · have u1 : (rightP p == 0) = true := by simpa using q1
    have HR := Lib.hid q1
    have HE : Hid (fitsP p x = fitsB p x) := by unfold Hid fitsP; rw [decide_eq_true q1]; rfl
    clear q1
    go_wp2_with fail
    refine (fits_calls w1 _ _ p x (HP.out.of_below H1'.out.2) (HX.out.below EF.stays H1'.out.2) HR.out).mono ?_
    rintro e w2 ⟨rfl, hb⟩
    have H2' := Lib.hid (H1'.out.step hb)
    clear hb
    go_wp2_with fail
    go_ret
    exact ⟨by rw [HE.out]; rfl, H2'.out.2⟩
  · have u1 : (rightP p == 0) = false := by simpa using q1
    have HE : Hid (fitsP p x = false) := by unfold Hid fitsP; rw [decide_eq_false q1]; rfl
    clear q1
    go_wp2_with fail
    go_ret
    exact ⟨by rw [HE.out]; rfl, H1'.out.2⟩
end Go.Proofs.Ytfhambfgjigneaa
set_option linter.unusedVariables false
namespace Go.Proofs.Ytfhambfgjigneaa
open Go
/-- Whatever order is picked: S holds behind every operation ahead of number L. -/
def wpAnyF (P : Program) (md : Region.Mode) (ops : Array Oper) (Q : Exit → Act → World → Prop) (S : World → Prop) (L : Nat) : Nat → Array Bool → Act → World → Prop
  | 0, listed, a, w => Region.ready md ops listed = [] ∧ Q .normal a w
  | fuel + 1, listed, a, w =>
    (Region.ready md ops listed = [] → Q .normal a w) ∧
    ∀ i ∈ Region.ready md ops listed, wpOp P ops Q i (fun a' w' => (i < L → S w') ∧ wpAnyF P md ops Q S L fuel (listed.setIfInBounds i true) a' w') a w
section
variable {P : Program} {ops : Array Oper} {Q : Exit → Act → World → Prop} {md : Region.Mode} {S : World → Prop} {L : Nat}
theorem wpAny_of_F : ∀ (fuel : Nat) (listed : Array Bool) (a : Act) (w : World), wpAnyF P md ops Q S L fuel listed a w → wpAny P md ops Q fuel listed a w
  | 0, _, _, _, h => h
  | fuel + 1, _, _, _, h => ⟨h.1, fun i hi => wpOp_mono (fun a' w' h' => wpAny_of_F fuel _ a' w' h'.2) (h.2 i hi)⟩
/-- What is listed has all listed that it waits for. -/
def Closed (md : Region.Mode) (ops : Array Oper) (listed : Array Bool) : Prop := ∀ m om, ops[m]? = some om → listed.getD m false = true → ∀ e ∈ om.after, Region.binds md e = true → listed.getD e.on false = true
def depF (md : Region.Mode) (ops : Array Oper) (i : Nat) : Nat → Nat → Bool
  | 0, _ => false
  | n + 1, k => ((ops[k]?).map (·.after.any fun e => Region.binds md e && (e.on == i || depF md ops i n e.on))).getD false
theorem depF_listed {i : Nat} {listed : Array Bool} (hcl : Closed md ops listed) : ∀ (n k : Nat), depF md ops i n k = true → (∀ ok, ops[k]? = some ok → ∀ e ∈ ok.after, Region.binds md e = true → listed.getD e.on false = true) → listed.getD i false = true
  | 0, k, h, _ => by simp [depF] at h
  | n + 1, k, h, hk => by
    unfold depF at h
    cases hok : ops[k]? with
    | none => rw [hok] at h; simp at h
    | some ok =>
      rw [hok] at h
      simp only [Option.map_some, Option.getD_some] at h
      obtain ⟨e, he, hb⟩ := Array.any_eq_true'.1 h
      simp only [Bool.and_eq_true, Bool.or_eq_true, beq_iff_eq] at hb
      have hl := hk ok hok e he hb.1
      rcases hb.2 with h1 | h1
      · rw [← h1]; exact hl
      · exact depF_listed hcl n e.on h1 fun om hom => hcl _ om hom hl
theorem Closed.step {listed : Array Bool} {j : Nat} (hcl : Closed md ops listed) (hj : j ∈ Region.ready md ops listed) : Closed md ops (listed.setIfInBounds j true) := fun m om hom hm e he hb => by
  by_cases hmj : m = j
  · subst hmj
    obtain ⟨_, o, ho, hall⟩ := mem_ready.1 hj
    rw [hom] at ho
    injection ho with ho
    subst ho
    exact getD_set_true (hall e he hb)
  · rw [getD_set_ne false (Ne.symm hmj)] at hm
    exact getD_set_true (hcl m om hom hm e he hb)
theorem Closed.start (n : Nat) : Closed md ops (Array.replicate n false) := fun m om _ hm => by
  have h0 : (Array.replicate n false).getD m false = false := by
    rw [Array.getD_eq_getD_getElem?, Array.getElem?_replicate]
    split <;> rfl
  rw [h0] at hm
  cases hm
theorem wpAnyF_first {i : Nat} {oi : Oper} {v : Value} (hi : ops[i]? = some oi) (hsel : ∀ (j : Nat) (o : Oper) cs b, ops[j]? = some o → o.op ≠ .select cs b)
    (hQ : ∀ c a w, Q (.panic c) (a.put oi.dst v) w → Q (.panic c) a w) (hwait : ∀ k ok, L ≤ k → ops[k]? = some ok → depF md ops i ops.size k = true) :
    ∀ (fuel : Nat) (listed : Array Bool) (a : Act) (w : World),
      (∀ j oj, ops[j]? = some oj → j ≠ i → listed.getD j true = false → (∀ e ∈ oj.after, Region.binds md e = true → e.on ≠ i) → oi.apart ops oj = true) →
      i ∈ Region.ready md ops listed → Closed md ops listed → YieldsIf P ops S oi v a → S w →
      wpAnyF P md ops Q S L fuel (listed.setIfInBounds i true) (a.put oi.dst v) w → wpAnyF P md ops Q S L (fuel + 1) listed a w := by
  intro fuel
  induction fuel with
  | zero =>
    intro listed a w _ hr hcl hy hS H
    refine ⟨fun h => (by rw [h] at hr; cases hr), fun j hj => ?_⟩
    by_cases hji : j = i
    · subst hji; exact hy.wpOp hi hS ⟨fun _ => hS, H⟩
    · have := ready_mono hj hji
      rw [H.1] at this
      cases this
  | succ fuel ih =>
    intro listed a w hfree hr hcl hy hS H
    refine ⟨fun h => (by rw [h] at hr; cases hr), fun j hj => ?_⟩
    by_cases hji : j = i
    · subst hji; exact hy.wpOp hi hS ⟨fun _ => hS, H⟩
    · have h1 := H.2 j (ready_mono hj hji)
      obtain ⟨hjun, oj, hoj, hall⟩ := mem_ready.1 hj
      have hnot : ∀ e ∈ oj.after, Region.binds md e = true → e.on ≠ i := fun e he hb heq => by
        have h1 := hall e he hb
        have h0 := (mem_ready.1 hr).1
        rw [heq] at h1
        rcases Nat.lt_or_ge i listed.size with h' | h'
        · simp [h'] at h0 h1; rw [h0] at h1; cases h1
        · simp [Array.getElem?_eq_none h'] at h1
      have hjL : j < L := by
        rcases Nat.lt_or_ge j L with h | h
        · exact h
        · have h1 := depF_listed hcl _ _ (hwait j oj h hoj) fun ok hok => by
            rw [hoj] at hok
            injection hok with hok
            subst hok
            exact hall
          have h0 := (mem_ready.1 hr).1
          rcases Nat.lt_or_ge i listed.size with h' | h'
          · simp [h'] at h0 h1; rw [h0] at h1; cases h1
          · simp [Array.getElem?_eq_none h'] at h1
      have h2 := wpOp_putIf hoj (hfree j oj hoj hji hjun hnot) (fun cs b => hsel i oi cs b hi) (fun cs b => hsel j oj cs b hoj) hQ hy h1
      have hfree' : ∀ k ok, ops[k]? = some ok → k ≠ i → (listed.setIfInBounds j true).getD k true = false →
          (∀ e ∈ ok.after, Region.binds md e = true → e.on ≠ i) → oi.apart ops ok = true := fun k ok hk hki hun hno => by
        refine hfree k ok hk hki ?_ hno
        by_cases hjk : j = k
        · subst hjk; exact hjun
        · rw [getD_set_ne true hjk] at hun; exact hun
      refine wpOp_mono (fun a' w' h3 => ⟨h3.2.1, ih (listed.setIfInBounds j true) a' w' hfree' (ready_mono hr (Ne.symm hji)) (hcl.step hj) h3.1 (h3.2.1 hjL) ?_⟩) h2
      rw [Array.setIfInBounds_comm _ _ hji]
      exact h3.2.2
def waitsF (md : Region.Mode) (ops : Array Oper) (L i : Nat) : Bool := (List.range ops.size).all fun k => k < L || depF md ops i ops.size k
theorem waitsF_spec {i : Nat} (h : waitsF md ops L i = true) : ∀ k ok, L ≤ k → ops[k]? = some ok → depF md ops i ops.size k = true := fun k ok hk hok => by
  have hlt : k < ops.size := (Array.getElem?_eq_some_iff.1 hok).1
  have := List.all_eq_true.1 h k (List.mem_range.2 hlt)
  simp only [Bool.or_eq_true, decide_eq_true_eq] at this
  rcases this with h1 | h1
  · omega
  · exact h1
def takesF (md : Region.Mode) (ops : Array Oper) (L : Nat) : List Nat → Array Bool → Bool
  | [], _ => true
  | i :: p, listed => Region.free md ops listed i && (Region.ready md ops listed).contains i && waitsF md ops L i && takesF md ops L p (listed.setIfInBounds i true)
theorem takesF_sound (hsel : ∀ (j : Nat) (o : Oper) cs b, ops[j]? = some o → o.op ≠ .select cs b) (hQ : ∀ c a d v w, Q (.panic c) (Act.put a d v) w → Q (.panic c) a w) :
    ∀ (p : List Nat) (listed : Array Bool) (a A : Act) (w : World) (fuel : Nat), takesF md ops L p listed = true → Closed md ops listed → pureTo P ops S p a A → S w → (Closed md ops (marked p listed) → wpAnyF P md ops Q S L fuel (marked p listed) A w) → wpAnyF P md ops Q S L (p.length + fuel) listed a w
  | [], listed, a, A, w, fuel, _, hcl, hp, _, h => by
    have e : a = A := hp
    subst e
    simpa [marked] using h hcl
  | i :: p, listed, a, A, w, fuel, hc, hcl, ⟨o, v, hi, hy, hp⟩, hS, h => by
    simp only [takesF, Bool.and_eq_true] at hc
    obtain ⟨⟨⟨hf, hr⟩, hw⟩, hc⟩ := hc
    have := takesF_sound hsel hQ p (listed.setIfInBounds i true) (a.put o.dst v) A w fuel hc (hcl.step (by simpa using hr)) hp hS h
    rw [List.length_cons, show p.length + 1 + fuel = p.length + fuel + 1 by omega]
    exact wpAnyF_first hi hsel (fun c a w => hQ c a _ _ w) (waitsF_spec hw) _ _ _ _ (Region.free_spec hi hf) (by simpa using hr) hcl hy hS this
theorem wpAnyF_done {listed : Array Bool} {a : Act} {w : World} (hr : Region.ready md ops listed = []) (h : Q .normal a w) : ∀ fuel, wpAnyF P md ops Q S L fuel listed a w
  | 0 => ⟨hr, h⟩
  | _ + 1 => ⟨fun _ => h, by rw [hr]; simp⟩
theorem wpAnyF_only {c : Nat} {fuel : Nat} {listed : Array Bool} {a : Act} {w : World} (hr : Region.ready md ops listed = [c])
    (h : wpOp P ops Q c (fun a' w' => (c < L → S w') ∧ wpAnyF P md ops Q S L fuel (listed.setIfInBounds c true) a' w') a w) : wpAnyF P md ops Q S L (fuel + 1) listed a w :=
  ⟨fun h0 => (by rw [hr] at h0; cases h0), fun i hi => by
    rw [hr] at hi
    simp at hi
    subst hi
    exact h⟩
/-- First what makes memory, each with what is pure ahead of it, S behind each; then what is pure, and the free ones in their one order. -/
def chainF (P : Program) (ops : Array Oper) (Q : Exit → Act → World → Prop) (S : World → Prop) (p0 : List Nat) (os : List Oper) : List (List Nat × Nat) → Act → World → Prop
  | [], a, w => ∃ A, pureTo P ops S p0 a A ∧ wpList P ops Q os A w
  | (p, c) :: rest, a, w => ∃ A o, pureTo P ops S p a A ∧ ops[c]? = some o ∧ wpList P ops (chainQ Q fun a' w' => S w' ∧ chainF P ops Q S p0 os rest a' w') [o] A w
def freeF (md : Region.Mode) (ops : Array Oper) : Nat → Nat → Array Bool → Bool
  | 0, _, listed => (Region.ready md ops listed).isEmpty
  | k + 1, L, listed => (Region.ready md ops listed == [L]) && freeF md ops k (L + 1) (listed.setIfInBounds L true)
def chainFOk (md : Region.Mode) (ops : Array Oper) (L : Nat) (p0 : List Nat) : List (List Nat × Nat) → Array Bool → Bool
  | [], listed => takesF md ops L p0 listed && freeF md ops (ops.size - L) L (marked p0 listed)
  | (p, c) :: rest, listed => takesF md ops L p listed && (Region.ready md ops (marked p listed) == [c]) && chainFOk md ops L p0 rest ((marked p listed).setIfInBounds c true)
theorem wpOp_list {o : Oper} {c : Nat} {K : Act → World → Prop} {a : Act} {w : World} {r : List Oper} (hc : ops[c]? = some o) (h : wpList P ops Q (o :: r) a w) (hK : ∀ a w, wpList P ops Q r a w → K a w) : wpOp P ops Q c K a w := by
  unfold wpList at h
  unfold wpOp
  simp only [hc]
  split at h
  · rename_i hw
    rw [if_pos hw]
    rcases h with h | h
    · exact .inl (Oper.wp_mono hK h)
    · exact .inr h
  · rename_i hw
    rw [if_neg hw]
    exact hK _ _ h
theorem freeF_sound : ∀ (k l : Nat) (os : List Oper) (listed : Array Bool) (a : Act) (w : World), L ≤ l → freeF md ops k l listed = true → os.length = k → (∀ j, os[j]? = ops[l + j]? ∨ k ≤ j) → wpList P ops Q os a w → ∀ more, wpAnyF P md ops Q S L (k + more) listed a w
  | 0, l, os, listed, a, w, _, hc, hl, _, h, more => by
    obtain rfl : os = [] := List.eq_nil_of_length_eq_zero hl
    exact wpAnyF_done (by simpa [freeF] using hc) h _
  | k + 1, l, os, listed, a, w, hL, hc, hl, ho, h, more => by
    match os, hl with
    | o :: r, hl =>
      simp only [freeF, Bool.and_eq_true, beq_iff_eq] at hc
      have h0 : ops[l]? = some o := by
        rcases ho 0 with h | h
        · simpa using h.symm
        · omega
      rw [show k + 1 + more = k + more + 1 by omega]
      refine wpAnyF_only hc.1 (wpOp_list h0 h fun a' w' h' => ⟨fun h => absurd h (by omega), ?_⟩)
      exact freeF_sound k (l + 1) r _ a' w' (by omega) hc.2 (by simpa using hl) (fun j => by
        rcases ho (j + 1) with h | h
        · left
          rw [show l + 1 + j = l + (j + 1) by omega, ← h]
          simp
        · right; omega) h' more
theorem chainF_sound (hsel : ∀ (j : Nat) (o : Oper) cs b, ops[j]? = some o → o.op ≠ .select cs b) (hQ : ∀ c a d v w, Q (.panic c) (Act.put a d v) w → Q (.panic c) a w) (p0 : List Nat) (os : List Oper) (hos : os = ops.toList.drop L) :
    ∀ (ps : List (List Nat × Nat)) (listed : Array Bool) (a : Act) (w : World), chainFOk md ops L p0 ps listed = true → Closed md ops listed → chainF P ops Q S p0 os ps a w → S w → ∀ more, wpAnyF P md ops Q S L (chainLen ps + (p0.length + (ops.size - L) + more)) listed a w
  | [], listed, a, w, hc, hcl, ⟨A, hp, h⟩, hS, more => by
    simp only [chainFOk, Bool.and_eq_true] at hc
    rw [show chainLen [] + (p0.length + (ops.size - L) + more) = p0.length + (ops.size - L + more) by simp only [chainLen]; omega]
    refine takesF_sound hsel hQ p0 listed a A w _ hc.1 hcl hp hS (fun _ => freeF_sound _ L os _ A w (Nat.le_refl _) hc.2 (by rw [hos]; simp) (fun j => ?_) h more)
    left
    rw [hos, List.getElem?_drop]
    simp
  | (p, c) :: rest, listed, a, w, hc, hcl, ⟨A, o, hp, ho, h⟩, hS, more => by
    simp only [chainFOk, Bool.and_eq_true, beq_iff_eq] at hc
    obtain ⟨⟨ht, hr⟩, he⟩ := hc
    rw [show chainLen ((p, c) :: rest) + (p0.length + (ops.size - L) + more) = p.length + (chainLen rest + (p0.length + (ops.size - L) + more) + 1) by simp only [chainLen]; omega]
    refine takesF_sound hsel hQ p listed a A w _ ht hcl hp hS (fun hcl' => wpAnyF_only hr (wpOp_mono (fun a' w' hk => ⟨fun _ => hk.1, ?_⟩) (wpOp_of_chain ho h)))
    exact chainF_sound hsel hQ p0 os hos rest _ a' w' he (hcl'.step (by rw [hr]; simp)) hk.2 hk.1 more
theorem wp_chainF {id : Nat} {a : Act} {w : World} {l : List Oper} (S : World → Prop) (L : Nat) (ps : List (List Nat × Nat)) (p0 : List Nat) (hm : P.follows .mixedOrders = true) (hs : Region.noSelect l.toArray = true) (hc : chainFOk .any l.toArray L p0 ps (Array.replicate l.toArray.size false) = true)
    (hlen : chainLen ps + (p0.length + (l.toArray.size - L)) = l.toArray.size) (hS : S w.drew) (h : chainF P l.toArray (NoPanic Q) S p0 (l.drop L) ps a w.drew) : (Code.region id l.toArray true).wp P Q a w := by
  have := chainF_sound (md := .any) (L := L) (Region.noSelect_spec hs) (fun _ _ _ _ _ h => h) p0 (l.drop L) (by simp) ps (Array.replicate l.toArray.size false) a w.drew hc (Closed.start _) h hS 0
  rw [Nat.add_zero, hlen] at this
  exact wp_region_noPanic (wp_region_any hm (wpAny_of_F _ _ _ _ this))
end
end Go.Proofs.Ytfhambfgjigneaa

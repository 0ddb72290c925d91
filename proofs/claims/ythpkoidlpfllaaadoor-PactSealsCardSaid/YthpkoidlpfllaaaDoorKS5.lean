/- Contracts of Go functions that the statement reaches, proved by walking their text, and plain laws over them (texts put together). -/
import Derived.Test.YthpkoidlpfllaaaDoorKS4
import Derived.Deep.MidRow
import Derived.Deep.RegionHeld3
import Derived.Shelf.LaysM
import Derived.Shelf.Strconv.Itoa3
import Derived.WalkSmall
import Derived.Lib.LaidTab
import Derived.Lib.AppendIntMem
import Derived.Test.YthpkoidlpfllaaaDoorKS3
set_option linter.unusedVariables false
set_option linter.unusedSimpArgs false
namespace Go.Proofs.YthpkoidlpfllaaaDoor
open Go.RowKit
theorem RN.cell0 {w : World} {A : Option Addr} {c n : Nat} {xs : List Nat} (h : RN w (.slice A xs.length c) n) (hx : xs = dg n) (hp : 0 < xs.length) : ∃ g o, A = some ⟨g, o, none⟩ ∧ g < w.heap.size ∧ w.cell? ⟨g, o, none⟩ = some (.int .u32 (nat xs 0 : Nat)) := by
 have h' : Rd w (.slice A xs.length c) xs := by rw [hx]; rw [hx] at h; exact h
 exact h'.cell hp
set_option maxHeartbeats 32000000 in
set_option maxRecDepth 100000 in
theorem rprint_calls (w : World) (v : Value) (f : RawF) (h : FR w v f) : Calls Tryd.prog 21 #[v] w fun e w' => SPost w (printB (fixQ f)) e w' := by
 obtain ⟨A1, n1, c1, A2, n2, c2, rfl, H⟩ := h.opened
 have hsz := sizeQ_fix f
 have hw1 : wlen (fixQ f).num.natAbs ≤ 100000 := by unfold sizeQ at hsz; omega
 have hw2 : wlen (fixQ f).den ≤ 100000 := by unfold sizeQ at hsz; omega
 clear h hsz
 go_enter Tryd.func21, Tryd.ntmps21
 go_wp2_with fail
 have HB0 := Hd (below_new w (.cells #[.bool f.neg, .slice A1 n1 c1, .slice A2 n2 c2] 27))
 have HK0 := Hd (Blk.new w 27 #[.bool f.neg, .slice A1 n1 c1, .slice A2 n2 c2])
 obtain ⟨gt, hgt⟩ : ∃ g, g = w.heap.size := ⟨_, rfl⟩
 have hgw : w.heap.size ≤ gt := Nat.le_of_eq hgt.symm
 rw [← hgt] at HK0 ⊢
 generalize w.alloc (.cells #[.bool f.neg, .slice A1 n1 c1, .slice A2 n2 c2] 27) = W0 at *
 clear hgt
 refine (rfix_calls W0 _ f (H.out.of_below HB0.out)).mono ?_
 rintro e w1 ⟨v, rfl, hq, hb⟩
 obtain ⟨v1, v2, rfl, hr1, hr2⟩ := hq
 obtain ⟨B1, d1, x1, rfl, _, HX1, _⟩ := hr1.opened
 obtain ⟨B2, d2, x2, rfl, _, HX2, _⟩ := hr2.opened
 have HB1 := Hd (below_next HB0.out hb)
 have HK1 := Hd (HK0.out.below hb HK0.out.lt)
 have HR1 := Hd (hr1.put3 HK1.out (by intro u hu; simp only [List.mem_toArray, List.mem_cons, List.not_mem_nil, or_false] at hu; rcases hu with rfl | rfl | rfl <;> rfl) (.bool (negQ (fixQ f))) (.slice B1 x1.length d1) (.slice B2 x2.length d2))
 have HR2 := Hd (hr2.put3 HK1.out (by intro u hu; simp only [List.mem_toArray, List.mem_cons, List.not_mem_nil, or_false] at hu; rcases hu with rfl | rfl | rfl <;> rfl) (.bool (negQ (fixQ f))) (.slice B1 x1.length d1) (.slice B2 x2.length d2))
 have HK2 := Hd (HK1.out.put3 (.bool (negQ (fixQ f))) (.slice B1 x1.length d1) (.slice B2 x2.length d2))
 have HB2 := Hd (below_put3 HB1.out hgw (.bool (negQ (fixQ f))) (.slice B1 x1.length d1) (.slice B2 x2.length d2))
 clear hr1 hr2 hb HK0 HB0
 obtain ⟨k0, k1, k2⟩ := HK1.out.c3
 obtain ⟨j0, j1, j2⟩ := HK1.out.f3
 have hlt := HK1.out.lt
 go_upto_region 2 with (fail)
 clear k0 k1 k2 j0 j1 j2 hlt HK1 HB1
 generalize (((w1.setCell ⟨gt, 0, none⟩ (.bool (negQ (fixQ f)))).setCell ⟨gt, 1, none⟩ (.slice B1 x1.length d1)).setCell ⟨gt, 2, none⟩ (.slice B2 x2.length d2)) = W2 at *
 obtain ⟨k0, k1, k2⟩ := HK2.out.c3
 have hlt := HK2.out.lt
 go_wp2_with fail
 refine (rdigits_calls W2 _ _ HR1.out hw1).mono ?_
 rintro e w3 ⟨rfl, hb⟩
 have HB4 := Hd (below_next HB2.out hb)
 have HK4 := Hd (HK2.out.below hb HK2.out.lt)
 have HS4 := Hd (HR2.out.below hb)
 clear hb k0 k1 k2 hlt HK2 HR1 HR2 HB2
 obtain ⟨k0, k1, k2⟩ := HK4.out.c3
 have hlt := HK4.out.lt
 obtain ⟨s1, hs1⟩ : ∃ s, s = strB (Lib.decDigits (fixQ f).num.natAbs) := ⟨_, rfl⟩
 rw [← hs1]
 have hz1 : s1.size ≤ 1000001 := by rw [hs1, strB_size]; exact dec_len hw1
 have HE1 := Hd hs1
 have hcc : ¬ 9223372036854775807 < (ByteArray.mk #[45]).size + s1.size := by show ¬ 9223372036854775807 < 1 + s1.size; omega
 clear hs1
 cases hn : negQ (fixQ f)
 case false =>
  rw [hn] at k0
  have HN : Hid ((if negQ (fixQ f) = true then [(45 : UInt8)] else []) = []) := by unfold Hid; rw [hn]; rfl
  have hd2 : ¬ 9223372036854775807 < s1.size + (ByteArray.mk #[47]).size := by
   skip
   show ¬ 9223372036854775807 < s1.size + 1
   omega
  clear hn
  by_cases hd : (fixQ f).den = 1
  ·have HD := Hd hd
   have hx2 : x2 = [1] := by rw [HX2.out, hd]; rfl
   have hl2 : x2.length = 1 := by rw [hx2]; rfl
   obtain ⟨g2, o2, rfl, hg2, j0⟩ := RN.cell0 HS4.out HX2.out (by omega)
   rw [show nat x2 0 = 1 from by rw [hx2]; rfl] at j0
   have u1 : decide ((1 : Int) < (x2.length : Int)) = false := decide_eq_false (by omega)
   have u2 : (0 : Int) < (x2.length : Int) := by omega
   have u3 : ¬ (1 : Int) < (x2.length : Int) := by omega
   clear hd hx2 hl2
   have HP : Hid (strB (printB (fixQ f)) = s1) := by
    unfold Hid printB
    rw [HN.out, if_pos HD.out, HE1.out, List.append_nil]
    rfl
   go_wp2_with fail
   go_ret
   exact ⟨by rw [HP.out]; rfl, HB4.out⟩
  have HD := Hd hd
  have hl2 : 0 < x2.length := by
   have h : 0 < wlen (fixQ f).den := wlen_pos.2 (fixQ f).den_nz
   rw [HX2.out]
   exact h
  by_cases hl : 1 < x2.length
  ·have u1 : decide ((1 : Int) < (x2.length : Int)) = true := decide_eq_true (by omega)
   have u3 : (1 : Int) < (x2.length : Int) := by omega
   clear hd hl
   go_wp2_with fail
   refine (rdigits_calls _ _ _ HS4.out hw2).mono ?_
   rintro e w5 ⟨rfl, hb⟩
   have HB5 := Hd (below_next HB4.out hb)
   clear hb
   obtain ⟨s3, hs3⟩ : ∃ s, s = strB (Lib.decDigits (fixQ f).den) := ⟨_, rfl⟩
   rw [← hs3]
   have hz3 : s3.size ≤ 1000001 := by rw [hs3, strB_size]; exact dec_len hw2
   have HE3 := Hd hs3
   clear hs3
   have hd3 : ¬ 9223372036854775807 < (s1 ++ ByteArray.mk #[47]).size + s3.size := by
    rw [ByteArray.size_append]
    show ¬ 9223372036854775807 < s1.size + 1 + s3.size
    omega
   have HP : Hid (strB (printB (fixQ f)) = s1 ++ ByteArray.mk #[47] ++ s3) := by
    unfold Hid printB
    rw [HN.out, if_neg HD.out, HE1.out, HE3.out]
    show _ = strB (Lib.decDigits (fixQ f).num.natAbs) ++ strB [47] ++ strB (Lib.decDigits (fixQ f).den)
    rw [strB_append, strB_append]
    congr 1
    simp
   go_wp2_with fail
   go_ret
   exact ⟨by rw [HP.out]; rfl, HB5.out⟩
  ·obtain ⟨y, hy⟩ : ∃ y, x2 = [y] := by
    match x2, (show x2.length = 1 by omega) with
    | [y], _ => exact ⟨y, rfl⟩
   have hyy : y ≠ 1 := fun e => hd (by
    have h1 := HX2.out
    have h2 := valN_dg (fixQ f).den
    rw [← h1, hy, e] at h2
    exact h2.symm)
   obtain ⟨g2, o2, rfl, hg2, j0⟩ := RN.cell0 HS4.out HX2.out (by omega)
   rw [show nat x2 0 = y from by rw [hy]; rfl] at j0
   have u1 : decide ((1 : Int) < (x2.length : Int)) = false := decide_eq_false (by omega)
   have u2 : (0 : Int) < (x2.length : Int) := by omega
   have u3 : ¬ (1 : Int) < (x2.length : Int) := by omega
   have u4 : ((y : Int) != 1) = true := bneI (by omega)
   clear hd hl hy hl2
   go_wp2_with fail
   refine (rdigits_calls _ _ _ HS4.out hw2).mono ?_
   rintro e w5 ⟨rfl, hb⟩
   have HB5 := Hd (below_next HB4.out hb)
   clear hb
   obtain ⟨s3, hs3⟩ : ∃ s, s = strB (Lib.decDigits (fixQ f).den) := ⟨_, rfl⟩
   rw [← hs3]
   have hz3 : s3.size ≤ 1000001 := by rw [hs3, strB_size]; exact dec_len hw2
   have HE3 := Hd hs3
   clear hs3
   have hd3 : ¬ 9223372036854775807 < (s1 ++ ByteArray.mk #[47]).size + s3.size := by
    rw [ByteArray.size_append]
    show ¬ 9223372036854775807 < s1.size + 1 + s3.size
    omega
   have HP : Hid (strB (printB (fixQ f)) = s1 ++ ByteArray.mk #[47] ++ s3) := by
    unfold Hid printB
    rw [HN.out, if_neg HD.out, HE1.out, HE3.out]
    show _ = strB (Lib.decDigits (fixQ f).num.natAbs) ++ strB [47] ++ strB (Lib.decDigits (fixQ f).den)
    rw [strB_append, strB_append]
    congr 1
    simp
   go_wp2_with fail
   go_ret
   exact ⟨by rw [HP.out]; rfl, HB5.out⟩
 case true =>
  rw [hn] at k0
  have HN : Hid ((if negQ (fixQ f) = true then [(45 : UInt8)] else []) = [45]) := by unfold Hid; rw [hn]; rfl
  have hd2 : ¬ 9223372036854775807 < (ByteArray.mk #[45] ++ s1).size + (ByteArray.mk #[47]).size := by
   rw [ByteArray.size_append]
   show ¬ 9223372036854775807 < 1 + s1.size + 1
   omega
  clear hn
  by_cases hd : (fixQ f).den = 1
  ·have HD := Hd hd
   have hx2 : x2 = [1] := by rw [HX2.out, hd]; rfl
   have hl2 : x2.length = 1 := by rw [hx2]; rfl
   obtain ⟨g2, o2, rfl, hg2, j0⟩ := RN.cell0 HS4.out HX2.out (by omega)
   rw [show nat x2 0 = 1 from by rw [hx2]; rfl] at j0
   have u1 : decide ((1 : Int) < (x2.length : Int)) = false := decide_eq_false (by omega)
   have u2 : (0 : Int) < (x2.length : Int) := by omega
   have u3 : ¬ (1 : Int) < (x2.length : Int) := by omega
   clear hd hx2 hl2
   have HP : Hid (strB (printB (fixQ f)) = (ByteArray.mk #[45] ++ s1)) := by
    unfold Hid printB
    rw [HN.out, if_pos HD.out, HE1.out, List.append_nil]
    exact (strB_append [45] _).symm
   go_wp2_with fail
   go_ret
   exact ⟨by rw [HP.out]; rfl, HB4.out⟩
  have HD := Hd hd
  have hl2 : 0 < x2.length := by
   have h : 0 < wlen (fixQ f).den := wlen_pos.2 (fixQ f).den_nz
   rw [HX2.out]
   exact h
  by_cases hl : 1 < x2.length
  ·have u1 : decide ((1 : Int) < (x2.length : Int)) = true := decide_eq_true (by omega)
   have u3 : (1 : Int) < (x2.length : Int) := by omega
   clear hd hl
   go_wp2_with fail
   refine (rdigits_calls _ _ _ HS4.out hw2).mono ?_
   rintro e w5 ⟨rfl, hb⟩
   have HB5 := Hd (below_next HB4.out hb)
   clear hb
   obtain ⟨s3, hs3⟩ : ∃ s, s = strB (Lib.decDigits (fixQ f).den) := ⟨_, rfl⟩
   rw [← hs3]
   have hz3 : s3.size ≤ 1000001 := by rw [hs3, strB_size]; exact dec_len hw2
   have HE3 := Hd hs3
   clear hs3
   have hd3 : ¬ 9223372036854775807 < ((ByteArray.mk #[45] ++ s1) ++ ByteArray.mk #[47]).size + s3.size := by
    rw [ByteArray.size_append, ByteArray.size_append]
    show ¬ 9223372036854775807 < (1 + s1.size) + 1 + s3.size
    omega
   have HP : Hid (strB (printB (fixQ f)) = (ByteArray.mk #[45] ++ s1) ++ ByteArray.mk #[47] ++ s3) := by
    unfold Hid printB
    rw [HN.out, if_neg HD.out, HE1.out, HE3.out]
    show _ = strB [45] ++ strB (Lib.decDigits (fixQ f).num.natAbs) ++ strB [47] ++ strB (Lib.decDigits (fixQ f).den)
    rw [strB_append, strB_append, strB_append]
    congr 1
    simp
   go_wp2_with fail
   go_ret
   exact ⟨by rw [HP.out]; rfl, HB5.out⟩
  ·obtain ⟨y, hy⟩ : ∃ y, x2 = [y] := by
    match x2, (show x2.length = 1 by omega) with
    | [y], _ => exact ⟨y, rfl⟩
   have hyy : y ≠ 1 := fun e => hd (by
    have h1 := HX2.out
    have h2 := valN_dg (fixQ f).den
    rw [← h1, hy, e] at h2
    exact h2.symm)
   obtain ⟨g2, o2, rfl, hg2, j0⟩ := RN.cell0 HS4.out HX2.out (by omega)
   rw [show nat x2 0 = y from by rw [hy]; rfl] at j0
   have u1 : decide ((1 : Int) < (x2.length : Int)) = false := decide_eq_false (by omega)
   have u2 : (0 : Int) < (x2.length : Int) := by omega
   have u3 : ¬ (1 : Int) < (x2.length : Int) := by omega
   have u4 : ((y : Int) != 1) = true := bneI (by omega)
   clear hd hl hy hl2
   go_wp2_with fail
   refine (rdigits_calls _ _ _ HS4.out hw2).mono ?_
   rintro e w5 ⟨rfl, hb⟩
   have HB5 := Hd (below_next HB4.out hb)
   clear hb
   obtain ⟨s3, hs3⟩ : ∃ s, s = strB (Lib.decDigits (fixQ f).den) := ⟨_, rfl⟩
   rw [← hs3]
   have hz3 : s3.size ≤ 1000001 := by rw [hs3, strB_size]; exact dec_len hw2
   have HE3 := Hd hs3
   clear hs3
   have hd3 : ¬ 9223372036854775807 < ((ByteArray.mk #[45] ++ s1) ++ ByteArray.mk #[47]).size + s3.size := by
    rw [ByteArray.size_append, ByteArray.size_append]
    show ¬ 9223372036854775807 < (1 + s1.size) + 1 + s3.size
    omega
   have HP : Hid (strB (printB (fixQ f)) = (ByteArray.mk #[45] ++ s1) ++ ByteArray.mk #[47] ++ s3) := by
    unfold Hid printB
    rw [HN.out, if_neg HD.out, HE1.out, HE3.out]
    show _ = strB [45] ++ strB (Lib.decDigits (fixQ f).num.natAbs) ++ strB [47] ++ strB (Lib.decDigits (fixQ f).den)
    rw [strB_append, strB_append, strB_append]
    congr 1
    simp
   go_wp2_with fail
   go_ret
   exact ⟨by rw [HP.out]; rfl, HB5.out⟩
theorem size_int (n : Int) (h0 : -9223372036854775808 ≤ n) (h1 : n < 9223372036854775808) : sizeQ (n : Rat) ≤ 4096 := by
 unfold sizeQ
 have e1 : ((n : Rat)).num = n := Rat.num_intCast n
 have e2 : ((n : Rat)).den = 1 := Rat.den_intCast n
 rw [e1, e2]
 have h2 : wlen n.natAbs ≤ 2 := dg_len_le (by show n.natAbs < 4294967296 ^ 2; omega)
 have h3 : wlen 1 = 1 := rfl
 omega
theorem print_int (n : Int) : printB (n : Rat) = Lib.itoa n := by
 have e1 : ((n : Rat)).num = n := Rat.num_intCast n
 have e2 : ((n : Rat)).den = 1 := Rat.den_intCast n
 unfold printB Lib.itoa negQ
 rw [e1, e2, if_pos rfl, List.append_nil]
 by_cases h : n < 0
 ·rw [if_pos (decide_eq_true h), if_pos h]; rfl
 ·rw [if_neg (by simp [h]), if_neg h, show n.natAbs = n.toNat by omega]; rfl
set_option maxHeartbeats 32000000 in
set_option maxRecDepth 100000 in
theorem rof_calls (w : World) (n : Int) (h0 : -9223372036854775808 ≤ n) (h1 : n < 9223372036854775808) : Calls Tryd.prog 28 #[.int .i64 n] w fun e w' => FPost w (n : Rat) e w' := by
 go_enter Tryd.func28, Tryd.ntmps28
 go_wp2_with fail
 have HB0 := Hd (below_new w (.cells #[.bool false, .slice none 0 0, .slice none 0 0] 27))
 have HK0 := Hd (Blk.new w 27 #[.bool false, .slice none 0 0, .slice none 0 0])
 generalize w.alloc (.cells #[.bool false, .slice none 0 0, .slice none 0 0] 27) = W0 at *
 refine (rint_calls W0 n h0 h1).mono ?_
 rintro e w1 ⟨v, rfl, hq, hb⟩
 obtain ⟨B1, m1, d1, B2, m2, d2, rfl, HQ⟩ := hq.opened
 have HB1 := Hd (below_next HB0.out hb)
 have HK1 := Hd (HK0.out.below hb HK0.out.lt)
 clear hq hb HK0 HB0
 obtain ⟨k0, k1, k2⟩ := HK1.out.c3
 obtain ⟨j0, j1, j2⟩ := HK1.out.f3
 have hlt := HK1.out.lt
 go_wp2_with fail
 exact ret40 Tryd.results28 rfl (HK1.out.put3 _ _ _) ⟨_, rfl, HQ.out.put3 HK1.out (by intro u hu; simp only [List.mem_toArray, List.mem_cons, List.not_mem_nil, or_false] at hu; rcases hu with rfl | rfl | rfl <;> rfl) _ _ _, below_put3 HB1.out (Nat.le_refl _) _ _ _⟩
set_option maxHeartbeats 32000000 in
set_option maxRecDepth 100000 in
theorem rdecimal_calls (w : World) (n : Int) (h0 : -9223372036854775808 ≤ n) (h1 : n < 9223372036854775808) : Calls Tryd.prog 19 #[.int .i64 n] w fun e w' => SPost w (Lib.itoa n) e w' := by
 have HSZ := Hd (size_int n h0 h1)
 go_enter Tryd.func19, Tryd.ntmps19
 go_wp2_with fail
 refine (rof_calls w n h0 h1).mono ?_
 rintro e w1 ⟨v, rfl, hq, hb⟩
 have HF := Hd (FR.of_fq hq HSZ.out)
 have HB := Hd hb
 obtain ⟨B1, m1, d1, B2, m2, d2, rfl, HQ⟩ := hq.opened
 clear hq hb
 go_wp2_with fail
 refine (rprint_calls _ _ _ HF.out).mono ?_
 rintro e w2 ⟨rfl, hb⟩
 rw [fixQ_raw _ HSZ.out, print_int]
 have HB2 := Hd (below_next HB.out hb)
 clear hb
 go_wp2_with fail
 go_ret
 exact ⟨rfl, HB2.out⟩
theorem bits_or_commH (k : IntKind) (a b : Int) : bits .or k a b = bits .or k b a := by simp only [bits, BitVec.or_comm]
theorem bits_xor_comm (k : IntKind) (a b : Int) : bits .xor k a b = bits .xor k b a := by simp only [bits, BitVec.xor_comm]
set_option maxHeartbeats 400000 in
theorem turn_calls (x m : Int) (n : Nat) (w : World) (hm : m = n) (h0 : 0 < n) (h1 : n < 32) (hx0 : 0 ≤ x) (hx : x < 4294967296) :
  Calls Tryd.prog 36 #[.int .u32 x, .int .u64 m] w fun e w' => e = .returned (.int .u32 (rotr x n)) ∧ w' = w := by
 subst hm
 have hw : IntKind.u64.wrap (32 - (n : Int)) = ((32 - n : Nat) : Int) := by
  rw [show (32 - (n : Int)) = ((32 - n : Nat) : Int) by omega]
  exact IntWalk.u64_in _ (by omega)
 have b1 : (0 : Int) ≤ ((32 - n : Nat) : Int) := by omega
 have b2 : ((32 - n : Nat) : Int) < 32 := by omega
 have b3 : (n : Int) < 32 := by omega
 have hfin : rotr x n = bits .or .u32 (x / 2 ^ n) ((x * 2 ^ (32 - n)) % 4294967296) := bits_or_commH _ _ _
 obtain ⟨q, hq⟩ : ∃ q : Nat, 32 - n = q := ⟨_, rfl⟩
 rw [hq] at hw b1 b2 hfin
 have HF := Hd hfin
 clear hfin
 go_enter Tryd.func36, Tryd.ntmps36
 go_wp2
 go_ret
 exact ⟨by rw [HF.out]; rfl, rfl⟩
def MixPost (w : World) (st bs : List Int) (e : Ending) (w' : World) : Prop := e = .returned (.agg (nums .u32 (blockF st bs)).toArray) ∧ Below w.heap.size w w'
theorem four_alloc (w : World) (o1 o2 o3 o4 : Obj) :
  ((((w.alloc o1).alloc o2).alloc o3).alloc o4).heap[w.heap.size]? = some o1 ∧ ((((w.alloc o1).alloc o2).alloc o3).alloc o4).heap[w.heap.size + 1]? = some o2 ∧
  ((((w.alloc o1).alloc o2).alloc o3).alloc o4).heap[w.heap.size + 1 + 1]? = some o3 ∧ ((((w.alloc o1).alloc o2).alloc o3).alloc o4).heap[w.heap.size + 1 + 1 + 1]? = some o4 := by
 show ((((w.heap.push o1).push o2).push o3).push o4)[w.heap.size]? = _ ∧ ((((w.heap.push o1).push o2).push o3).push o4)[w.heap.size + 1]? = _ ∧ ((((w.heap.push o1).push o2).push o3).push o4)[w.heap.size + 1 + 1]? = _ ∧ ((((w.heap.push o1).push o2).push o3).push o4)[w.heap.size + 1 + 1 + 1]? = _
 simp only [Array.getElem?_push, Array.size_push]
 refine ⟨?_, ?_, ?_, ?_⟩
 ·rw [if_neg (by omega), if_neg (by omega), if_neg (by omega), if_pos trivial]
 ·rw [if_neg (by omega), if_neg (by omega), if_pos trivial]
 ·rw [if_neg (by omega), if_pos trivial]
 ·rw [if_pos trivial]
structure MixInv (w wr : World) (st : List Int) : Prop where
 h : Arr .u32 wr w.heap.size 45 st
 k : Arr .u32 wr (w.heap.size + 1) 51 consts
 r : Arr .u32 wr (w.heap.size + 1 + 1) 45 (List.replicate 8 0)
 g : w.grownBy wr none
theorem MixInv.set {w wr : World} {st : List Int} (i : MixInv w wr st) {a : Addr} (ha : w.heap.size + 2 < a.block) (u : Value) : MixInv w (wr.setCell a u) st :=
 ⟨i.h.other (by omega) u, i.k.other (by omega) u, i.r.other (by omega) u, gb_set i.g (.inl (by omega)) u⟩
theorem MixInv.drew {w wr : World} {st : List Int} (i : MixInv w wr st) : MixInv w wr.drew st := ⟨i.h, i.k, i.r, gb_drew i.g⟩
theorem MixInv.drewN {w wr : World} {st : List Int} (i : MixInv w wr st) (n : Nat) : MixInv w (wr.drewN n) st := ⟨i.h.drewN n, i.k.drewN n, i.r.drewN n, gb_drewN i.g n⟩
theorem MixInv.alloc {w wr : World} {st : List Int} (i : MixInv w wr st) (o : Obj) : MixInv w (wr.alloc o) st := ⟨i.h.alloc o, i.k.alloc o, i.r.alloc o, gb_alloc i.g o⟩
theorem cells8 {w : World} {T : Nat} {s : St} (h : Arr .u32 w T 45 s.list) :
  w.cell? ⟨T, 0, none⟩ = some (.int .u32 s.a) ∧ w.cell? ⟨T, 1, none⟩ = some (.int .u32 s.b) ∧ w.cell? ⟨T, 2, none⟩ = some (.int .u32 s.c) ∧ w.cell? ⟨T, 3, none⟩ = some (.int .u32 s.d) ∧
  w.cell? ⟨T, 4, none⟩ = some (.int .u32 s.e) ∧ w.cell? ⟨T, 5, none⟩ = some (.int .u32 s.f) ∧ w.cell? ⟨T, 6, none⟩ = some (.int .u32 s.g) ∧ w.cell? ⟨T, 7, none⟩ = some (.int .u32 s.h) :=
 ⟨h.cell 0 (by simp [St.list]), h.cell 1 (by simp [St.list]), h.cell 2 (by simp [St.list]), h.cell 3 (by simp [St.list]), h.cell 4 (by simp [St.list]), h.cell 5 (by simp [St.list]), h.cell 6 (by simp [St.list]), h.cell 7 (by simp [St.list])⟩
theorem frozen8 {w : World} {T : Nat} {l : List Int} (h : Arr .u32 w T 45 l) :
  w.frozen? ⟨T, 0, none⟩ = false ∧ w.frozen? ⟨T, 1, none⟩ = false ∧ w.frozen? ⟨T, 2, none⟩ = false ∧ w.frozen? ⟨T, 3, none⟩ = false ∧
  w.frozen? ⟨T, 4, none⟩ = false ∧ w.frozen? ⟨T, 5, none⟩ = false ∧ w.frozen? ⟨T, 6, none⟩ = false ∧ w.frozen? ⟨T, 7, none⟩ = false :=
 ⟨h.frozen 0, h.frozen 1, h.frozen 2, h.frozen 3, h.frozen 4, h.frozen 5, h.frozen 6, h.frozen 7⟩
theorem cells8' {w : World} {T : Nat} {l : List Int} (h : Arr .u32 w T 45 l) (hl : l.length = 8) :
  w.cell? ⟨T, 0, none⟩ = some (.int .u32 (nth l 0)) ∧ w.cell? ⟨T, 1, none⟩ = some (.int .u32 (nth l 1)) ∧ w.cell? ⟨T, 2, none⟩ = some (.int .u32 (nth l 2)) ∧ w.cell? ⟨T, 3, none⟩ = some (.int .u32 (nth l 3)) ∧
  w.cell? ⟨T, 4, none⟩ = some (.int .u32 (nth l 4)) ∧ w.cell? ⟨T, 5, none⟩ = some (.int .u32 (nth l 5)) ∧ w.cell? ⟨T, 6, none⟩ = some (.int .u32 (nth l 6)) ∧ w.cell? ⟨T, 7, none⟩ = some (.int .u32 (nth l 7)) :=
 ⟨h.cell 0 (by omega), h.cell 1 (by omega), h.cell 2 (by omega), h.cell 3 (by omega), h.cell 4 (by omega), h.cell 5 (by omega), h.cell 6 (by omega), h.cell 7 (by omega)⟩
theorem set8 {w : World} {T : Nat} {l : List Int} (h : Arr .u32 w T 45 l) (hl : l.length = 8) (v0 v1 v2 v3 v4 v5 v6 v7 : Int) :
  Arr .u32 ((((((((w.setCell ⟨T, 0, none⟩ (.int .u32 v0)).setCell ⟨T, 1, none⟩ (.int .u32 v1)).setCell ⟨T, 2, none⟩ (.int .u32 v2)).setCell ⟨T, 3, none⟩ (.int .u32 v3)).setCell ⟨T, 4, none⟩ (.int .u32 v4)).setCell ⟨T, 5, none⟩ (.int .u32 v5)).setCell ⟨T, 6, none⟩ (.int .u32 v6)).setCell ⟨T, 7, none⟩ (.int .u32 v7)) T 45 [v0, v1, v2, v3, v4, v5, v6, v7] := by
 match l, hl with
 | [a, b, c, d, e, f, g, i], _ => exact (((((((h.set 0 v0).set 1 v1).set 2 v2).set 3 v3).set 4 v4).set 5 v5).set 6 v6).set 7 v7
theorem other8 {w : World} {T B e : Nat} {l : List Int} (h : Arr .u32 w B e l) (hb : B ≠ T) (v0 v1 v2 v3 v4 v5 v6 v7 : Value) :
  Arr .u32 ((((((((w.setCell ⟨T, 0, none⟩ v0).setCell ⟨T, 1, none⟩ v1).setCell ⟨T, 2, none⟩ v2).setCell ⟨T, 3, none⟩ v3).setCell ⟨T, 4, none⟩ v4).setCell ⟨T, 5, none⟩ v5).setCell ⟨T, 6, none⟩ v6).setCell ⟨T, 7, none⟩ v7) B e l :=
 (((((((h.other hb v0).other hb v1).other hb v2).other hb v3).other hb v4).other hb v5).other hb v6).other hb v7
theorem gb8 {w0 w : World} {T : Nat} (h : w0.grownBy w none) (hT : w0.heap.size ≤ T) (v0 v1 v2 v3 v4 v5 v6 v7 : Value) :
  w0.grownBy ((((((((w.setCell ⟨T, 0, none⟩ v0).setCell ⟨T, 1, none⟩ v1).setCell ⟨T, 2, none⟩ v2).setCell ⟨T, 3, none⟩ v3).setCell ⟨T, 4, none⟩ v4).setCell ⟨T, 5, none⟩ v5).setCell ⟨T, 6, none⟩ v6).setCell ⟨T, 7, none⟩ v7) none :=
 gb_set (gb_set (gb_set (gb_set (gb_set (gb_set (gb_set (gb_set h (.inl hT) _) (.inl hT) _) (.inl hT) _) (.inl hT) _) (.inl hT) _) (.inl hT) _) (.inl hT) _) (.inl hT) _
theorem step_list (s : St) (k w : Int) : (s.step k w).list = [(s.h + bits .xor .u32 (bits .xor .u32 (rotr s.e 6) (rotr s.e 11)) (rotr s.e 25) + bits .xor .u32 (bits .and .u32 s.e s.f) (bits .and .u32 (bits .xor .u32 s.e 4294967295) s.g) + k + w +
  (bits .xor .u32 (bits .xor .u32 (rotr s.a 2) (rotr s.a 13)) (rotr s.a 22) + bits .xor .u32 (bits .xor .u32 (bits .and .u32 s.a s.b) (bits .and .u32 s.a s.c)) (bits .and .u32 s.b s.c))) % 4294967296, s.a, s.b, s.c,
  (s.d + (s.h + bits .xor .u32 (bits .xor .u32 (rotr s.e 6) (rotr s.e 11)) (rotr s.e 25) + bits .xor .u32 (bits .and .u32 s.e s.f) (bits .and .u32 (bits .xor .u32 s.e 4294967295) s.g) + k + w)) % 4294967296, s.e, s.f, s.g] := by
 simp only [St.step, St.list, St.t1, St.t2]
 rw [bits_xor_comm .u32 4294967295 s.e]
 generalize bits .xor .u32 (bits .xor .u32 (rotr s.e 6) (rotr s.e 11)) (rotr s.e 25) = x1
 generalize bits .xor .u32 (bits .and .u32 s.e s.f) (bits .and .u32 (bits .xor .u32 s.e 4294967295) s.g) = x2
 generalize bits .xor .u32 (bits .xor .u32 (rotr s.a 2) (rotr s.a 13)) (rotr s.a 22) = x3
 generalize bits .xor .u32 (bits .xor .u32 (bits .and .u32 s.a s.b) (bits .and .u32 s.a s.c)) (bits .and .u32 s.b s.c) = x4
 congr 1
 ·omega
 ·congr 4
  omega
theorem MixInv.set8 {w wr : World} {st : List Int} (i : MixInv w wr st) {T : Nat} (hT : w.heap.size + 2 < T) (v0 v1 v2 v3 v4 v5 v6 v7 : Value) :
  MixInv w ((((((((wr.setCell ⟨T, 0, none⟩ v0).setCell ⟨T, 1, none⟩ v1).setCell ⟨T, 2, none⟩ v2).setCell ⟨T, 3, none⟩ v3).setCell ⟨T, 4, none⟩ v4).setCell ⟨T, 5, none⟩ v5).setCell ⟨T, 6, none⟩ v6).setCell ⟨T, 7, none⟩ v7) st :=
 ⟨other8 i.h (by omega) _ _ _ _ _ _ _ _, other8 i.k (by omega) _ _ _ _ _ _ _ _, other8 i.r (by omega) _ _ _ _ _ _ _ _, gb8 i.g (by omega) _ _ _ _ _ _ _ _⟩
theorem nth_bytes (s : ByteArray) (i : Nat) (h : i < s.size) : nth (bytesOf s) i = ((s[i]'h).toNat : Int) := by
 unfold nth bytesOf
 have h' : i < s.data.toList.length := by rw [Array.length_toList]; exact h
 rw [List.getD_eq_getElem?_getD, List.getElem?_map, List.getElem?_eq_getElem h']
 rfl
set_option maxHeartbeats 8000000 in
set_option maxRecDepth 100000 in
theorem mixed_calls (w : World) (st : List Int) (s : ByteArray) (hs : s.size = 64) (hs8 : st.length = 8) (hss : Smalls st) :
  Calls Tryd.prog 27 #[.agg (nums .u32 st).toArray, .string s, .agg (nums .u32 consts).toArray] w fun e w' => MixPost w st (bytesOf s) e w' := by
 obtain ⟨sa, hsa⟩ : ∃ sa, sa = (nums .u32 st).toArray := ⟨_, rfl⟩
 obtain ⟨ka, hka⟩ : ∃ ka, ka = (nums .u32 consts).toArray := ⟨_, rfl⟩
 rw [← hsa, ← hka]
 have HSA := Hd hsa
 have HKA := Hd hka
 have HS := Hd hs
 clear hsa hka hs
 go_enter Tryd.func27, Tryd.ntmps27
 go_wp2
 go_loopw [8] (fun v wr => ∃ k : Nat, k ≤ 16 ∧ v = .int .i64 k ∧ Arr .u32 wr (w.heap.size + 1 + 1 + 1) 51 (fill1 (bytesOf s) k) ∧ MixInv w wr st) (fun v _ => 16 - (intOf v).toNat)
 case atStart =>
  exact ⟨0, by omega, rfl, (four_alloc w _ _ _ _).2.2.2, ⟨by rw [HSA.out]; exact (four_alloc w _ _ _ _).1, by rw [HKA.out]; exact (four_alloc w _ _ _ _).2.1, (four_alloc w _ _ _ _).2.2.1, gb_alloc (gb_alloc (gb_alloc (gb_alloc (gb_refl _ _) _) _) _) _⟩⟩
 case round =>
  obtain ⟨k, hk, rfl, ha, hi⟩ := hrel
  by_cases hlt : k < 16
  ·have HN : Hid (fill1 (bytesOf s) (k + 1) = (fill1 (bytesOf s) k).set k (beW (bytesOf s) k)) := rfl
   have hln := fill1_len (bytesOf s) k
   have HBE : Hid (beW (bytesOf s) k = bits .or .u32 (bits .or .u32 (bits .or .u32 (nth (bytesOf s) (4 * k) * 16777216) (nth (bytesOf s) (4 * k + 1) * 65536)) (nth (bytesOf s) (4 * k + 2) * 256)) (nth (bytesOf s) (4 * k + 3))) := rfl
   obtain ⟨ws, hws⟩ : ∃ ws, ws = fill1 (bytesOf s) k := ⟨_, rfl⟩
   rw [← hws] at ha HN hln
   clear hws
   have HA := Hd ha
   have hfr := ha.frozen k
   have hce : wr.cell? ⟨w.heap.size + 1 + 1 + 1, k, none⟩ = some (.int .u32 (nth ws k)) := ha.cell k (by omega)
   clear ha
   have hs := HS.out
   have bk : (k : Int) < 64 := by omega
   have ak : 0 ≤ (k : Int) := by omega
   have tk : (k : Int).toNat = k := by omega
   have t0 : (4 * (k : Int)).toNat = 4 * k := by omega
   have t1 : (4 * (k : Int) + 1).toNat = 4 * k + 1 := by omega
   have t2 : (4 * (k : Int) + 2).toNat = 4 * k + 2 := by omega
   have t3 : (4 * (k : Int) + 3).toNat = 4 * k + 3 := by omega
   have b0 : 4 * (k : Int) < (s.size : Int) := by omega
   have b1 : 4 * (k : Int) + 1 < (s.size : Int) := by omega
   have b2 : 4 * (k : Int) + 2 < (s.size : Int) := by omega
   have b3 : 4 * (k : Int) + 3 < (s.size : Int) := by omega
   have c0 : 4 * k < s.size := by omega
   have c1 : 4 * k + 1 < s.size := by omega
   have c2 : 4 * k + 2 < s.size := by omega
   have c3 : 4 * k + 3 < s.size := by omega
   have a0 : 0 ≤ 4 * (k : Int) := by omega
   have a1 : 0 ≤ 4 * (k : Int) + 1 := by omega
   have a2 : 0 ≤ 4 * (k : Int) + 2 := by omega
   have a3 : 0 ≤ 4 * (k : Int) + 3 := by omega
   have w0 : IntKind.i64.wrap (4 * (k : Int)) = 4 * (k : Int) := IntWalk.i64_in _ (by omega)
   have w1 : IntKind.i64.wrap (4 * (k : Int) + 1) = 4 * (k : Int) + 1 := IntWalk.i64_in _ (by omega)
   have w2 : IntKind.i64.wrap (4 * (k : Int) + 2) = 4 * (k : Int) + 2 := IntWalk.i64_in _ (by omega)
   have w3 : IntKind.i64.wrap (4 * (k : Int) + 3) = 4 * (k : Int) + 3 := IntWalk.i64_in _ (by omega)
   clear hs
   go_wp2
   go_still_tail 31, (by kernel_rfl)
   go_wp2
   go_roundw
   case rel =>
    refine ⟨k + 1, by omega, by go_num, ?_, (hi.set (by simp) _).drew⟩
    have z0 : (((s[4 * k]'c0).toNat : Int)) % 4294967296 * 16777216 % 4294967296 = ((s[4 * k]'c0).toNat : Int) * 16777216 := by have := (s[4 * k]'c0).toNat_lt; omega
    have z1 : (((s[4 * k + 1]'c1).toNat : Int)) % 4294967296 * 65536 % 4294967296 = ((s[4 * k + 1]'c1).toNat : Int) * 65536 := by have := (s[4 * k + 1]'c1).toNat_lt; omega
    have z2 : (((s[4 * k + 2]'c2).toNat : Int)) % 4294967296 * 256 % 4294967296 = ((s[4 * k + 2]'c2).toNat : Int) * 256 := by have := (s[4 * k + 2]'c2).toNat_lt; omega
    have z3 : (((s[4 * k + 3]'c3).toNat : Int)) % 4294967296 = ((s[4 * k + 3]'c3).toNat : Int) := by have := (s[4 * k + 3]'c3).toNat_lt; omega
    rw [HN.out, HBE.out, nth_bytes s _ c0, nth_bytes s _ c1, nth_bytes s _ c2, nth_bytes s _ c3, z0, z1, z2, z3]
    exact Arr.drew (HA.out.set _ _)
   case measure => simp [intOf]; omega
  ·obtain rfl : k = 16 := by omega
   rw [show ((16 : Nat) : Int) = (16 : Int) from rfl]
   clear hk hlt
   go_wp2
   go_loopw [9] (fun v wr => ∃ k : Nat, k ≤ 48 ∧ v = .int .i64 (16 + k : Nat) ∧ Arr .u32 wr (w.heap.size + 1 + 1 + 1) 51 (fill2 (fill1 (bytesOf s) 16) k) ∧ MixInv w wr st) (fun v _ => 64 - (intOf v).toNat)
   case atStart => exact ⟨0, by omega, rfl, ha, hi⟩
   case round =>
    clear ha hi
    obtain ⟨k, hk, rfl, ha, hi⟩ := hrel
    by_cases hlt : k < 48
    ·have HA := Hd ha
     have hsm := fill2_small (fill1_small (bytesOf s) 16) k
     have hln : (fill2 (fill1 (bytesOf s) 16) k).length = 64 := by rw [fill2_len, fill1_len]
     have HN : Hid (fill2 (fill1 (bytesOf s) 16) (k + 1) = (fill2 (fill1 (bytesOf s) 16) k).set (16 + k) (sched (fill2 (fill1 (bytesOf s) 16) k) (16 + k))) := rfl
     obtain ⟨ws, hws⟩ : ∃ ws, ws = fill2 (fill1 (bytesOf s) 16) k := ⟨_, rfl⟩
     rw [← hws] at HA ha hsm HN hln
     clear hws
     have fr := ha.frozen (16 + k)
     have e0 : wr.cell? ⟨w.heap.size + 1 + 1 + 1, 16 + k, none⟩ = some (.int .u32 (nth ws (16 + k))) := ha.cell (16 + k) (by omega)
     have e1 : wr.cell? ⟨w.heap.size + 1 + 1 + 1, k, none⟩ = some (.int .u32 (nth ws k)) := ha.cell k (by omega)
     have e2 : wr.cell? ⟨w.heap.size + 1 + 1 + 1, k + 1, none⟩ = some (.int .u32 (nth ws (k + 1))) := ha.cell (k + 1) (by omega)
     have e3 : wr.cell? ⟨w.heap.size + 1 + 1 + 1, k + 14, none⟩ = some (.int .u32 (nth ws (k + 14))) := ha.cell (k + 14) (by omega)
     have e4 : wr.cell? ⟨w.heap.size + 1 + 1 + 1, k + 9, none⟩ = some (.int .u32 (nth ws (k + 9))) := ha.cell (k + 9) (by omega)
     clear ha
     have z1 : ((16 + k : Nat) : Int) < 64 := by omega
     have z0 : (0 : Int) ≤ ((16 + k : Nat) : Int) := by omega
     obtain ⟨i, hi'⟩ : ∃ i : Int, i = ((16 + k : Nat) : Int) := ⟨_, rfl⟩
     have t1 : (i - 15).toNat = k + 1 := by omega
     have t2 : (i - 2).toNat = k + 14 := by omega
     have t3 : (i - 16).toNat = k := by omega
     have t4 : (i - 7).toNat = k + 9 := by omega
     have t5 : i.toNat = 16 + k := by omega
     have a1 : 0 ≤ i - 15 := by omega
     have a2 : 0 ≤ i - 2 := by omega
     have a3 : 0 ≤ i - 16 := by omega
     have a4 : 0 ≤ i - 7 := by omega
     have d1 : 16 ≤ i := by omega
     have d2 : 7 ≤ i := by omega
     have d3 : 15 ≤ i := by omega
     have d4 : 2 ≤ i := by omega
     have c1 : i - 15 < 64 := by omega
     have c2 : i - 2 < 64 := by omega
     have c3 : i - 16 < 64 := by omega
     have c4 : i - 7 < 64 := by omega
     have s1 := hsm (k + 1)
     have s14 := hsm (k + 14)
     have s10 := s1.1
     have s11 := s1.2
     have s140 := s14.1
     have s141 := s14.2
     have w1 : IntKind.i64.wrap (i - 15) = i - 15 := IntWalk.i64_in _ (by omega)
     have w2 : IntKind.i64.wrap (i - 2) = i - 2 := IntWalk.i64_in _ (by omega)
     have w3 : IntKind.i64.wrap (i - 16) = i - 16 := IntWalk.i64_in _ (by omega)
     have w4 : IntKind.i64.wrap (i - 7) = i - 7 := IntWalk.i64_in _ (by omega)
     rw [← hi'] at z0 z1 ⊢
     have HI := Hd hi'
     have HII := Hd hi
     clear hi' hi
     have c7 : ∀ w, Calls Tryd.prog 36 #[.int .u32 (nth ws (k + 1)), .int .u64 7] w fun e w' => e = .returned (.int .u32 (rotr (nth ws (k + 1)) 7)) ∧ w' = w := fun w => turn_calls _ 7 7 w rfl (by decide) (by decide) s1.1 s1.2
     have c18 : ∀ w, Calls Tryd.prog 36 #[.int .u32 (nth ws (k + 1)), .int .u64 18] w fun e w' => e = .returned (.int .u32 (rotr (nth ws (k + 1)) 18)) ∧ w' = w := fun w => turn_calls _ 18 18 w rfl (by decide) (by decide) s1.1 s1.2
     have c17 : ∀ w, Calls Tryd.prog 36 #[.int .u32 (nth ws (k + 14)), .int .u64 17] w fun e w' => e = .returned (.int .u32 (rotr (nth ws (k + 14)) 17)) ∧ w' = w := fun w => turn_calls _ 17 17 w rfl (by decide) (by decide) s14.1 s14.2
     have c19 : ∀ w, Calls Tryd.prog 36 #[.int .u32 (nth ws (k + 14)), .int .u64 19] w fun e w' => e = .returned (.int .u32 (rotr (nth ws (k + 14)) 19)) ∧ w' = w := fun w => turn_calls _ 19 19 w rfl (by decide) (by decide) s14.1 s14.2
     have H7 := Hd c7
     have H18 := Hd c18
     have H17 := Hd c17
     have H19 := Hd c19
     clear c7 c18 c17 c19 s1 s14
     go_wp2_with fail
     go_quiet ((first | (with_reducible exact Calls.quiet_of_same (H7.out _)) | (with_reducible exact Calls.quiet_of_same (H18.out _))))
     replace HA : Hid (Arr .u32 (wr.drewN nq) (w.heap.size + 1 + 1 + 1) 51 ws) := Hd (HA.out.drewN nq)
     replace HII : Hid (MixInv w (wr.drewN nq) st) := Hd (HII.out.drewN nq)
     replace fr : (wr.drewN nq).frozen? ⟨w.heap.size + 1 + 1 + 1, 16 + k, none⟩ = false := fr
     replace e0 : (wr.drewN nq).cell? ⟨w.heap.size + 1 + 1 + 1, 16 + k, none⟩ = some (.int .u32 (nth ws (16 + k))) := e0
     replace e1 : (wr.drewN nq).cell? ⟨w.heap.size + 1 + 1 + 1, k, none⟩ = some (.int .u32 (nth ws k)) := e1
     replace e2 : (wr.drewN nq).cell? ⟨w.heap.size + 1 + 1 + 1, k + 1, none⟩ = some (.int .u32 (nth ws (k + 1))) := e2
     replace e3 : (wr.drewN nq).cell? ⟨w.heap.size + 1 + 1 + 1, k + 14, none⟩ = some (.int .u32 (nth ws (k + 14))) := e3
     replace e4 : (wr.drewN nq).cell? ⟨w.heap.size + 1 + 1 + 1, k + 9, none⟩ = some (.int .u32 (nth ws (k + 9))) := e4
     generalize wr.drewN nq = W2 at *
     clear nq
     go_wp2_with fail
     go_quiet ((first | (with_reducible exact Calls.quiet_of_same (H17.out _)) | (with_reducible exact Calls.quiet_of_same (H19.out _))))
     go_wp2_with fail
     replace HA : Hid (Arr .u32 (W2.drewN nq) (w.heap.size + 1 + 1 + 1) 51 ws) := Hd (HA.out.drewN nq)
     replace HII : Hid (MixInv w (W2.drewN nq) st) := Hd (HII.out.drewN nq)
     replace fr : (W2.drewN nq).frozen? ⟨w.heap.size + 1 + 1 + 1, 16 + k, none⟩ = false := fr
     replace e0 : (W2.drewN nq).cell? ⟨w.heap.size + 1 + 1 + 1, 16 + k, none⟩ = some (.int .u32 (nth ws (16 + k))) := e0
     replace e1 : (W2.drewN nq).cell? ⟨w.heap.size + 1 + 1 + 1, k, none⟩ = some (.int .u32 (nth ws k)) := e1
     replace e2 : (W2.drewN nq).cell? ⟨w.heap.size + 1 + 1 + 1, k + 1, none⟩ = some (.int .u32 (nth ws (k + 1))) := e2
     replace e3 : (W2.drewN nq).cell? ⟨w.heap.size + 1 + 1 + 1, k + 14, none⟩ = some (.int .u32 (nth ws (k + 14))) := e3
     replace e4 : (W2.drewN nq).cell? ⟨w.heap.size + 1 + 1 + 1, k + 9, none⟩ = some (.int .u32 (nth ws (k + 9))) := e4
     generalize W2.drewN nq = W3 at *
     go_still_tail 15, (by kernel_rfl)
     go_wp2
     go_roundw
     case rel =>
      refine ⟨k + 1, by omega, ?_, ?_, (HII.out.set (by simp) _).drew⟩
      ·have := HI.out
       congr 1
       omega
      ·rw [HN.out]
       have e16 : 16 + k - 16 = k := by omega
       have e15 : 16 + k - 15 = k + 1 := by omega
       have e7 : 16 + k - 7 = k + 9 := by omega
       have e2 : 16 + k - 2 = k + 14 := by omega
       unfold sched
       rw [e16, e15, e7, e2]
       exact Arr.drew (HA.out.set _ _)
     case measure => simp [intOf]; omega
    ·obtain rfl : k = 48 := by omega
     have hl48 : (fill2 (fill1 (bytesOf s) 16) 48).length = 64 := by rw [fill2_len, fill1_len]
     have hs48 := fill2_small (fill1_small (bytesOf s) 16) 48
     clear hk hlt
     rw [show ((16 + 48 : Nat) : Int) = (64 : Int) from rfl]
     have f0 : wr.cell? ⟨w.heap.size, 0, none⟩ = some (.int .u32 (nth st 0)) := hi.h.cell 0 (by omega)
     have f1 : wr.cell? ⟨w.heap.size, 1, none⟩ = some (.int .u32 (nth st 1)) := hi.h.cell 1 (by omega)
     have f2 : wr.cell? ⟨w.heap.size, 2, none⟩ = some (.int .u32 (nth st 2)) := hi.h.cell 2 (by omega)
     have f3 : wr.cell? ⟨w.heap.size, 3, none⟩ = some (.int .u32 (nth st 3)) := hi.h.cell 3 (by omega)
     have f4 : wr.cell? ⟨w.heap.size, 4, none⟩ = some (.int .u32 (nth st 4)) := hi.h.cell 4 (by omega)
     have f5 : wr.cell? ⟨w.heap.size, 5, none⟩ = some (.int .u32 (nth st 5)) := hi.h.cell 5 (by omega)
     have f6 : wr.cell? ⟨w.heap.size, 6, none⟩ = some (.int .u32 (nth st 6)) := hi.h.cell 6 (by omega)
     have f7 : wr.cell? ⟨w.heap.size, 7, none⟩ = some (.int .u32 (nth st 7)) := hi.h.cell 7 (by omega)
     obtain ⟨ws, hws⟩ : ∃ ws, ws = fill2 (fill1 (bytesOf s) 16) 48 := ⟨_, rfl⟩
     rw [← hws] at ha hl48 hs48
     have HWS := Hd hws
     have HII := Hd hi
     have HA := Hd ha
     clear hws hi ha
     have hT : w.heap.size + 2 < wr.heap.size := by have := HA.out.lt; omega
     have hAT : Arr .u32 (wr.alloc (.cells #[.int .u32 (nth st 0), .int .u32 (nth st 1), .int .u32 (nth st 2), .int .u32 (nth st 3), .int .u32 (nth st 4), .int .u32 (nth st 5), .int .u32 (nth st 6), .int .u32 (nth st 7)] 45)) wr.heap.size 45 (St.of st).list := by
      show (World.alloc _ _).heap[wr.heap.size]? = _
      rw [heap_alloc_new]
      rfl
     have HA' := HA.out.alloc (.cells #[.int .u32 (nth st 0), .int .u32 (nth st 1), .int .u32 (nth st 2), .int .u32 (nth st 3), .int .u32 (nth st 4), .int .u32 (nth st 5), .int .u32 (nth st 6), .int .u32 (nth st 7)] 45)
     have HI' := HII.out.alloc (.cells #[.int .u32 (nth st 0), .int .u32 (nth st 1), .int .u32 (nth st 2), .int .u32 (nth st 3), .int .u32 (nth st 4), .int .u32 (nth st 5), .int .u32 (nth st 6), .int .u32 (nth st 7)] 45)
     have h3T : w.heap.size + 1 + 1 + 1 < wr.heap.size := HA.out.lt
     obtain ⟨T, hTe⟩ : ∃ T, T = wr.heap.size := ⟨_, rfl⟩
     rw [← hTe] at hT hAT h3T
     have HTE := Hd hTe
     clear hTe HA HII
     go_wp2
     rw [← HTE.out]
     clear f0 f1 f2 f3 f4 f5 f6 f7 HTE
     generalize wr.alloc (.cells #[.int .u32 (nth st 0), .int .u32 (nth st 1), .int .u32 (nth st 2), .int .u32 (nth st 3), .int .u32 (nth st 4), .int .u32 (nth st 5), .int .u32 (nth st 6), .int .u32 (nth st 7)] 45) = W4 at *
     go_loopw [13] (fun vi wq => ∃ n : Nat, n ≤ 64 ∧ vi = .int .i64 n ∧ Arr .u32 wq T 45 (St.steps consts ws (St.of st) n).list ∧ Arr .u32 wq (w.heap.size + 1 + 1 + 1) 51 ws ∧ MixInv w wq st) (fun vi _ => 64 - (intOf vi).toNat)
     case atStart => exact ⟨0, by omega, rfl, hAT, HA', HI'⟩
     case round =>
      clear hAT HA' HI'
      obtain ⟨n, hn, rfl, hAT, ha, hi⟩ := hrel
      have hok := St.steps_ok (St.of_ok hss) consts ws n
      have HN : Hid (St.steps consts ws (St.of st) (n + 1) = (St.steps consts ws (St.of st) n).step (nth consts n) (nth ws n)) := rfl
      by_cases hlt : n < 64
      ·obtain ⟨s', hs'⟩ : ∃ s', s' = St.steps consts ws (St.of st) n := ⟨_, rfl⟩
       rw [← hs'] at hok HN hAT
       clear hs'
       have HT := Hd hAT
       have HA := Hd ha
       have HII := Hd hi
       clear hAT ha hi
       have n0 : (0 : Int) ≤ (n : Int) := by omega
       have n1 : (n : Int) < 64 := by omega
       have n2 : (n : Int).toNat = n := by omega
       have c6 : ∀ w, Calls Tryd.prog 36 #[.int .u32 s'.e, .int .u64 6] w fun e w' => e = .returned (.int .u32 (rotr s'.e 6)) ∧ w' = w := fun w => turn_calls _ 6 6 w rfl (by decide) (by decide) hok.e.1 hok.e.2
       have c11 : ∀ w, Calls Tryd.prog 36 #[.int .u32 s'.e, .int .u64 11] w fun e w' => e = .returned (.int .u32 (rotr s'.e 11)) ∧ w' = w := fun w => turn_calls _ 11 11 w rfl (by decide) (by decide) hok.e.1 hok.e.2
       have c25 : ∀ w, Calls Tryd.prog 36 #[.int .u32 s'.e, .int .u64 25] w fun e w' => e = .returned (.int .u32 (rotr s'.e 25)) ∧ w' = w := fun w => turn_calls _ 25 25 w rfl (by decide) (by decide) hok.e.1 hok.e.2
       have c2 : ∀ w, Calls Tryd.prog 36 #[.int .u32 s'.a, .int .u64 2] w fun e w' => e = .returned (.int .u32 (rotr s'.a 2)) ∧ w' = w := fun w => turn_calls _ 2 2 w rfl (by decide) (by decide) hok.a.1 hok.a.2
       have c13 : ∀ w, Calls Tryd.prog 36 #[.int .u32 s'.a, .int .u64 13] w fun e w' => e = .returned (.int .u32 (rotr s'.a 13)) ∧ w' = w := fun w => turn_calls _ 13 13 w rfl (by decide) (by decide) hok.a.1 hok.a.2
       have c22 : ∀ w, Calls Tryd.prog 36 #[.int .u32 s'.a, .int .u64 22] w fun e w' => e = .returned (.int .u32 (rotr s'.a 22)) ∧ w' = w := fun w => turn_calls _ 22 22 w rfl (by decide) (by decide) hok.a.1 hok.a.2
       have H6 := Hd c6
       have H11 := Hd c11
       have H25 := Hd c25
       have H2 := Hd c2
       have H13 := Hd c13
       have H22 := Hd c22
       clear c6 c11 c25 c2 c13 c22
       obtain ⟨g0, g1, g2, g3, g4, g5, g6, g7⟩ := cells8 HT.out
       go_wp2_with fail
       go_quiet ((first | (with_reducible exact Calls.quiet_of_same (H6.out _)) | (with_reducible exact Calls.quiet_of_same (H11.out _)) | (with_reducible exact Calls.quiet_of_same (H25.out _))))
       clear g0 g1 g2 g3 g4 g5 g6 g7
       replace HT : Hid (Arr .u32 (wr.drewN nq) T 45 s'.list) := Hd (HT.out.drewN nq)
       replace HA : Hid (Arr .u32 (wr.drewN nq) (w.heap.size + 1 + 1 + 1) 51 ws) := Hd (HA.out.drewN nq)
       replace HII : Hid (MixInv w (wr.drewN nq) st) := Hd (HII.out.drewN nq)
       generalize wr.drewN nq = W5 at *
       clear nq
       obtain ⟨g0, g1, g2, g3, g4, g5, g6, g7⟩ := cells8 HT.out
       have ek : W5.cell? ⟨w.heap.size + 1, n, none⟩ = some (.int .u32 (nth consts n)) := HII.out.k.cell n hlt
       have ew : W5.cell? ⟨w.heap.size + 1 + 1 + 1, n, none⟩ = some (.int .u32 (nth ws n)) := HA.out.cell n (by omega)
       go_wp2_with fail
       go_quiet (fail)
       clear g0 g1 g2 g3 g4 g5 g6 g7 ek ew
       replace HT : Hid (Arr .u32 (W5.drewN nq) T 45 s'.list) := Hd (HT.out.drewN nq)
       replace HA : Hid (Arr .u32 (W5.drewN nq) (w.heap.size + 1 + 1 + 1) 51 ws) := Hd (HA.out.drewN nq)
       replace HII : Hid (MixInv w (W5.drewN nq) st) := Hd (HII.out.drewN nq)
       generalize W5.drewN nq = W6 at *
       clear nq
       obtain ⟨g0, g1, g2, g3, g4, g5, g6, g7⟩ := cells8 HT.out
       go_wp2_with fail
       go_quiet ((first | (with_reducible exact Calls.quiet_of_same (H2.out _)) | (with_reducible exact Calls.quiet_of_same (H13.out _)) | (with_reducible exact Calls.quiet_of_same (H22.out _))))
       clear g0 g1 g2 g3 g4 g5 g6 g7
       replace HT : Hid (Arr .u32 (W6.drewN nq) T 45 s'.list) := Hd (HT.out.drewN nq)
       replace HA : Hid (Arr .u32 (W6.drewN nq) (w.heap.size + 1 + 1 + 1) 51 ws) := Hd (HA.out.drewN nq)
       replace HII : Hid (MixInv w (W6.drewN nq) st) := Hd (HII.out.drewN nq)
       generalize W6.drewN nq = W7 at *
       clear nq
       obtain ⟨g0, g1, g2, g3, g4, g5, g6, g7⟩ := cells8 HT.out
       obtain ⟨r0, r1, r2, r3, r4, r5, r6, r7⟩ := frozen8 HT.out
       go_wp2_with fail
       go_roundw
       case rel =>
        refine ⟨n + 1, by omega, by go_num, ?_, other8 HA.out (by omega) _ _ _ _ _ _ _ _, HII.out.set8 hT _ _ _ _ _ _ _ _⟩
        rw [HN.out, step_list]
        exact set8 HT.out rfl _ _ _ _ _ _ _ _
       case measure => simp [intOf]; omega
      ·obtain rfl : n = 64 := by omega
       rw [show ((64 : Nat) : Int) = (64 : Int) from rfl]
       have HB : Hid (blockF st (bytesOf s) = addTo st (St.steps consts ws (St.of st) 64).list 8) := by
        unfold blockF
        rw [← HWS.out]
        rfl
       obtain ⟨xs, hxs⟩ : ∃ xs, xs = (St.steps consts ws (St.of st) 64).list := ⟨_, rfl⟩
       have hxl : xs.length = 8 := by rw [hxs]; rfl
       rw [← hxs] at HB hAT
       clear hxs HN hn hlt hok ha
       obtain ⟨hh, hk0, hr0, hg0⟩ := hi
       have HH := Hd hh
       have HR := Hd hr0
       have HGG := Hd hg0
       have HAT := Hd hAT
       clear hh hk0 hr0 hg0 hAT
       go_wp2
       go_loopw [20] (fun vi wq => ∃ k : Nat, k ≤ 8 ∧ vi = .int .i64 k ∧ Arr .u32 wq w.heap.size 45 (addTo st xs k) ∧ Arr .u32 wq T 45 xs ∧ Arr .u32 wq (w.heap.size + 1 + 1) 45 (List.replicate 8 0) ∧ w.grownBy wq none) (fun vi _ => 8 - (intOf vi).toNat)
       case atStart => exact ⟨0, by omega, rfl, HH.out, HAT.out, HR.out, HGG.out⟩
       case round =>
        clear HH HR HGG HAT
        obtain ⟨k, hk, rfl, hA, hL, hR0, hg2⟩ := hrel
        by_cases hlt : k < 8
        ·have HN : Hid (addTo st xs (k + 1) = (addTo st xs k).set k ((nth (addTo st xs k) k + nth xs k) % 4294967296)) := rfl
         have hln : (addTo st xs k).length = 8 := by rw [addTo_len, hs8]
         obtain ⟨ys, hys⟩ : ∃ ys, ys = addTo st xs k := ⟨_, rfl⟩
         rw [← hys] at hA HN hln
         clear hys
         have c0 : wr.cell? ⟨w.heap.size, k, none⟩ = some (.int .u32 (nth ys k)) := hA.cell k (by omega)
         have c1 : wr.cell? ⟨T, k, none⟩ = some (.int .u32 (nth xs k)) := hL.cell k (by omega)
         have fr := hA.frozen k
         have HA := Hd hA
         have HL := Hd hL
         have HR0 := Hd hR0
         clear hA hL hR0
         have n0 : (0 : Int) ≤ (k : Int) := by omega
         have n1 : (k : Int) < 8 := by omega
         have n2 : (k : Int).toNat = k := by omega
         go_wp2
         go_still_tail 9, (by kernel_rfl)
         go_wp2
         go_roundw
         case rel =>
          refine ⟨k + 1, by omega, by go_num, ?_, Arr.drew (HL.out.other (by simp; omega) _), Arr.drew (HR0.out.other (by simp; omega) _), gb_drew (gb_set hg2 (.inl (Nat.le_refl _)) _)⟩
          rw [HN.out]
          exact Arr.drew (HA.out.set _ _)
         case measure => simp [intOf]; omega
        ·obtain rfl : k = 8 := by omega
         rw [← HB.out] at hA
         have hbl : (blockF st (bytesOf s)).length = 8 := by rw [blockF_len, hs8]
         clear hL hk hlt
         obtain ⟨bl, hbl2⟩ : ∃ bl, bl = blockF st (bytesOf s) := ⟨_, rfl⟩
         rw [← hbl2] at hA hbl
         have HBL2 := Hd hbl2
         clear hbl2
         obtain ⟨g0, g1, g2, g3, g4, g5, g6, g7⟩ := cells8' hA hbl
         obtain ⟨z0, z1, z2, z3, z4, z5, z6, z7⟩ := cells8' hR0 (by simp)
         obtain ⟨r0, r1, r2, r3, r4, r5, r6, r7⟩ := frozen8 hR0
         have HA := Hd hA
         have HR0 := Hd hR0
         have HG2 := Hd hg2
         clear hA hR0 hg2
         go_wp2
         have hfin := set8 HR0.out (by simp) (nth bl 0) (nth bl 1) (nth bl 2) (nth bl 3) (nth bl 4) (nth bl 5) (nth bl 6) (nth bl 7)
         have hgf : w.grownBy ((((((((wr.setCell ⟨w.heap.size + 1 + 1, 0, none⟩ (.int .u32 (nth bl 0))).setCell ⟨w.heap.size + 1 + 1, 1, none⟩ (.int .u32 (nth bl 1))).setCell ⟨w.heap.size + 1 + 1, 2, none⟩ (.int .u32 (nth bl 2))).setCell ⟨w.heap.size + 1 + 1, 3, none⟩ (.int .u32 (nth bl 3))).setCell ⟨w.heap.size + 1 + 1, 4, none⟩ (.int .u32 (nth bl 4))).setCell ⟨w.heap.size + 1 + 1, 5, none⟩ (.int .u32 (nth bl 5))).setCell ⟨w.heap.size + 1 + 1, 6, none⟩ (.int .u32 (nth bl 6))).setCell ⟨w.heap.size + 1 + 1, 7, none⟩ (.int .u32 (nth bl 7))) none := gb8 HG2.out (by omega) _ _ _ _ _ _ _ _
         rw [list8 bl hbl] at hfin
         have hsz : (Tryd.prog.info? 45).map (·.size) = some (nums .u32 bl).toArray.size := by
          have e1 : (Tryd.prog.info? 45).map (·.size) = some 8 := by kernel_rfl
          rw [e1]; simp [nums, hbl]
         refine bodyPost_ret (v := .agg (nums .u32 bl).toArray) (results_cell_row Tryd.results27 _ _ (w.heap.size + 1 + 1) 45 (nums .u32 bl).toArray (0, 0) _ rfl hfin Tryd.underlying45 rfl hsz) rfl ⟨?_, ?_⟩
         ·rw [HBL2.out]
         ·exact gb_to_below hgf
section
variable {P : Program} {ops : Array Oper} {rest : List Oper} {o : Oper} {a : Act} {W : World} {Q : Exit → Act → World → Prop}
theorem gate_op (op : Op) (_h : o.op = op) (h : wpList P ops Q (o :: rest) a W) : wpList P ops Q (o :: rest) a W := h
theorem step_append {K : Act → World → Prop} {E : Prop} (hgd : o.guard = none) (s x : Operand) (t tx : TypeId) (ho : o.op = .call { callee := .builtin .append, args := #[s, x], argTypes := #[t, tx] }) (e : TypeId) (bytes : Nat)
  (ht : P.underlying t = some (.slice e)) {k : IntKind} (hinfo : (P.info? e).map (fun i => (i.zero, i.size, i.bytes)) = some (some (.int k 0), 1, bytes)) {base : Nat} (v : Value) (xs : List Int) (hs : a.eval s = v) (hown : OwnC k base W v xs)
  (xv : Value) (hx : a.eval x = xv) (ys : List Int) (hsrc : Src P 1 tx xv ys.length (nums k ys) W) (hbytes : (xs.length + ys.length) * bytes ≤ 140737488355328) (hmax : xs.length + ys.length ≤ 140737488355328) (hbase : base ≤ W.heap.size)
  (h : ∀ v' w', OwnC k base w' v' (xs ++ ys) → W.grownBy w' v.ownBlock → (∀ g, v'.ownBlock = some g → v.ownBlock = some g ∨ W.heap.size ≤ g) → K (a.put o.dst v') w') :
  if Region.wanted o (yielded ops a.tmps) = true then Oper.wp P o a W K Q else E := by
 have hw : Region.wanted o (yielded ops a.tmps) = true := by simp [Region.wanted, hgd]
 rw [if_pos hw]
 obtain ⟨v', w', hr, h2, h3, h4⟩ := hown.append (P := P) t tx o.type e bytes ht hinfo xv ys hsrc hbytes hmax hbase
 unfold Oper.wp execOp
 simp only [ho, resolve, invoke, builtin, Sem.run_bind, Sem.run_pure, Result.andThen_ok, List.map_toArray, List.map_cons, List.map_nil, hs, hx, hr]
 exact h v' w' h2 h3 h4
end
def ConPost (w : World) (e : Ending) (w' : World) : Prop := e = .returned (.agg (nums .u32 consts).toArray) ∧ Below w.heap.size w w'
theorem info39 : (Tryd.prog.info? 51).map (·.size) = some (nums .u32 consts).toArray.size := by kernel_rfl
theorem one_nums (k : IntKind) (l : List Int) : (nums k l).toArray.all (·.oneCell') = true := Array.all_eq_true_iff_forall_mem.2 (fun v hv => by
  rw [List.mem_toArray] at hv
  obtain ⟨_, _, rfl⟩ := List.mem_map.1 hv
  rfl)
set_option maxHeartbeats 8000000 in
set_option maxRecDepth 100000 in
theorem constants_calls (w : World) : Calls Tryd.prog 26 #[] w fun e w' => ConPost w e w' := by
 go_enter Tryd.func26, Tryd.ntmps26
 go_wp2_with (((with_reducible refine gate_op (.store 51 (.tmp 0) (.tmp 1)) rfl ?_); refine wpList_store_row rfl 51 (.tmp 0) (.tmp 1) rfl w.heap.size (nums .u32 consts).toArray rfl rfl 51 (nums .u32 (List.replicate 64 0)).toArray (heap_alloc_new _ _) info39 (by simp [nums, consts]) (one_nums _ _) ?_))
 refine bodyPost_ret (v := .agg (nums .u32 consts).toArray) (results_cell_row Tryd.results26 _ _ w.heap.size 51 (nums .u32 consts).toArray (0, 0) _ rfl (setRow_heap _ _ _ _ _ _ (heap_alloc_new _ _)) Tryd.underlying51 rfl info39) rfl ⟨rfl, ?_⟩
 have h := gb_alloc (gb_refl w none) (.cells (nums .u32 (List.replicate 64 0)).toArray 51)
 exact gb_to_below ⟨h.os, h.tape, h.output, by simp, fun k hk hr => (setRow_other _ _ _ _ (by omega)).trans (h.block k hk hr)⟩
theorem agg8 (l : List Int) (h : l.length = 8) : (nums .u32 l).toArray = #[.int .u32 (nth l 0), .int .u32 (nth l 1), .int .u32 (nth l 2), .int .u32 (nth l 3), .int .u32 (nth l 4), .int .u32 (nth l 5), .int .u32 (nth l 6), .int .u32 (nth l 7)] := by
 match l, h with
 | [a, b, c, d, e, f, g, i], _ => rfl
theorem bytesOf_extract (s : ByteArray) (i j : Nat) : bytesOf (s.extract i j) = ((bytesOf s).drop i).take (j - i) := by
 unfold bytesOf
 rw [← List.map_drop, ← List.map_take, ByteArray.data_extract, Array.toList_extract, List.extract_eq_take_drop]
theorem still_load_row {P : Program} {ops : Array Oper} {w : World} {Q : Act → Prop} {o : Oper} {rest : List Oper} {a : Act} (hgd : o.guard = none) (ty : TypeId) (x : Operand) (ho : o.op = .load ty x)
  (g : Nat) (hx : a.eval x = .pointer (some ⟨g, 0, none⟩)) (t : TypeId) (cs : Array Value) (fr : Nat × Nat) (d : TypeDesc) (hg : w.heap[g]? = some (.cells cs t fr))
  (hu : P.underlying ty = some d) (hd : (match d with | .struct _ | .array _ _ => true | _ => false) = true) (hi : (P.info? ty).map (·.size) = some cs.size)
  (h : wpStill P ops w Q rest (a.put o.dst (.agg cs))) : wpStill P ops w Q (o :: rest) a := by
 unfold wpStill
 rw [if_pos (by simp [Region.wanted, hgd])]
 unfold Oper.still execOp
 simp only [ho, hx, Instr.loadAt, Instr.sureAddr, Sem.run_bind, Sem.run_pure, Result.andThen_ok, run_loadVar_row w g t ty cs fr d hg hu hd hi]
 exact ⟨rfl, h⟩
theorem mask32 (x : Int) (h0 : 0 ≤ x) (h1 : x < 4294967296) : bits .and .u32 x 255 = x % 256 :=
 bits_mask .u32 32 (by decide) (fun n h0 h1 => IntWalk.u32_in n (by omega)) 8 (by decide) x h0 (by omega)
def RDigPost (w : World) (s : ByteArray) (e : Ending) (w' : World) : Prop := e = .returned (.string (strOfNums (digestF (bytesOf s)))) ∧ Below w.heap.size w w'
theorem own_made (w : World) (c : Nat) (hc : c ≤ 1000) : OwnC .u8 w.heap.size (w.alloc (.cells (Array.replicate c (.int .u8 0)) 5)) (.slice (some ⟨w.heap.size, 0, none⟩) 0 c) [] := by
 refine .inr ⟨w.heap.size, c, rfl, Nat.le_refl _, by simp, by simp, by simp only [maxLen]; omega, fun j hj => by simp at hj, fun j hj => ⟨?_, ?_⟩⟩
 ·rw [World.cell?_alloc_mark]; simp [hj]
 ·simp only [World.frozen?]; rw [heap_alloc_new]; simp
set_option maxHeartbeats 8000000 in
set_option maxRecDepth 100000 in
theorem rdigest_calls (s : ByteArray) (w : World) (hs : s.size ≤ 1000000000000) :
    Calls Tryd.prog 17 #[.string s] w fun e w' => RDigPost w s e w' := by
  have hmk : ∀ w : World, Sem.run Tryd.prog (Instr.makeSlice 46 (.int .i64 0) (.int .i64 72)) w = .ok (.slice (some ⟨w.heap.size, 0, none⟩) 0 72) (w.alloc (.cells (Array.replicate 72 (.int .u8 0)) 5)) := fun _ => by kernel_rfl
  have hown0 := own_made w 72 (by decide)
  have hg0 := gb_alloc (gb_refl w none) (.cells (Array.replicate 72 (.int .u8 0)) 5)
  go_enter Tryd.func17, Tryd.ntmps17
  go_wp2_with (at_builtin; refine wpl_append (P := Tryd.prog) rfl (.tmp 11) (.tmp 12) 46 46 rfl 5 1 Tryd.underlying46 info5 (base := w.heap.size) (.slice (some ⟨w.heap.size, 0, none⟩) 0 72) [] rfl (hown0.alloc _) _ rfl [128] (src_nums Tryd.underlying46 _ 1 [128] _ (fun j hj => by
      have h := one_cell (w.alloc (.cells (Array.replicate 72 (.int .u8 0)) 5)) .u8 128 5 j hj
      have e : (w.alloc (.cells (Array.replicate 72 (.int .u8 0)) 5)).heap.size = w.heap.size + 1 := by simp
      rw [e] at h
      exact h)) (by simp) (by simp) (by simp; omega) ?_; intro v1 w1 hown1 hg1 hk1)
  have hg1' : w.grownBy w1 none := below_none (gb_alloc hg0 _) hg1 (fun k hk => (hown0.lt k hk).1)
  clear hown0 hg0 hmk hg1 hk1
  go_loopw [3] (fun v wr => ∃ j, j ≤ zpad s.size ∧ OwnC .u8 w.heap.size wr v ([128] ++ List.replicate j 0) ∧ w.grownBy wr none) (fun v _ => 66 - lenV v)
  case atStart => exact ⟨0, by omega, hown1, hg1'⟩
  case round =>
    clear hown1 hg1'
    obtain ⟨j, hj, hown, hg⟩ := hrel
    have hln : (([128] : List Int) ++ List.replicate j 0).length = j + 1 := by simp
    have HLN := Lib.hid hln
    obtain ⟨A, c, rfl⟩ := hown.slice
    rw [hln] at hown ⊢
    clear hln
    have hz := zpad_lt s.size
    by_cases hlt : j < zpad s.size
    · have hne := zpad_mid s.size j hlt
      have t1 : (((s.size : Int) + ((j + 1 : Nat) : Int)) % 64 != 56) = true := by rw [bne_iff_ne]; omega
      have t2 : (((s.size : Int) + ((j : Int) + 1)) % 64 != 56) = true := by rw [bne_iff_ne]; omega
      have HT := Lib.hid hne
      clear hne
      go_wp2_with (at_builtin; refine wpl_append (P := Tryd.prog) rfl (.tmp 21) (.tmp 22) 46 46 rfl 5 1 Tryd.underlying46 info5 (base := w.heap.size) (.slice A (j + 1) c) ([128] ++ List.replicate j 0) rfl (hown.alloc _) _ rfl [0] (src_nums Tryd.underlying46 _ 1 [0] _ (one_cell _ .u8 0 5)) (by rw [HLN.out]; simp; omega) (by rw [HLN.out]; simp; omega) (by have := hg.size; simp; omega) ?_; intro v2 w2 hown2 hg2 hk2)
      have hg2' : w.grownBy w2 none := below_none (gb_alloc hg _) hg2 (fun k hk => (hown.lt k hk).1)
      have hl2 : lenV v2 = j + 1 + 1 := by
        obtain ⟨A', c', rfl⟩ := hown2.slice
        rw [List.length_append, HLN.out]
        rfl
      rw [List.append_assoc, repl_snoc] at hown2
      clear hown hg hg2 hk2
      go_roundw
      case rel => exact ⟨j + 1, by omega, hown2, hg2'⟩
      case measure => rw [hl2]; simp [lenV]; omega
    · obtain rfl : j = zpad s.size := by omega
      have hne := zpad_end s.size
      have t1 : (((s.size : Int) + ((zpad s.size + 1 : Nat) : Int)) % 64 != 56) = false := by rw [bne_eq_false_iff_eq]; omega
      have t2 : (((s.size : Int) + ((zpad s.size : Int) + 1)) % 64 != 56) = false := by rw [bne_eq_false_iff_eq]; omega
      have HT := Lib.hid hne
      clear hne
      have hbl := bytesOf_length s
      obtain ⟨ps, hps⟩ : ∃ ps, ps = strOfNums ([128] ++ List.replicate (zpad s.size) 0) := ⟨_, rfl⟩
      have hpz : ps.size = zpad s.size + 1 := by rw [hps, strOfNums_size, HLN.out]
      obtain ⟨ls, hls⟩ : ∃ ls, ls = strOfNums (be8 (8 * (s.size : Int))) := ⟨_, rfl⟩
      have hlz : ls.size = 8 := by rw [hls, strOfNums_size]; exact fill8_len _ _
      have hd : bytesOf (s ++ ps ++ ls) = padded (bytesOf s) := by
        rw [bytesOf_append, bytesOf_append, hps, hls, bytesOf_strOfNums (isBytes_append (by intro x hx; simp at hx; omega) (by intro x hx; have := List.eq_of_mem_replicate hx; omega)), bytesOf_strOfNums (show IsBytes (be8 (8 * (s.size : Int))) from fill8_bytes _ 8)]
        unfold padded
        rw [hbl, show (8 * (s.size : Int)) = ((s.size * 8 : Nat) : Int) by omega]
        simp
      have HD := Lib.hid hd
      have HS1 : Hid (∀ w', OwnC .u8 w.heap.size w' (.slice A (zpad s.size + 1) c) ([128] ++ List.replicate (zpad s.size) 0) → Sem.run Tryd.prog (convert 46 9 (.slice A (zpad s.size + 1) c)) w' = .ok (.string ps) w') := fun w' h => by
        have hcv := str_of_own (P := Tryd.prog) w' 46 5 9 Tryd.underlying46 Tryd.underlying5 Tryd.underlying9 h
        rw [← hps] at hcv
        exact hcv
      have HO := Lib.hid hown
      have HG := Lib.hid hg
      have HPS := Lib.hid hps
      have HLS := Lib.hid hls
      have q1 : ¬ (s.size + ps.size > 9223372036854775807) := by omega
      have q2 : ¬ (s.size + ps.size + ls.size > 9223372036854775807) := by omega
      have hlong : ∀ w, Calls Tryd.prog 25 #[.int .i64 (8 * (s.size : Int))] w fun e w' => e = .returned (.string ls) ∧ Below w.heap.size w w' := fun w => by
        rw [hls]
        exact long_calls _ w (by omega) (by omega)
      have HLONG := Lib.hid hlong
      clear hlong
      have w8 : IntKind.i64.wrap (8 * (s.size : Int)) = 8 * (s.size : Int) := IntWalk.i64_in _ (by omega)
      clear hd hps hls hown hg hpz hlz hbl
      go_wp2_with fail
      have hcv := HS1.out _ HO.out.drew
      go_region_held3 (fun w' => Sem.run Tryd.prog (convert 46 9 (.slice A (zpad s.size + 1) c)) w' = .ok (.string ps) w') (first | exact hcv | exact hcv2)
        (first | (go_at_call 25; refine (HLONG.out _).mono ?_; rintro e w2 ⟨rfl, hb2⟩; have hcv2 := HS1.out w2 (HO.out.drew.grown (grown_of_below hb2 none) (by simp))))
      have hg2 : w.grownBy w2 none := gb_trans (gb_drew HG.out) (grown_of_below hb2 none)
      have HG2 := Lib.hid hg2
      clear hcv2 hcv hb2 hg2 HO HS1 HG q1 q2 w8 t1 t2 HT hlt hj HLN HLONG
      obtain ⟨al, hal⟩ : ∃ al, al = s ++ ps ++ ls := ⟨_, rfl⟩
      have hd := HD.out
      rw [← hal] at hd ⊢
      have h64 := padded_64 (bytesOf s)
      obtain ⟨d, hde⟩ : ∃ d, d = padded (bytesOf s) := ⟨_, rfl⟩
      obtain ⟨m, hm⟩ : ∃ m, m = (padded (bytesOf s)).length / 64 := ⟨_, rfl⟩
      have HDF : Hid (digestF (bytesOf s) = outs (blk d m) 8) := by rw [hde, hm]; rfl
      have hml : m ≤ 17000000000 := by
        have := padded_len (bytesOf s)
        rw [bytesOf_length] at this
        have := zpad_lt s.size
        omega
      rw [← hm] at h64
      rw [← hde] at h64 hd
      have haz : al.size = 64 * m := by rw [← bytesOf_length, hd]; exact h64
      have HAL := Lib.hid hd
      have HAZ := Lib.hid haz
      have H64 := Lib.hid h64
      clear hal hd hde hm h64 haz HD HPS HLS
      have hinit : ∀ W : World, Arr .u32 (W.alloc (.cells #[.int .u32 1779033703, .int .u32 3144134277, .int .u32 1013904242, .int .u32 2773480762, .int .u32 1359893119, .int .u32 2600822924, .int .u32 528734635, .int .u32 1541459225] 45)) W.heap.size 45 init8 := fun W => by
        show (World.alloc _ _).heap[W.heap.size]? = _
        rw [heap_alloc_new]
        rfl
      have HINIT := Lib.hid hinit
      clear hinit
      obtain ⟨ka, hka⟩ : ∃ ka, ka = (nums .u32 consts).toArray := ⟨_, rfl⟩
      have hcon : ∀ w, Calls Tryd.prog 26 #[] w fun e w' => e = .returned (.agg ka) ∧ Below w.heap.size w w' := fun w => by rw [hka]; exact constants_calls w
      have HKA := Lib.hid hka
      have HCON := Lib.hid hcon
      clear hka hcon
      go_wp2_with fail
      have hA3 := (HINIT.out w2)
      have hg3 := gb_alloc HG2.out (.cells #[.int .u32 1779033703, .int .u32 3144134277, .int .u32 1013904242, .int .u32 2773480762, .int .u32 1359893119, .int .u32 2600822924, .int .u32 528734635, .int .u32 1541459225] 45)
      have hz3 : (w2.alloc (.cells #[.int .u32 1779033703, .int .u32 3144134277, .int .u32 1013904242, .int .u32 2773480762, .int .u32 1359893119, .int .u32 2600822924, .int .u32 528734635, .int .u32 1541459225] 45)).heap.size = w2.heap.size + 1 := by simp
      generalize w2.alloc (.cells #[.int .u32 1779033703, .int .u32 3144134277, .int .u32 1013904242, .int .u32 2773480762, .int .u32 1359893119, .int .u32 2600822924, .int .u32 528734635, .int .u32 1541459225] 45) = W3 at *
      refine (HCON.out _).mono ?_
      rintro e w4 ⟨rfl, hb4⟩
      have hA4 := hA3.below hb4 (by omega)
      have hg4 := gb_below hg3 hb4
      have hz4 : w2.heap.size + 1 ≤ w4.heap.size := by have := hb4.size; omega
      clear hA3 hg3 hb4 hz3
      have hki : (Tryd.prog.info? 51).map (·.size) = some ka.size := by rw [HKA.out]; exact info39
      have hks : (nums .u32 (List.replicate 64 0)).toArray.size = ka.size := by rw [HKA.out]; simp [nums, consts]
      have hk1 : ka.all (·.oneCell') = true := by rw [HKA.out]; exact one_nums _ _
      have HKI := Lib.hid hki
      have HKS := Lib.hid hks
      have HK1 := Lib.hid hk1
      clear hki hks hk1
      go_wp2_with (((with_reducible refine gate_op (.store 51 (.tmp 6) (.tmp 34)) rfl ?_); refine wpList_store_row rfl 51 (.tmp 6) (.tmp 34) rfl w4.heap.size ka rfl rfl 51 (nums .u32 (List.replicate 64 0)).toArray (heap_alloc_new _ _) HKI.out HKS.out HK1.out ?_; generalize hW5 : (World.setRow (w4.alloc _) w4.heap.size ka) = W5))
      have hA5 : Arr .u32 W5 w2.heap.size 45 init8 := by
        rw [← hW5]
        exact (setRow_other _ _ _ _ (by have := hA4.lt; omega)).trans (hA4.alloc _)
      have hK5 : Arr .u32 W5 w4.heap.size 51 consts := by
        rw [← hW5]
        have h := setRow_heap _ w4.heap.size _ ka 51 (0, 0) (heap_alloc_new w4 (.cells (nums .u32 (List.replicate 64 0)).toArray 51))
        rw [HKA.out] at h ⊢
        exact h
      have hg5 : w.grownBy W5 none := by
        rw [← hW5]
        have h := gb_alloc hg4 (.cells (nums .u32 (List.replicate 64 0)).toArray 51)
        exact ⟨h.os, h.tape, h.output, by have := h.size; simp at this ⊢; omega, fun k hk hr => (setRow_other _ _ _ _ (by have := hg4.size; omega)).trans (h.block k hk hr)⟩
      have hne5 : w2.heap.size < w4.heap.size := by omega
      have hww : w.heap.size ≤ w2.heap.size := HG2.out.size
      clear hW5 hA4 hg4 hz4 HG2 HKI HKS HK1 HCON HINIT
      obtain ⟨HH, hHH⟩ : ∃ HH, HH = w2.heap.size := ⟨_, rfl⟩
      obtain ⟨KK, hKK⟩ : ∃ KK, KK = w4.heap.size := ⟨_, rfl⟩
      rw [← hHH] at hA5 hne5 hww ⊢
      rw [← hKK] at hK5 hne5 ⊢
      clear hHH hKK
      go_loopw [7] (fun vi wr => ∃ k : Nat, k ≤ m ∧ vi = .int .i64 (64 * k : Nat) ∧ Arr .u32 wr HH 45 (blk d k) ∧ Arr .u32 wr KK 51 consts ∧ w.grownBy wr none) (fun vi _ => 64 * m + 64 - (intOf vi).toNat)
      case atStart => exact ⟨0, by omega, rfl, hA5, hK5, hg5⟩
      case round =>
        clear hA5 hK5 hg5
        obtain ⟨k, hk, rfl, hA, hK, hg⟩ := hrel
        by_cases hlt : k < m
        · have hln8 := blk_len d k
          have hsm8 := blk_small d k
          have hln8' := blk_len d (k + 1)
          have hmix : ∀ w', Calls Tryd.prog 27 #[.agg #[.int .u32 (nth (blk d k) 0), .int .u32 (nth (blk d k) 1), .int .u32 (nth (blk d k) 2), .int .u32 (nth (blk d k) 3), .int .u32 (nth (blk d k) 4), .int .u32 (nth (blk d k) 5), .int .u32 (nth (blk d k) 6), .int .u32 (nth (blk d k) 7)],
              .string (al.extract (64 * k) (64 * k + 64)), .agg (nums .u32 consts).toArray] w' fun e w'' =>
              e = .returned (.agg #[.int .u32 (nth (blk d (k + 1)) 0), .int .u32 (nth (blk d (k + 1)) 1), .int .u32 (nth (blk d (k + 1)) 2), .int .u32 (nth (blk d (k + 1)) 3), .int .u32 (nth (blk d (k + 1)) 4), .int .u32 (nth (blk d (k + 1)) 5), .int .u32 (nth (blk d (k + 1)) 6), .int .u32 (nth (blk d (k + 1)) 7)]) ∧ Below w'.heap.size w' w'' := fun w' => by
            have h := mixed_calls w' (blk d k) (al.extract (64 * k) (64 * k + 64)) (by rw [ByteArray.size_extract, HAZ.out]; omega) hln8 hsm8
            rw [← agg8 (blk d k) hln8, ← agg8 (blk d (k + 1)) hln8']
            refine h.mono fun e w'' ⟨h1, h2⟩ => ⟨?_, h2⟩
            rw [h1, bytesOf_extract, HAL.out, Nat.add_sub_cancel_left]
            rfl
          have HMIX := Lib.hid hmix
          obtain ⟨bl, hbl⟩ : ∃ bl, bl = blk d (k + 1) := ⟨_, rfl⟩
          obtain ⟨st, hst⟩ : ∃ st, st = blk d k := ⟨_, rfl⟩
          rw [← hst] at hA HMIX hln8
          rw [← hbl] at HMIX hln8'
          have HBLE := Lib.hid hbl
          clear hmix hst hbl hsm8
          obtain ⟨kl, hkl⟩ : ∃ kl, kl = nums .u32 consts := ⟨_, rfl⟩
          rw [← hkl] at HMIX
          have hi39 : (Tryd.prog.info? 51).map (·.size) = some kl.toArray.size := by rw [hkl]; exact info39
          have HKG : Hid (∀ W, Arr .u32 W KK 51 consts → W.heap[KK]? = some (.cells kl.toArray 51 (0, 0))) := fun W h => by rw [hkl]; exact h
          have HI39 := Lib.hid hi39
          clear hi39
          clear hkl
          have HA := Lib.hid hA
          have HK := Lib.hid hK
          have HG := Lib.hid hg
          have n0 : 64 * k + 64 ≤ al.size := by rw [HAZ.out]; omega
          clear hA hK hg
          obtain ⟨i, hi⟩ : ∃ i : Int, i = ((64 * k : Nat) : Int) := ⟨_, rfl⟩
          have n1 : i + 64 ≤ (al.size : Int) := by omega
          have n2 : 0 ≤ i := by omega
          have n3 : i ≤ i + 64 := by omega
          have n4 : i.toNat = 64 * k := by omega
          have n5 : (i + 64).toNat = 64 * k + 64 := by omega
          have n6 : 0 ≤ i + 64 := by omega
          have n7 : i ≤ 1100000000000 := by omega
          have w1 : IntKind.i64.wrap (i + 64) = i + 64 := IntWalk.i64_in _ (by omega)
          rw [← hi]
          have HI := Lib.hid hi
          clear hi
          obtain ⟨g0, g1, g2, g3, g4, g5, g6, g7⟩ := cells8' HA.out hln8
          obtain ⟨r0, r1, r2, r3, r4, r5, r6, r7⟩ := frozen8 HA.out
          have kr := HKG.out _ HK.out
          have KR := Lib.hid kr
          clear kr
          go_wp2_with fail
          refine wp_region_still_tail 7 (by kernel_rfl) (by kernel_rfl) ?_
          simp only [List.take_succ_cons, List.take_zero, List.drop_succ_cons, List.drop_zero]
          iterate 6 still_step
          refine still_load_row rfl 51 (.tmp 6) rfl KK rfl 51 kl.toArray (0, 0) _ KR.out Tryd.underlying51 rfl HI39.out ?_
          refine wpStill_nil ?_
          have HA6 := Lib.hid (Arr.drew HA.out)
          have HK6 := Lib.hid (Arr.drew HK.out)
          have HG6 := Lib.hid (gb_drew HG.out)
          clear g0 g1 g2 g3 g4 g5 g6 g7 r0 r1 r2 r3 r4 r5 r6 r7 HA HK HG KR
          change wpList _ _ _ _ _ wr.drew
          generalize wr.drew = W6 at *
          go_wp2_with fail
          refine (HMIX.out _).mono ?_
          rintro e w7 ⟨rfl, hb7⟩
          have hA7 := HA6.out.below hb7 HA6.out.lt
          obtain ⟨z0, z1, z2, z3, z4, z5, z6, z7⟩ := cells8' hA7 hln8
          obtain ⟨r0, r1, r2, r3, r4, r5, r6, r7⟩ := frozen8 hA7
          have HA7 := Lib.hid hA7
          have HK7 := Lib.hid (HK6.out.below hb7 HK6.out.lt)
          have HG7 := Lib.hid (gb_below HG6.out hb7)
          clear hA7 HA6 HK6 HG6 hb7 HMIX
          go_wp2_with fail
          go_roundw
          case rel =>
            refine ⟨k + 1, by omega, ?_, ?_, other8 HK7.out (by omega) _ _ _ _ _ _ _ _, gb8 HG7.out (by omega) _ _ _ _ _ _ _ _⟩
            · have := HI.out
              congr 1
              omega
            · rw [← HBLE.out]
              have h := set8 HA7.out hln8 (nth bl 0) (nth bl 1) (nth bl 2) (nth bl 3) (nth bl 4) (nth bl 5) (nth bl 6) (nth bl 7)
              rw [list8 bl hln8'] at h
              exact h
          case measure =>
            have := HI.out
            simp [intOf]
            omega
        · obtain rfl : k = m := by omega
          obtain ⟨i, hi⟩ : ∃ i : Int, i = ((64 * k : Nat) : Int) := ⟨_, rfl⟩
          have n1 : decide (i + 64 ≤ (al.size : Int)) = false := by have := HAZ.out; simp; omega
          have n2 : 0 ≤ i := by omega
          have n7 : i ≤ 1100000000000 := by omega
          rw [← hi]
          have HI := Lib.hid hi
          clear hi hlt hk
          have hln8 := blk_len d k
          have hsm8 := blk_small d k
          obtain ⟨st, hst⟩ : ∃ st, st = blk d k := ⟨_, rfl⟩
          rw [← hst] at hA HDF hln8 hsm8
          have HA := Lib.hid hA
          have HG := Lib.hid hg
          have HDF2 := Lib.hid HDF
          clear hst hA hg hK HDF
          go_wp2_with fail
          go_loopw [8, 9] (fun v vi wq => ∃ q : Nat, q ≤ 8 ∧ vi = .int .i64 q ∧ OwnC .u8 (HH + 1) wq v (outs st q) ∧ Arr .u32 wq HH 45 st ∧ w.grownBy wq none) (fun _ vi _ => 8 - (intOf vi).toNat)
          case atStart => exact ⟨0, by omega, rfl, OwnC.nil _ _ _, HA.out, HG.out⟩
          case round =>
            clear HA HG
            obtain ⟨q, hq, rfl, hown, hA, hg⟩ := hrel
            have hlo := outs_len st q
            obtain ⟨A5, c5, rfl⟩ := hown.slice
            rw [hlo] at hown ⊢
            have HLO := Lib.hid hlo
            clear hlo
            by_cases hlt : q < 8
            · have sm := hsm8 q
              have sm0 := sm.1
              have sm1 := sm.2
              have m1 := mask32 (nth st q / 65536) (by omega) (by omega)
              have m2 := mask32 (nth st q / 256) (by omega) (by omega)
              have m3 := mask32 (nth st q) (by omega) (by omega)
              have n3 : (q : Int) < 8 := by omega
              have n4 : (q : Int).toNat = q := by omega
              have n5 : (0 : Int) ≤ (q : Int) := by omega
              have hce : wr.cell? ⟨HH, q, none⟩ = some (.int .u32 (nth st q)) := hA.cell q (by omega)
              have hlt2 := hA.lt
              have HO4 := Lib.hid (out4_small sm)
              have x0 : IntKind.u8.wrap (nth st q / 16777216) = nth st q / 16777216 := by rw [IntKind.wrap_u8]; omega
              have x1 : IntKind.u8.wrap (nth st q / 65536 % 256) = nth st q / 65536 % 256 := by rw [IntKind.wrap_u8]; omega
              have x2 : IntKind.u8.wrap (nth st q / 256 % 256) = nth st q / 256 % 256 := by rw [IntKind.wrap_u8]; omega
              have x3 : IntKind.u8.wrap (nth st q % 256) = nth st q % 256 := by rw [IntKind.wrap_u8]; omega
              have hsrc : Src Tryd.prog 1 46 (.slice (some ⟨wr.heap.size, 0, none⟩) 4 4) [nth st q / 16777216, nth st q / 65536 % 256, nth st q / 256 % 256, nth st q % 256].length (nums .u8 [nth st q / 16777216, nth st q / 65536 % 256, nth st q / 256 % 256, nth st q % 256])
                  (wr.alloc (.cells #[.int .u8 (nth st q / 16777216), .int .u8 (nth st q / 65536 % 256), .int .u8 (nth st q / 256 % 256), .int .u8 (nth st q % 256)] 5)).drew :=
                src_nums Tryd.underlying46 ⟨wr.heap.size, 0, none⟩ 4 [nth st q / 16777216, nth st q / 65536 % 256, nth st q / 256 % 256, nth st q % 256] _ (four_cells wr .u8 _ _ _ _ 5)
              have HSRC := Lib.hid hsrc
              clear hsrc
              have HO := Lib.hid hown
              have HA := Lib.hid hA
              have HG := Lib.hid hg
              clear sm hown hA hg
              go_wp2_with fail
              go_region_held3 (fun w' => w'.cell? ⟨HH, q, none⟩ = some (.int .u32 (nth st q))) (first | exact hce | exact HCE2.out | go_keep)
                (first | (refine step_append (P := Tryd.prog) rfl (.tmp 54) (.tmp 77) 46 46 rfl 5 1 Tryd.underlying46 info5 (base := HH + 1) (.slice A5 (4 * q) c5) (outs st q) rfl (HO.out.alloc _).drew (.slice (some ⟨wr.heap.size, 0, none⟩) 4 4) rfl [nth st q / 16777216, nth st q / 65536 % 256, nth st q / 256 % 256, nth st q % 256] HSRC.out (by rw [HLO.out]; simp; omega) (by rw [HLO.out]; simp; omega) (by simp; omega) ?_; intro v6 w6 hown6 hg6 hk6; have HCE2 := Lib.hid (((HA.out.alloc _).drew.grown hg6 HO.out.ne).cell q (by omega))))
              have hown6' := hown6
              rw [← HO4.out] at hown6'
              have hA6 : Arr .u32 w6 HH 45 st := ((HA.out.alloc _).drew.grown hg6 HO.out.ne)
              have hg6' : w.grownBy w6 none := below_none (gb_drew (gb_alloc HG.out _)) hg6 (fun k hk => by have := (HO.out.lt k hk).1; omega)
              clear hown6 hg6 hk6 HO HA HG HCE2
              go_wp2_with fail
              go_roundw
              case rel => exact ⟨q + 1, by omega, by go_num, hown6', hA6, hg6'⟩
              case measure => simp [intOf]; omega
            · obtain rfl : q = 8 := by omega
              rw [show 4 * 8 = 32 from rfl] at *
              have hcv := str_of_own (P := Tryd.prog) wr 46 5 9 Tryd.underlying46 Tryd.underlying5 Tryd.underlying9 hown
              rw [← HDF2.out] at hcv
              have HGE := Lib.hid hg
              clear hown hg hA
              go_wp2_with fail
              go_ret
              exact ⟨rfl, gb_to_below HGE.out⟩
theorem dig_abc : strOfNums (digestF [97, 98, 99]) = ⟨#[186, 120, 22, 191, 143, 1, 207, 234, 65, 65, 64, 222, 93, 174, 34, 35, 176, 3, 97, 163, 150, 23, 122, 156, 180, 16, 255, 97, 242, 0, 21, 173]⟩ := by
 have h : digestF [97, 98, 99] = [186, 120, 22, 191, 143, 1, 207, 234, 65, 65, 64, 222, 93, 174, 34, 35, 176, 3, 97, 163, 150, 23, 122, 156, 180, 16, 255, 97, 242, 0, 21, 173] := by decide +kernel
 rw [h]
 rfl
def AwakePost (w : World) (e : Ending) (w' : World) : Prop := e = .returned (.bool true) ∧ Below w.heap.size w w'
def HoldsRounds (w : World) : Prop := ∀ j, j < 64 → w.cell? ⟨0, j, none⟩ = some (.int .u32 (nth consts j))
set_option maxHeartbeats 8000000 in
set_option maxRecDepth 100000 in
theorem awake_calls (w : World) (hR : HoldsRounds w) : Calls Tryd.prog 13 #[] w fun e w' => AwakePost w e w' := by
 have hd : ∀ w, HoldsRounds w → Calls Tryd.prog 14 #[.string ⟨#[97, 98, 99]⟩] w fun e w' => e = .returned (.string ⟨#[186, 120, 22, 191, 143, 1, 207, 234, 65, 65, 64, 222, 93, 174, 34, 35, 176, 3, 97, 163, 150, 23, 122, 156, 180, 16, 255, 97, 242, 0, 21, 173]⟩) ∧ Below w.heap.size w w' := fun w h => by
  refine (digest_calls ⟨#[97, 98, 99]⟩ w (by decide) h).mono fun e w' ⟨h1, h2⟩ => ⟨?_, h2⟩
  rw [h1]
  have hb : bytesOf ⟨#[97, 98, 99]⟩ = [97, 98, 99] := by decide
  rw [hb, dig_abc]
 have HD := Hd hd
 clear hd
 go_enter Tryd.func13, Tryd.ntmps13
 go_wp2_with fail
 refine (HD.out _ hR).mono ?_
 rintro e w2 ⟨rfl, hb⟩
 have HB := Hd hb
 clear hb
 go_wp2_with fail
 go_ret
 exact ⟨rfl, HB.out⟩
def LawPost (w : World) (e : Ending) (w' : World) : Prop := e = .returned (.bool true) ∧ Below w.heap.size w w'
open Go.Shelf in
def renI : Ren := { f := fun x => match x with | 171 => 16 | 243 => 24 | 246 => 35 | 283 => 44 | 284 => 45 | 285 => 46 | 286 => 47 | 129 => 57 | 317 => 56 | 318 => 58 | 319 => 59 | 320 => 60 | 337 => 65 | 338 => 66 | n => n, t := fun x => match x with | 3 => 3 | 9 => 9 | 2 => 2 | 4 => 4 | 171 => 74 | 0 => 0 | 53 => 62 | 37 => 46 | 5 => 5 | 173 => 77 | 212 => 89 | 51 => 44 | 20 => 20 | 213 => 90 | 46 => 50 | 232 => 107 | 233 => 108 | n => n, g := fun x => match x with | 17 => 1 | 18 => 2 | 19 => 3 | n => n }
open Go.Shelf in
theorem laysI : LaysM.n171 Tryd.prog renI where
 mixed := by kernel_rfl
 f129 := Tryd.func57.trans (by kernel_rfl)
 f171 := Tryd.func16.trans (by kernel_rfl)
 f243 := Tryd.func24.trans (by kernel_rfl)
 f246 := Tryd.func35.trans (by kernel_rfl)
 f283 := Tryd.func44.trans (by kernel_rfl)
 f284 := Tryd.func45.trans (by kernel_rfl)
 f285 := Tryd.func46.trans (by kernel_rfl)
 f286 := Tryd.func47.trans (by kernel_rfl)
 f317 := Tryd.func56.trans (by kernel_rfl)
 f318 := Tryd.func58.trans (by kernel_rfl)
 f319 := Tryd.func59.trans (by kernel_rfl)
 f320 := Tryd.func60.trans (by kernel_rfl)
 f337 := Tryd.func65.trans (by kernel_rfl)
 f338 := Tryd.func66.trans (by kernel_rfl)
 t0 := Tryd.underlying0
 a0 := Tryd.isAgg0
 z0 := Tryd.sizeOf0
 v0 := Tryd.zeroValue0
 t2 := Tryd.underlying2
 a2 := Tryd.isAgg2
 z2 := Tryd.sizeOf2
 v2 := Tryd.zeroValue2
 t3 := Tryd.underlying3
 a3 := Tryd.isAgg3
 z3 := Tryd.sizeOf3
 v3 := Tryd.zeroValue3
 t4 := Tryd.underlying4
 a4 := Tryd.isAgg4
 z4 := Tryd.sizeOf4
 v4 := Tryd.zeroValue4
 t5 := Tryd.underlying5
 a5 := Tryd.isAgg5
 z5 := Tryd.sizeOf5
 v5 := Tryd.zeroValue5
 t9 := Tryd.underlying9
 a9 := Tryd.isAgg9
 z9 := Tryd.sizeOf9
 v9 := Tryd.zeroValue9
 t20 := Tryd.underlying20
 a20 := Tryd.isAgg20
 z20 := Tryd.sizeOf20
 v20 := Tryd.zeroValue20
 t37 := Tryd.underlying46
 a37 := Tryd.isAgg46
 z37 := Tryd.sizeOf46
 v37 := Tryd.zeroValue46
 t46 := Tryd.underlying50
 a46 := Tryd.isAgg50
 z46 := Tryd.sizeOf50
 v46 := Tryd.zeroValue50
 t51 := Tryd.underlying44
 a51 := Tryd.isAgg44
 z51 := Tryd.sizeOf44
 v51 := Tryd.zeroValue44
 t53 := Tryd.underlying62
 a53 := Tryd.isAgg62
 z53 := Tryd.sizeOf62
 v53 := Tryd.zeroValue62
 t171 := Tryd.underlying74
 a171 := Tryd.isAgg74
 z171 := Tryd.sizeOf74
 v171 := Tryd.zeroValue74
 t173 := Tryd.underlying77
 a173 := Tryd.isAgg77
 z173 := Tryd.sizeOf77
 v173 := Tryd.zeroValue77
 t212 := Tryd.underlying89
 a212 := Tryd.isAgg89
 z212 := Tryd.sizeOf89
 v212 := Tryd.zeroValue89
 t213 := Tryd.underlying90
 a213 := Tryd.isAgg90
 z213 := Tryd.sizeOf90
 t232 := Tryd.underlying107
 a232 := Tryd.isAgg107
 z232 := Tryd.sizeOf107
 v232 := Tryd.zeroValue107
 t233 := Tryd.underlying108
 a233 := Tryd.isAgg108
 z233 := Tryd.sizeOf108
 v233 := Tryd.zeroValue108
 g17 := by kernel_rfl
 g18 := by kernel_rfl
 g19 := by kernel_rfl
 i0 := by kernel_rfl
 i2 := by kernel_rfl
 i3 := by kernel_rfl
 i4 := by kernel_rfl
 i5 := by kernel_rfl
 i9 := by kernel_rfl
 i20 := by kernel_rfl
 i37 := by kernel_rfl
 i46 := by kernel_rfl
 i51 := by kernel_rfl
 i53 := by kernel_rfl
 i171 := by kernel_rfl
 i173 := by kernel_rfl
 i212 := by kernel_rfl
 i232 := by kernel_rfl
 i233 := by kernel_rfl
 m17 := by kernel_rfl
 m18 := by kernel_rfl
 m19 := by kernel_rfl
structure Tabs (w : World) : Prop where
 pow : Lib.TabIs Tryd.prog w "internal/strconv.uint64pow10" .u64 Lib.pow10Tab
 rounds : HoldsRounds w
 size : 2 ≤ w.heap.size
theorem gPow : Tryd.prog.globalNamed "internal/strconv.uint64pow10" = some 1 := by kernel_rfl
theorem Tabs.below {w w1 : World} (h : Tabs w) (hb : Below w.heap.size w w1) : Tabs w1 :=
 ⟨var?_below hb gPow (by have := h.size; omega) h.pow, fun j hj => (hb.cell (p := ⟨0, j, none⟩) (by have := h.size; show 0 < w.heap.size; omega)).trans (h.rounds j hj), Nat.le_trans h.size hb.size⟩
theorem itoa_calls (w : World) (n : Int) (hT : Tabs w) (h0 : -9223372036854775808 ≤ n) (h1 : n < 9223372036854775808) : Calls Tryd.prog 16 #[.int .i64 n] w fun e w' => SPost w (Lib.itoa n) e w' := by
 refine (Any.strconv_Itoa laysI n h0 (by omega) w hT.pow).mono ?_
 rintro e w' ⟨rfl, k, os, rfl⟩
 exact ⟨rfl, Lib.below_grow _ _ (Nat.le_refl _) k os⟩
def packF : List (List Int) → List Int
 | [] => []
 | x :: xs => be8 (x.length : Nat) ++ x ++ packF xs
theorem be8_len (n : Int) : (be8 n).length = 8 := fill8_len n 8
theorem packF_append (xs ys : List (List Int)) : packF (xs ++ ys) = packF xs ++ packF ys := by
 induction xs with
 | nil => rfl
 | cons x xs ih => simp [packF, ih, List.append_assoc]
def nthS (ls : List ByteArray) (j : Nat) : ByteArray := ls.getD j ByteArray.empty
def RdS (w : World) (v : Value) (ls : List ByteArray) : Prop := ∃ A c, v = .slice A ls.length c ∧ (0 < ls.length → ∃ g o, A = some ⟨g, o, none⟩ ∧ ∀ j, j < ls.length → w.cell? ⟨g, o + j, none⟩ = some (.string (nthS ls j)))
theorem RdS.below {w w1 : World} {v : Value} {ls : List ByteArray} (h : RdS w v ls) (hb : Below w.heap.size w w1) : RdS w1 v ls := by
 obtain ⟨A, c, hv, hc⟩ := h
 refine ⟨A, c, hv, fun hp => ?_⟩
 obtain ⟨g, o, hA, hcell⟩ := hc hp
 exact ⟨g, o, hA, fun j hj => (hb.cell (World.block_lt_of_cell? w _ (hcell j hj))).trans (hcell j hj)⟩
theorem take_succ_map (ls : List ByteArray) (k : Nat) (h : k < ls.length) : (ls.take (k + 1)).map bytesOf = (ls.take k).map bytesOf ++ [bytesOf (nthS ls k)] := by
 rw [List.take_succ_eq_append_getElem h, List.map_append]
 simp [nthS, List.getD_eq_getElem?_getD, List.getElem?_eq_getElem h]
theorem byteCells_nums (s : ByteArray) : byteCells s = nums .u8 (bytesOf s) := by
 unfold byteCells nums bytesOf
 rw [List.map_map]
 rfl
def FarPost (w : World) (ls : List ByteArray) (m : Int) (e : Ending) (w' : World) : Prop := ∃ b : Bool, e = .returned (.bool b) ∧ w = w' ∧ (b = false → ls.length ≤ 20 ∧ ∀ j, j < ls.length → ((nthS ls j).size : Int) ≤ m)
set_option maxHeartbeats 8000000 in
set_option maxRecDepth 100000 in
theorem far_calls (w : World) (v : Value) (ls : List ByteArray) (m : Int) (h : RdS w v ls) (hm : ls.length ≤ 9223372036854775807) (hsz : ∀ j, j < ls.length → (nthS ls j).size ≤ 9223372036854775807) :
  Calls Tryd.prog 4 #[v, .int .i64 m] w fun e w' => FarPost w ls m e w' := by
 obtain ⟨A, c, rfl, hc⟩ := h
 by_cases h20 : 20 < ls.length
 ·have t : decide ((ls.length : Int) > 20) = true := by simp; omega
  go_enter Tryd.func4, Tryd.ntmps4
  go_wp2
  go_ret
  exact ⟨true, rfl, rfl, by simp⟩
 ·have t : decide ((ls.length : Int) > 20) = false := by simp; omega
  have HC := Hd hc
  clear hc
  go_enter Tryd.func4, Tryd.ntmps4
  go_wp2
  go_loop [5] (fun v => ∃ k : Nat, k ≤ ls.length ∧ v = .int .i64 k ∧ ∀ j, j < k → ((nthS ls j).size : Int) ≤ m) (fun v => ls.length - (intOf v).toNat)
  case atStart => exact ⟨0, by omega, rfl, fun j hj => by omega⟩
  case round =>
   obtain ⟨k, hk, rfl, hall⟩ := hrel
   have HALL := Hd hall
   clear hall
   by_cases hlt : k < ls.length
   ·obtain ⟨g, o, rfl, hcell⟩ := HC.out (by omega)
    have hce := hcell k hlt
    have hz := hsz k hlt
    clear hcell
    obtain ⟨x, hx⟩ : ∃ x, x = nthS ls k := ⟨_, rfl⟩
    rw [← hx] at hce hz
    have HX := Hd hx
    clear hx
    have n1 : (k : Int) < (ls.length : Int) := by omega
    have n2 : (k : Int).toNat = k := by omega
    by_cases hs : (x.size : Int) > m
    ·have t2 : decide ((x.size : Int) > m) = true := by simpa using hs
     go_wp2
     go_ret
     exact ⟨true, rfl, rfl, by simp⟩
    ·have t2 : decide ((x.size : Int) > m) = false := by simpa using hs
     go_wp2
     go_round
     case rel =>
      refine ⟨k + 1, by omega, by go_num, fun j hj => ?_⟩
      by_cases hjk : j = k
      ·subst hjk
       rw [← HX.out]
       omega
      ·exact HALL.out j (by omega)
     case measure => simp [intOf]; omega
   ·obtain rfl : k = ls.length := by omega
    go_wp2
    go_ret
    exact ⟨false, rfl, rfl, fun _ => ⟨by omega, HALL.out⟩⟩
def PackPost (w : World) (ls : List ByteArray) (e : Ending) (w' : World) : Prop := e = .returned (.string (strOfNums (packF (ls.map bytesOf)))) ∧ Below w.heap.size w w'
theorem packF_snoc (xs : List (List Int)) (x : List Int) : packF (xs ++ [x]) = packF xs ++ be8 (x.length : Nat) ++ x := by
 rw [packF_append]
 simp [packF]
theorem packF_take_le (ls : List ByteArray) (k : Nat) : (packF ((ls.take k).map bytesOf)).length ≤ (packF (ls.map bytesOf)).length := by
 conv => rhs; rw [← List.take_append_drop k ls, List.map_append, packF_append, List.length_append]
 omega
set_option maxHeartbeats 8000000 in
set_option maxRecDepth 100000 in
theorem pack_calls (w : World) (v : Value) (ls : List ByteArray) (h : RdS w v ls) (hm : (packF (ls.map bytesOf)).length ≤ 1000000000000) (hn : ls.length ≤ 1000000000000) :
  Calls Tryd.prog 15 #[v] w fun e w' => PackPost w ls e w' := by
 obtain ⟨A, c, rfl, hc⟩ := h
 have HC := Hd hc
 have HM := Hd hm
 clear hc hm
 go_enter Tryd.func15, Tryd.ntmps15
 go_wp2
 go_loopw [3, 8] (fun v vi wr => ∃ k : Nat, k ≤ ls.length ∧ vi = .int .i64 k ∧ OwnC .u8 w.heap.size wr v (packF ((ls.take k).map bytesOf)) ∧ w.grownBy wr none) (fun _ vi _ => ls.length - (intOf vi).toNat)
 case atStart => exact ⟨0, by omega, rfl, OwnC.nil _ _ _, gb_refl _ _⟩
 case round =>
  obtain ⟨k, hk, rfl, hown, hg⟩ := hrel
  by_cases hlt : k < ls.length
  ·obtain ⟨g, o, rfl, hcell⟩ := HC.out (by omega)
   have hce := hg.cell (hcell k hlt) (by simp)
   clear hcell
   have hsn := take_succ_map ls k hlt
   have hle := packF_take_le ls (k + 1)
   obtain ⟨x, hx⟩ : ∃ x, x = nthS ls k := ⟨_, rfl⟩
   rw [← hx] at hce hsn
   clear hx
   rw [hsn, packF_snoc, bytesOf_length] at hle
   have HSN : Hid (packF ((ls.take (k + 1)).map bytesOf) = packF ((ls.take k).map bytesOf) ++ be8 ((x.size : Nat) : Int) ++ bytesOf x) := by
    unfold Hid
    rw [hsn, packF_snoc, bytesOf_length]
   obtain ⟨ps, hps⟩ : ∃ ps, ps = packF ((ls.take k).map bytesOf) := ⟨_, rfl⟩
   rw [← hps] at hown HSN hle
   have hpl : ps.length + 8 + x.size ≤ 1000000000000 := by
    have := HM.out
    simp only [List.length_append, be8_len, bytesOf_length] at hle
    omega
   clear hps hsn hle
   have n1 : (k : Int) < (ls.length : Int) := by omega
   have n2 : (k : Int).toNat = k := by omega
   obtain ⟨A0, c0, rfl⟩ := hown.slice
   have HO := Hd hown
   have HG := Hd hg
   clear hown hg
   go_wp2_with fail
   refine (size_calls ((x.size : Int)) _ (by omega) (by omega)).mono ?_
   rintro e w2 ⟨B, rfl, hB, hAB, hgB⟩
   have hown2 := HO.out.grown hgB (by simp)
   have hg2 := gb_trans HG.out hgB
   have hw2 : w.heap.size ≤ w2.heap.size := hg2.size
   have hsrc : Src Tryd.prog 1 46 (.slice (some ⟨B, 0, none⟩) 8 8) (be8 (x.size : Int)).length (nums .u8 (be8 (x.size : Int))) w2 := by
    have h := src_nums (P := Tryd.prog) (k := .u8) Tryd.underlying46 ⟨B, 0, none⟩ 8 (be8 (x.size : Int)) w2 (fun j hj => by rw [add_zero']; exact hAB.cell j hj)
    rw [be8_len] at h ⊢
    exact h
   have hl8 := be8_len (x.size : Int)
   have HL8 := Hd hl8
   have HSRC := Hd hsrc
   have HOWN2 := Hd hown2
   have HG2 := Hd hg2
   clear HO HG hAB hgB hl8 hsrc hown2 hg2
   have hsz2 := bytesOf_length x
   have HBX := Hd hsz2
   clear hsz2
   have tok1 : True := trivial
   go_wp2_with (first
    | (at_builtin; have _t := tok1; refine wpl_append (P := Tryd.prog) rfl (.tmp 12) (.tmp 15) 46 46 rfl 5 1 Tryd.underlying46 info5 (base := w.heap.size) (.slice A0 ps.length c0) ps rfl HOWN2.out (.slice (some ⟨B, 0, none⟩) 8 8) rfl (be8 (x.size : Int)) HSRC.out (by rw [HL8.out]; omega) (by rw [HL8.out]; omega) hw2 ?_; intro v3 w3 hown3 hg3 hk3; have HOWN3 := Hd hown3; have HG3 := Hd (below_none HG2.out hg3 (fun k hk => (HOWN2.out.lt k hk).1)); clear tok1 hown3 hg3 hk3)
    | (at_builtin; refine wpl_append (P := Tryd.prog) rfl (.tmp 16) (.tmp 17) 46 9 rfl 5 1 Tryd.underlying46 info5 (base := w.heap.size) v3 (ps ++ be8 (x.size : Int)) rfl HOWN3.out (.string x) rfl (bytesOf x) (by rw [HBX.out, ← byteCells_nums]; exact Src.ofString _ Tryd.underlying9 x) (by rw [HBX.out, List.length_append, HL8.out]; omega) (by rw [HBX.out, List.length_append, HL8.out]; omega) HG3.out.size ?_; intro v4 w4 hown4 hg4 hk4; have HOWN4 := Hd hown4; have HG4 := Hd (below_none HG3.out hg4 (fun k hk => (HOWN3.out.lt k hk).1)); clear hown4 hg4 hk4))
   go_roundw
   case rel =>
    refine ⟨k + 1, by omega, by go_num, ?_, HG4.out⟩
    rw [HSN.out]
    exact HOWN4.out
   case measure => simp [intOf]; omega
  ·obtain rfl : k = ls.length := by omega
   rw [List.take_length] at hown
   have hcv := str_of_own (P := Tryd.prog) wr 46 5 9 Tryd.underlying46 Tryd.underlying5 Tryd.underlying9 hown
   have HG := Hd hg
   clear hown hg
   obtain ⟨ps, hps⟩ : ∃ ps, ps = strOfNums (packF (ls.map bytesOf)) := ⟨_, rfl⟩
   rw [← hps] at hcv
   have HPS := Hd hps
   clear hps
   go_wp2
   go_ret
   exact ⟨by rw [← HPS.out]; rfl, gb_to_below HG.out⟩
def OwnS (base : Nat) (w : World) (v : Value) (ls : List ByteArray) : Prop := w.ownsRow base 9 1 v ls.length (ls.map Value.string)
theorem OwnS.slice {base : Nat} {w : World} {v : Value} {ls : List ByteArray} (h : OwnS base w v ls) : ∃ A c, v = .slice A ls.length c := by
 rcases h.2 with ⟨rfl, h0⟩ | ⟨g, cap, cur, rfl, _⟩
 ·exact ⟨none, 0, by rw [h0]⟩
 ·exact ⟨_, _, rfl⟩
theorem RdS.nil (w : World) : RdS w (.slice none 0 0) [] := ⟨none, 0, rfl, fun h => absurd h (by simp)⟩
set_option maxHeartbeats 8000000 in
set_option maxRecDepth 100000 in
theorem rpack_calls (w : World) (v : Value) (ls : List ByteArray) (h : RdS w v ls) (hm : (packF (ls.map bytesOf)).length ≤ 1000000000000) (hn : ls.length ≤ 1000000000000) :
  Calls Tryd.prog 18 #[v] w fun e w' => PackPost w ls e w' := by
 obtain ⟨A, c, rfl, hc⟩ := h
 have HC := Hd hc
 have HM := Hd hm
 clear hc hm
 go_enter Tryd.func18, Tryd.ntmps18
 go_wp2
 go_loopw [3, 4] (fun v vi wr => ∃ k : Nat, k ≤ ls.length ∧ vi = .int .i64 k ∧ v = .string (strOfNums (packF ((ls.take k).map bytesOf))) ∧ Below w.heap.size w wr) (fun _ vi _ => ls.length - (intOf vi).toNat)
 case atStart => exact ⟨0, by omega, rfl, rfl, Below.refl _ _⟩
 case round =>
  obtain ⟨k, hk, rfl, rfl, hg⟩ := hrel
  by_cases hlt : k < ls.length
  ·obtain ⟨g, o, rfl, hcell⟩ := HC.out (by omega)
   have hgs : g < w.heap.size := World.block_lt_of_cell? w _ (hcell k hlt)
   have hce := (hg.cell (p := ⟨g, o + k, none⟩) hgs).trans (hcell k hlt)
   clear hcell
   have hsn := take_succ_map ls k hlt
   have hle := packF_take_le ls (k + 1)
   obtain ⟨x, hx⟩ : ∃ x, x = nthS ls k := ⟨_, rfl⟩
   rw [← hx] at hce hsn
   clear hx
   rw [hsn, packF_snoc, bytesOf_length] at hle
   have HSN : Hid (strOfNums (packF ((ls.take (k + 1)).map bytesOf)) = strOfNums (packF ((ls.take k).map bytesOf)) ++ strOfNums (be8 ((x.size : Nat) : Int)) ++ x) := by
    unfold Hid
    rw [hsn, packF_snoc, bytesOf_length, strOfNums_append, strOfNums_append, strOfNums_bytesOf]
   have hz0 : (strOfNums (packF ((ls.take k).map bytesOf))).size = (packF ((ls.take k).map bytesOf)).length := strOfNums_size _
   obtain ⟨pl, hpl0⟩ : ∃ pl, pl = (packF ((ls.take k).map bytesOf)).length := ⟨_, rfl⟩
   obtain ⟨ps, hps⟩ : ∃ ps, ps = strOfNums (packF ((ls.take k).map bytesOf)) := ⟨_, rfl⟩
   rw [← hpl0, ← hps] at hz0
   rw [← hps] at HSN ⊢
   simp only [List.length_append, be8_len, bytesOf_length, ← hpl0] at hle
   have hM := HM.out
   obtain ⟨b8, hb8⟩ : ∃ b8, b8 = strOfNums (be8 ((x.size : Nat) : Int)) := ⟨_, rfl⟩
   have hbz : b8.size = 8 := by rw [hb8, strOfNums_size, be8_len]
   have hlong : ∀ w, Calls Tryd.prog 25 #[.int .i64 (x.size : Int)] w fun e w' => e = .returned (.string b8) ∧ Below w.heap.size w w' := fun w => by
    rw [hb8]
    exact long_calls _ w (by omega) (by omega)
   rw [← hb8] at HSN
   have q1 : ¬ (ps.size + b8.size > 9223372036854775807) := by omega
   have q2 : ¬ (ps.size + b8.size + x.size > 9223372036854775807) := by omega
   have hwg : g < wr.heap.size := by have := hg.size; omega
   have HLONG := Hd hlong
   have HG := Hd hg
   clear hps hpl0 hle hM hb8 hbz hlong hz0 hg hsn
   have n1 : (k : Int) < (ls.length : Int) := by omega
   have n2 : (k : Int).toNat = k := by omega
   have n3 : (0 : Int) ≤ (k : Int) := by omega
   go_wp2_with fail
   go_region_held3 (fun w' => w'.cell? ⟨g, o + k, none⟩ = some (.string x)) (first | exact hce | exact hce2 | go_keep)
    (first | (go_at_call 25; refine (HLONG.out _).mono ?_; rintro e w2 ⟨rfl, hb2⟩; have hce2 : w2.cell? ⟨g, o + k, none⟩ = some (.string x) := (hb2.cell (p := ⟨g, o + k, none⟩) hwg).trans hce))
   have HG2 : Hid (Below w.heap.size w w2) := HG.out.trans ((show Below wr.heap.size wr w2 from ⟨hb2.os, hb2.tape, hb2.output, hb2.size, hb2.block⟩).mono HG.out.size)
   clear hb2 hce hce2 HG HLONG q1 q2
   go_wp2_with fail
   go_roundw
   case rel =>
    refine ⟨k + 1, by omega, by go_num, ?_, HG2.out⟩
    rw [HSN.out]
   case measure => simp [intOf]; omega
  ·obtain rfl : k = ls.length := by omega
   rw [List.take_length]
   obtain ⟨ps, hps⟩ : ∃ ps, ps = strOfNums (packF (ls.map bytesOf)) := ⟨_, rfl⟩
   rw [← hps]
   have HPS := Hd hps
   have HG := Hd hg
   clear hps hg
   go_wp2
   go_ret
   exact ⟨by rw [← HPS.out]; rfl, HG.out⟩
theorem packF_len_le (ls : List ByteArray) (m : Nat) (h : ∀ j, j < ls.length → ((nthS ls j).size : Int) ≤ m) : (packF (ls.map bytesOf)).length ≤ ls.length * (m + 8) := by
 induction ls with
 | nil => simp [packF]
 | cons x xs ih =>
  have h0 := h 0 (by simp)
  have h1 := ih (fun j hj => by
   have := h (j + 1) (by simp; omega)
   simpa [nthS] using this)
  simp only [nthS, List.getD_cons_zero] at h0
  simp only [List.map_cons, packF, List.length_append, be8_len, bytesOf_length, List.length_cons, Nat.add_mul, Nat.one_mul]
  omega
theorem lit_rds (W : World) (l : List ByteArray) : RdS (W.alloc (.cells (l.map Value.string).toArray 9)) (.slice (some ⟨W.heap.size, 0, none⟩) l.length l.length) l := by
 refine ⟨_, _, rfl, fun _ => ⟨_, 0, rfl, fun j hj => ?_⟩⟩
 have h : (W.alloc (.cells (l.map Value.string).toArray 9)).heap[W.heap.size]? = some (.cells (l.map Value.string).toArray 9 (0, 0)) := heap_alloc_new _ _
 simp only [World.cell?, h, Nat.zero_add]
 simp only [nthS, List.getD_eq_getElem?_getD]
 rw [List.getElem?_eq_getElem hj]
 simp [hj]
def sealL (key : ByteArray) (k r f : Int) (b : ByteArray) : List ByteArray := [⟨#[115, 101, 97, 108]⟩, key, strB (Lib.itoa k), strB (Lib.itoa r), strB (Lib.itoa f), b]
def digP (l : List ByteArray) : ByteArray := strOfNums (digestF (bytesOf (strOfNums (packF (l.map bytesOf)))))
theorem itoa_len (n : Int) (h0 : -9223372036854775808 ≤ n) (h1 : n < 9223372036854775808) : (Lib.itoa n).length ≤ 1000002 := by
 have h : wlen n.natAbs ≤ 100000 := Nat.le_trans (dg_len_two.2 (by omega)) (by decide)
 unfold Lib.itoa
 split
 ·rw [List.length_cons]; have := dec_len h; omega
 ·rw [show n.toNat = n.natAbs by omega]; have := dec_len h; omega
theorem pack_small {l : List ByteArray} {m : Nat} (hl : l.length ≤ 10) (hm : m ≤ 2000000) (h : ∀ x ∈ l, x.size ≤ m) : (packF (l.map bytesOf)).length ≤ 100000000 := by
 have h1 := packF_len_le l m (fun j hj => by
  have : nthS l j ∈ l := by
   simp only [nthS, List.getD_eq_getElem?_getD, List.getElem?_eq_getElem hj, Option.getD_some]
   exact List.getElem_mem hj
  have := h _ this
  omega)
 have : l.length * (m + 8) ≤ 10 * (m + 8) := Nat.mul_le_mul_right _ hl
 omega
def StrPost (w : World) (s : ByteArray) (e : Ending) (w' : World) : Prop := e = .returned (.string s) ∧ Below w.heap.size w w'
theorem Blk.c5' {W : World} {g t : Nat} {a b c d e : Value} (h : Blk W g t #[a, b, c, d, e]) : W.cell? ⟨g, 0, none⟩ = some a ∧ W.cell? ⟨g, 1, none⟩ = some b ∧ W.cell? ⟨g, 2, none⟩ = some c ∧ W.cell? ⟨g, 3, none⟩ = some d ∧ W.cell? ⟨g, 4, none⟩ = some e := ⟨h.cell rfl, h.cell rfl, h.cell rfl, h.cell rfl, h.cell rfl⟩
theorem dec_len5 {n : Nat} (hm : wlen n ≤ 5000) : (Lib.decDigits n).length ≤ 50001 := by
 rw [Lib.decDigits_length]
 by_cases h : n = 0
 ·subst h; rw [Lib.nDigits_small (by decide)]; decide
 have h1 : n < 4294967296 ^ wlen n := lt_dg_len n
 have h2 : 0 < wlen n := wlen_pos.2 h
 have h3 : n < 10 ^ (10 * wlen n) := by
  rw [Nat.pow_mul]
  exact Nat.lt_of_lt_of_le h1 (Nat.pow_le_pow_left (by decide) _)
 have := nd_le (by omega) h3
 omega
def hidL (salt : ByteArray) (k : Int) (q : Rat) : List ByteArray := [⟨#[114, 101, 112, 111, 114, 116]⟩, salt, strB (Lib.itoa k), strB (printB q)]
theorem print_len2 (f : RawF) : (printB (fixQ f)).length ≤ 2000000 := by
 have hsz := sizeQ_fix f
 have hw1 : wlen (fixQ f).num.natAbs ≤ 5000 := by unfold sizeQ at hsz; omega
 have hw2 : wlen (fixQ f).den ≤ 5000 := by unfold sizeQ at hsz; omega
 have h1 := dec_len5 hw1
 have h2 := dec_len5 hw2
 unfold printB
 rw [List.length_append, List.length_append]
 have h3 : (if negQ (fixQ f) = true then [(45 : UInt8)] else []).length ≤ 1 := by split <;> simp
 have h4 : (if (fixQ f).den = 1 then [] else 47 :: Lib.decDigits (fixQ f).den).length ≤ 50002 := by
  split
  ·simp
  ·rw [List.length_cons]; omega
 omega
set_option maxHeartbeats 32000000 in
set_option maxRecDepth 100000 in
theorem seal_calls (w : World) (key b s : ByteArray) (k r f : Int) (hT : Tabs w) (hk0 : -9223372036854775808 ≤ k) (hk1 : k < 9223372036854775808) (hr0 : -9223372036854775808 ≤ r) (hr1 : r < 9223372036854775808) (hf0 : -9223372036854775808 ≤ f) (hf1 : f < 9223372036854775808) (hks : key.size ≤ 100000) (hbs : b.size ≤ 100000) : Calls Tryd.prog 7 #[.string key, .agg #[.int .i64 k, .int .i64 r, .int .i64 f, .string b, .string s]] w fun e w' => StrPost w (digP (sealL key k r f b)) e w' := by
 go_enter Tryd.func7, Tryd.ntmps7
 go_wp2_with fail
 have HB0 := Hd (below_new w (.cells #[.int .i64 k, .int .i64 r, .int .i64 f, .string b, .string s] 24))
 have HK0 := Hd (Blk.new w 24 #[.int .i64 k, .int .i64 r, .int .i64 f, .string b, .string s])
 obtain ⟨gt, hgt⟩ : ∃ g, g = w.heap.size := ⟨_, rfl⟩
 rw [← hgt] at HK0 ⊢
 have HT0 := Hd (hT.below HB0.out)
 generalize w.alloc (.cells #[.int .i64 k, .int .i64 r, .int .i64 f, .string b, .string s] 24) = W0 at *
 clear hgt
 obtain ⟨x0, x1, x2, x3, x4⟩ := HK0.out.c5'
 have hlt := HK0.out.lt
 refine wp_chainS (S := Below W0.heap.size W0) [([0, 1, 2, 4, 5, 7, 8, 10, 11], 3), ([], 6), ([], 9), ([], 12), ([], 13), ([], 14)] [15] (by kernel_rfl) (by kernel_rfl) (by kernel_rfl) rfl (Below.drew (Below.refl _ _)) ?_
 refine ⟨?_, _, ?_, rfl, ?_⟩
 rotate_left
 ·(iterate 9 ((refine ⟨_, ?_, rfl, Or.inl ⟨by rfl, ?_⟩, ?_⟩; rotate_left; focus (intro W hW; replace hW := (bcell hW).1; go_simp; try with_reducible rfl)); (try simp only [SQ])))
  exact rfl
 have U0 : Hid (Below W0.heap.size W0 W0.drew) := Below.drew (Below.refl _ _)
 clear x0 x1 x2 x3 x4 hlt
 go_wp2_with fail
 refine (itoa_calls _ k (HT0.out.below U0.out) (by omega) (by omega)).mono ?_
 rintro e w1 ⟨rfl, hb⟩
 have U1 := Hd (below_next U0.out hb)
 clear hb
 go_wp2_with fail
 refine And.intro U1.out ⟨_, _, rfl, rfl, ?_⟩
 go_wp2_with fail
 refine (itoa_calls _ r (HT0.out.below U1.out) (by omega) (by omega)).mono ?_
 rintro e w2 ⟨rfl, hb⟩
 have U2 := Hd (below_next U1.out hb)
 clear hb
 go_wp2_with fail
 refine And.intro U2.out ⟨_, _, rfl, rfl, ?_⟩
 go_wp2_with fail
 refine (itoa_calls _ f (HT0.out.below U2.out) (by omega) (by omega)).mono ?_
 rintro e w3 ⟨rfl, hb⟩
 have U3 := Hd (below_next U2.out hb)
 clear hb
 go_wp2_with fail
 refine And.intro U3.out ⟨_, _, rfl, rfl, ?_⟩
 go_wp2_with fail
 have HL := Hd (lit_rds w3 (sealL key k r f b))
 have hbn := below_new w3 (.cells ((sealL key k r f b).map Value.string).toArray 9)
 have U4 := Hd (below_next U3.out hbn)
 have e4 : ((sealL key k r f b).map Value.string).toArray = #[.string ⟨#[115, 101, 97, 108]⟩, .string key, .string (strB (Lib.itoa k)), .string (strB (Lib.itoa r)), .string (strB (Lib.itoa f)), .string b] := rfl
 rw [e4] at HL U4
 generalize w3.alloc (.cells #[.string ⟨#[115, 101, 97, 108]⟩, .string key, .string (strB (Lib.itoa k)), .string (strB (Lib.itoa r)), .string (strB (Lib.itoa f)), .string b] 9) = W4 at *
 clear hbn e4
 have hpl : (packF ((sealL key k r f b).map bytesOf)).length ≤ 100000000 := pack_small (m := 1000002) (show 6 ≤ 10 by decide) (by decide) (by
  intro x hx
  simp only [sealL, List.mem_cons, List.not_mem_nil, or_false] at hx
  rcases hx with rfl | rfl | rfl | rfl | rfl | rfl
  ·decide
  ·omega
  ·rw [strB_size]; exact itoa_len _ hk0 hk1
  ·rw [strB_size]; exact itoa_len _ hr0 hr1
  ·rw [strB_size]; exact itoa_len _ hf0 hf1
  ·omega)
 refine And.intro U4.out ⟨_, _, rfl, rfl, ?_⟩
 go_wp2_with fail
 refine (pack_calls W4 _ (sealL key k r f b) HL.out (by omega) (by show 6 ≤ _; decide)).mono ?_
 rintro e w5 ⟨rfl, hb⟩
 have U5 := Hd (below_next U4.out hb)
 clear hb
 go_wp2_with fail
 refine And.intro U5.out ⟨_, _, rfl, rfl, ?_⟩
 go_wp2_with fail
 refine (digest_calls _ w5 (by rw [strOfNums_size]; omega) (HT0.out.below U5.out).rounds).mono ?_
 rintro e w6 ⟨rfl, hb⟩
 have U6 := Hd (below_next U5.out hb)
 clear hb
 go_wp2_with fail
 refine And.intro U6.out ?_
 refine ⟨?_, ?_, ?_⟩
 rotate_left
 ·((refine ⟨_, ?_, rfl, Or.inl ⟨by rfl, ?_⟩, ?_⟩; rotate_left; focus (intro W hW; replace hW := (bcell hW).1; go_simp; try with_reducible rfl)); (try simp only [SQ]))
  exact rfl
 refine NoPanic.normal ?_
 go_wp2_with fail
 go_ret
 exact ⟨rfl, below_next HB0.out U6.out⟩
set_option maxHeartbeats 32000000 in
set_option maxRecDepth 100000 in
theorem rseal_calls (w : World) (key b s : ByteArray) (k r f : Int) (hk0 : -9223372036854775808 ≤ k) (hk1 : k < 9223372036854775808) (hr0 : -9223372036854775808 ≤ r) (hr1 : r < 9223372036854775808) (hf0 : -9223372036854775808 ≤ f) (hf1 : f < 9223372036854775808) (hks : key.size ≤ 100000) (hbs : b.size ≤ 100000) : Calls Tryd.prog 8 #[.string key, .agg #[.int .i64 k, .int .i64 r, .int .i64 f, .string b, .string s]] w fun e w' => StrPost w (digP (sealL key k r f b)) e w' := by
 go_enter Tryd.func8, Tryd.ntmps8
 go_wp2_with fail
 have HB0 := Hd (below_new w (.cells #[.int .i64 k, .int .i64 r, .int .i64 f, .string b, .string s] 24))
 have HK0 := Hd (Blk.new w 24 #[.int .i64 k, .int .i64 r, .int .i64 f, .string b, .string s])
 obtain ⟨gt, hgt⟩ : ∃ g, g = w.heap.size := ⟨_, rfl⟩
 rw [← hgt] at HK0 ⊢
 skip
 generalize w.alloc (.cells #[.int .i64 k, .int .i64 r, .int .i64 f, .string b, .string s] 24) = W0 at *
 clear hgt
 obtain ⟨x0, x1, x2, x3, x4⟩ := HK0.out.c5'
 have hlt := HK0.out.lt
 refine wp_chainS (S := Below W0.heap.size W0) [([0, 1, 2, 4, 5, 7, 8, 10, 11], 3), ([], 6), ([], 9), ([], 12), ([], 13), ([], 14)] [15] (by kernel_rfl) (by kernel_rfl) (by kernel_rfl) rfl (Below.drew (Below.refl _ _)) ?_
 refine ⟨?_, _, ?_, rfl, ?_⟩
 rotate_left
 ·(iterate 9 ((refine ⟨_, ?_, rfl, Or.inl ⟨by rfl, ?_⟩, ?_⟩; rotate_left; focus (intro W hW; replace hW := (bcell hW).1; go_simp; try with_reducible rfl)); (try simp only [SQ])))
  exact rfl
 have U0 : Hid (Below W0.heap.size W0 W0.drew) := Below.drew (Below.refl _ _)
 clear x0 x1 x2 x3 x4 hlt
 go_wp2_with fail
 refine (rdecimal_calls _ k (by omega) (by omega)).mono ?_
 rintro e w1 ⟨rfl, hb⟩
 have U1 := Hd (below_next U0.out hb)
 clear hb
 go_wp2_with fail
 refine And.intro U1.out ⟨_, _, rfl, rfl, ?_⟩
 go_wp2_with fail
 refine (rdecimal_calls _ r (by omega) (by omega)).mono ?_
 rintro e w2 ⟨rfl, hb⟩
 have U2 := Hd (below_next U1.out hb)
 clear hb
 go_wp2_with fail
 refine And.intro U2.out ⟨_, _, rfl, rfl, ?_⟩
 go_wp2_with fail
 refine (rdecimal_calls _ f (by omega) (by omega)).mono ?_
 rintro e w3 ⟨rfl, hb⟩
 have U3 := Hd (below_next U2.out hb)
 clear hb
 go_wp2_with fail
 refine And.intro U3.out ⟨_, _, rfl, rfl, ?_⟩
 go_wp2_with fail
 have HL := Hd (lit_rds w3 (sealL key k r f b))
 have hbn := below_new w3 (.cells ((sealL key k r f b).map Value.string).toArray 9)
 have U4 := Hd (below_next U3.out hbn)
 have e4 : ((sealL key k r f b).map Value.string).toArray = #[.string ⟨#[115, 101, 97, 108]⟩, .string key, .string (strB (Lib.itoa k)), .string (strB (Lib.itoa r)), .string (strB (Lib.itoa f)), .string b] := rfl
 rw [e4] at HL U4
 generalize w3.alloc (.cells #[.string ⟨#[115, 101, 97, 108]⟩, .string key, .string (strB (Lib.itoa k)), .string (strB (Lib.itoa r)), .string (strB (Lib.itoa f)), .string b] 9) = W4 at *
 clear hbn e4
 have hpl : (packF ((sealL key k r f b).map bytesOf)).length ≤ 100000000 := pack_small (m := 1000002) (show 6 ≤ 10 by decide) (by decide) (by
  intro x hx
  simp only [sealL, List.mem_cons, List.not_mem_nil, or_false] at hx
  rcases hx with rfl | rfl | rfl | rfl | rfl | rfl
  ·decide
  ·omega
  ·rw [strB_size]; exact itoa_len _ hk0 hk1
  ·rw [strB_size]; exact itoa_len _ hr0 hr1
  ·rw [strB_size]; exact itoa_len _ hf0 hf1
  ·omega)
 refine And.intro U4.out ⟨_, _, rfl, rfl, ?_⟩
 go_wp2_with fail
 refine (rpack_calls W4 _ (sealL key k r f b) HL.out (by omega) (by show 6 ≤ _; decide)).mono ?_
 rintro e w5 ⟨rfl, hb⟩
 have U5 := Hd (below_next U4.out hb)
 clear hb
 go_wp2_with fail
 refine And.intro U5.out ⟨_, _, rfl, rfl, ?_⟩
 go_wp2_with fail
 refine (rdigest_calls _ w5 (by rw [strOfNums_size]; omega)).mono ?_
 rintro e w6 ⟨rfl, hb⟩
 have U6 := Hd (below_next U5.out hb)
 clear hb
 go_wp2_with fail
 refine And.intro U6.out ?_
 refine ⟨?_, ?_, ?_⟩
 rotate_left
 ·((refine ⟨_, ?_, rfl, Or.inl ⟨by rfl, ?_⟩, ?_⟩; rotate_left; focus (intro W hW; replace hW := (bcell hW).1; go_simp; try with_reducible rfl)); (try simp only [SQ]))
  exact rfl
 refine NoPanic.normal ?_
 go_wp2_with fail
 go_ret
 exact ⟨rfl, below_next HB0.out U6.out⟩
set_option maxHeartbeats 32000000 in
set_option maxRecDepth 100000 in
theorem hidden_calls (w : World) (salt : ByteArray) (k : Int) (v : Value) (f : RawF) (hT : Tabs w) (hk0 : -9223372036854775808 ≤ k) (hk1 : k < 9223372036854775808) (hks : salt.size ≤ 100000) (h : FR w v f) : Calls Tryd.prog 11 #[.string salt, .int .i64 k, v] w fun e w' => StrPost w (digP (hidL salt k (fixQ f))) e w' := by
 obtain ⟨A1, n1, c1, A2, n2, c2, rfl, H⟩ := h.opened
 clear h
 go_enter Tryd.func11, Tryd.ntmps11
 go_wp2_with fail
 have HB0 := Hd (below_new w (.cells #[.bool f.neg, .slice A1 n1 c1, .slice A2 n2 c2] 27))
 have HK0 := Hd (Blk.new w 27 #[.bool f.neg, .slice A1 n1 c1, .slice A2 n2 c2])
 obtain ⟨gt, hgt⟩ : ∃ g, g = w.heap.size := ⟨_, rfl⟩
 rw [← hgt] at HK0 ⊢
 have HT0 := Hd (hT.below HB0.out)
 have HF0 := Hd (H.out.of_below HB0.out)
 generalize w.alloc (.cells #[.bool f.neg, .slice A1 n1 c1, .slice A2 n2 c2] 27) = W0 at *
 clear hgt
 obtain ⟨x0, x1, x2⟩ := HK0.out.c3
 have hlt := HK0.out.lt
 refine wp_chainS (S := Below W0.heap.size W0) [([0, 1, 3], 2), ([], 4), ([], 5), ([], 6), ([], 7)] [8] (by kernel_rfl) (by kernel_rfl) (by kernel_rfl) rfl (Below.drew (Below.refl _ _)) ?_
 refine ⟨?_, _, ?_, rfl, ?_⟩
 rotate_left
 ·(iterate 3 ((refine ⟨_, ?_, rfl, Or.inl ⟨by rfl, ?_⟩, ?_⟩; rotate_left; focus (intro W hW; replace hW := (bcell hW).1; go_simp; try with_reducible rfl)); (try simp only [SQ])))
  exact rfl
 have U0 : Hid (Below W0.heap.size W0 W0.drew) := Below.drew (Below.refl _ _)
 clear x0 x1 x2 hlt
 go_wp2_with fail
 refine (itoa_calls _ k (HT0.out.below U0.out) (by omega) (by omega)).mono ?_
 rintro e w1 ⟨rfl, hb⟩
 have U1 := Hd (below_next U0.out hb)
 clear hb
 go_wp2_with fail
 refine And.intro U1.out ⟨_, _, rfl, rfl, ?_⟩
 go_wp2_with fail
 refine (fprint_calls _ _ f (HF0.out.of_below U1.out)).mono ?_
 rintro e w3 ⟨rfl, hb⟩
 have U3 := Hd (below_next U1.out hb)
 clear hb
 go_wp2_with fail
 refine And.intro U3.out ⟨_, _, rfl, rfl, ?_⟩
 go_wp2_with fail
 have HL := Hd (lit_rds w3 (hidL salt k (fixQ f)))
 have hbn := below_new w3 (.cells ((hidL salt k (fixQ f)).map Value.string).toArray 9)
 have U4 := Hd (below_next U3.out hbn)
 have e4 : ((hidL salt k (fixQ f)).map Value.string).toArray = #[.string ⟨#[114, 101, 112, 111, 114, 116]⟩, .string salt, .string (strB (Lib.itoa k)), .string (strB (printB (fixQ f)))] := rfl
 rw [e4] at HL U4
 generalize w3.alloc (.cells #[.string ⟨#[114, 101, 112, 111, 114, 116]⟩, .string salt, .string (strB (Lib.itoa k)), .string (strB (printB (fixQ f)))] 9) = W4 at *
 clear hbn e4
 have hpl : (packF ((hidL salt k (fixQ f)).map bytesOf)).length ≤ 100000000 := pack_small (m := 2000000 - 0) (show 4 ≤ 10 by decide) (by decide) (by
  intro x hx
  simp only [hidL, List.mem_cons, List.not_mem_nil, or_false] at hx
  rcases hx with rfl | rfl | rfl | rfl
  ·decide
  ·omega
  ·rw [strB_size]; have := itoa_len k hk0 hk1; omega
  ·rw [strB_size]; exact print_len2 f)
 refine And.intro U4.out ⟨_, _, rfl, rfl, ?_⟩
 go_wp2_with fail
 refine (pack_calls W4 _ (hidL salt k (fixQ f)) HL.out (by omega) (by show 4 ≤ _; decide)).mono ?_
 rintro e w5 ⟨rfl, hb⟩
 have U5 := Hd (below_next U4.out hb)
 clear hb
 go_wp2_with fail
 refine And.intro U5.out ⟨_, _, rfl, rfl, ?_⟩
 go_wp2_with fail
 refine (digest_calls _ w5 (by rw [strOfNums_size]; omega) (HT0.out.below U5.out).rounds).mono ?_
 rintro e w6 ⟨rfl, hb⟩
 have U6 := Hd (below_next U5.out hb)
 clear hb
 go_wp2_with fail
 refine And.intro U6.out ?_
 refine ⟨?_, ?_, ?_⟩
 rotate_left
 ·((refine ⟨_, ?_, rfl, Or.inl ⟨by rfl, ?_⟩, ?_⟩; rotate_left; focus (intro W hW; replace hW := (bcell hW).1; go_simp; try with_reducible rfl)); (try simp only [SQ]))
  exact rfl
 refine NoPanic.normal ?_
 go_wp2_with fail
 go_ret
 exact ⟨rfl, below_next HB0.out U6.out⟩
set_option maxHeartbeats 32000000 in
set_option maxRecDepth 100000 in
theorem rhidden_calls (w : World) (salt : ByteArray) (k : Int) (v : Value) (f : RawF) (hk0 : -9223372036854775808 ≤ k) (hk1 : k < 9223372036854775808) (hks : salt.size ≤ 100000) (h : FR w v f) : Calls Tryd.prog 12 #[.string salt, .int .i64 k, v] w fun e w' => StrPost w (digP (hidL salt k (fixQ f))) e w' := by
 obtain ⟨A1, n1, c1, A2, n2, c2, rfl, H⟩ := h.opened
 clear h
 go_enter Tryd.func12, Tryd.ntmps12
 go_wp2_with fail
 have HB0 := Hd (below_new w (.cells #[.bool f.neg, .slice A1 n1 c1, .slice A2 n2 c2] 27))
 have HK0 := Hd (Blk.new w 27 #[.bool f.neg, .slice A1 n1 c1, .slice A2 n2 c2])
 obtain ⟨gt, hgt⟩ : ∃ g, g = w.heap.size := ⟨_, rfl⟩
 rw [← hgt] at HK0 ⊢
 skip
 have HF0 := Hd (H.out.of_below HB0.out)
 generalize w.alloc (.cells #[.bool f.neg, .slice A1 n1 c1, .slice A2 n2 c2] 27) = W0 at *
 clear hgt
 obtain ⟨x0, x1, x2⟩ := HK0.out.c3
 have hlt := HK0.out.lt
 refine wp_chainS (S := Below W0.heap.size W0) [([0, 1, 3], 2), ([], 4), ([], 5), ([], 6), ([], 7)] [8] (by kernel_rfl) (by kernel_rfl) (by kernel_rfl) rfl (Below.drew (Below.refl _ _)) ?_
 refine ⟨?_, _, ?_, rfl, ?_⟩
 rotate_left
 ·(iterate 3 ((refine ⟨_, ?_, rfl, Or.inl ⟨by rfl, ?_⟩, ?_⟩; rotate_left; focus (intro W hW; replace hW := (bcell hW).1; go_simp; try with_reducible rfl)); (try simp only [SQ])))
  exact rfl
 have U0 : Hid (Below W0.heap.size W0 W0.drew) := Below.drew (Below.refl _ _)
 clear x0 x1 x2 hlt
 go_wp2_with fail
 refine (rdecimal_calls _ k (by omega) (by omega)).mono ?_
 rintro e w1 ⟨rfl, hb⟩
 have U1 := Hd (below_next U0.out hb)
 clear hb
 go_wp2_with fail
 refine And.intro U1.out ⟨_, _, rfl, rfl, ?_⟩
 go_wp2_with fail
 refine (rprint_calls _ _ f (HF0.out.of_below U1.out)).mono ?_
 rintro e w3 ⟨rfl, hb⟩
 have U3 := Hd (below_next U1.out hb)
 clear hb
 go_wp2_with fail
 refine And.intro U3.out ⟨_, _, rfl, rfl, ?_⟩
 go_wp2_with fail
 have HL := Hd (lit_rds w3 (hidL salt k (fixQ f)))
 have hbn := below_new w3 (.cells ((hidL salt k (fixQ f)).map Value.string).toArray 9)
 have U4 := Hd (below_next U3.out hbn)
 have e4 : ((hidL salt k (fixQ f)).map Value.string).toArray = #[.string ⟨#[114, 101, 112, 111, 114, 116]⟩, .string salt, .string (strB (Lib.itoa k)), .string (strB (printB (fixQ f)))] := rfl
 rw [e4] at HL U4
 generalize w3.alloc (.cells #[.string ⟨#[114, 101, 112, 111, 114, 116]⟩, .string salt, .string (strB (Lib.itoa k)), .string (strB (printB (fixQ f)))] 9) = W4 at *
 clear hbn e4
 have hpl : (packF ((hidL salt k (fixQ f)).map bytesOf)).length ≤ 100000000 := pack_small (m := 2000000 - 0) (show 4 ≤ 10 by decide) (by decide) (by
  intro x hx
  simp only [hidL, List.mem_cons, List.not_mem_nil, or_false] at hx
  rcases hx with rfl | rfl | rfl | rfl
  ·decide
  ·omega
  ·rw [strB_size]; have := itoa_len k hk0 hk1; omega
  ·rw [strB_size]; exact print_len2 f)
 refine And.intro U4.out ⟨_, _, rfl, rfl, ?_⟩
 go_wp2_with fail
 refine (rpack_calls W4 _ (hidL salt k (fixQ f)) HL.out (by omega) (by show 4 ≤ _; decide)).mono ?_
 rintro e w5 ⟨rfl, hb⟩
 have U5 := Hd (below_next U4.out hb)
 clear hb
 go_wp2_with fail
 refine And.intro U5.out ⟨_, _, rfl, rfl, ?_⟩
 go_wp2_with fail
 refine (rdigest_calls _ w5 (by rw [strOfNums_size]; omega)).mono ?_
 rintro e w6 ⟨rfl, hb⟩
 have U6 := Hd (below_next U5.out hb)
 clear hb
 go_wp2_with fail
 refine And.intro U6.out ?_
 refine ⟨?_, ?_, ?_⟩
 rotate_left
 ·((refine ⟨_, ?_, rfl, Or.inl ⟨by rfl, ?_⟩, ?_⟩; rotate_left; focus (intro W hW; replace hW := (bcell hW).1; go_simp; try with_reducible rfl)); (try simp only [SQ]))
  exact rfl
 refine NoPanic.normal ?_
 go_wp2_with fail
 go_ret
 exact ⟨rfl, below_next HB0.out U6.out⟩
theorem chain_skip {P : Program} {ops : Array Oper} {Q : Exit → Act → World → Prop} {K : Act → World → Prop} {o : Oper} {a : Act} {w : World} (hg : Region.wanted o (yielded ops a.tmps) = false) (h : K (a.put o.dst undef) w) : wpList P ops (chainQ Q K) [o] a w := by
 unfold wpList
 rw [if_neg (by rw [hg]; simp)]
 exact h
def sealedB (keys : List ByteArray) (k r f : Int) (b s : ByteArray) : Bool := decide (0 ≤ f) && (decide (f < keys.length) && (s.toList == (digP (sealL (nthS keys f.toNat) k r f b)).toList))
theorem sealedB_neg {keys : List ByteArray} {k r f : Int} {b s : ByteArray} (h : ¬ 0 ≤ f) : sealedB keys k r f b s = false := by
 unfold sealedB
 rw [decide_eq_false h]
 rfl
theorem sealedB_big {keys : List ByteArray} {k r f : Int} {b s : ByteArray} (h : ¬ f < keys.length) : sealedB keys k r f b s = false := by
 unfold sealedB
 rw [decide_eq_false h, Bool.false_and, Bool.and_false]
theorem sealedB_in {keys : List ByteArray} {k r f : Int} {b s : ByteArray} {m : Nat} {dg : ByteArray} (hf : f = m) (h : m < keys.length) (hd : dg = digP (sealL (nthS keys m) k r f b)) : sealedB keys k r f b s = (s.toList == dg.toList) := by
 unfold sealedB
 rw [decide_eq_true (show (0 : Int) ≤ f by omega), decide_eq_true (show f < keys.length by omega), hf, Int.toNat_natCast, hd, ← hf]
 rfl
set_option maxHeartbeats 32000000 in
set_option maxRecDepth 100000 in
theorem sealed_calls (w : World) (v : Value) (keys : List ByteArray) (b s : ByteArray) (k r f : Int) (hT : Tabs w) (hl : RdS w v keys) (hn : keys.length ≤ 1000000) (hk0 : -9223372036854775808 ≤ k) (hk1 : k < 9223372036854775808) (hr0 : -9223372036854775808 ≤ r) (hr1 : r < 9223372036854775808) (hf0 : -9223372036854775808 ≤ f) (hf1 : f < 9223372036854775808) (hks : ∀ j, j < keys.length → (nthS keys j).size ≤ 100000) (hbs : b.size ≤ 100000) : Calls Tryd.prog 9 #[v, .agg #[.int .i64 k, .int .i64 r, .int .i64 f, .string b, .string s]] w fun e w' => BPost w (sealedB keys k r f b s) e w' := by
 have HL := Hd hl
 obtain ⟨A, c, rfl, hc⟩ := hl
 clear hc
 go_enter Tryd.func9, Tryd.ntmps9
 go_wp2_with fail
 have HB0 := Hd (below_new w (.cells #[.int .i64 k, .int .i64 r, .int .i64 f, .string b, .string s] 24))
 have HK0 := Hd (Blk.new w 24 #[.int .i64 k, .int .i64 r, .int .i64 f, .string b, .string s])
 obtain ⟨gt, hgt⟩ : ∃ g, g = w.heap.size := ⟨_, rfl⟩
 rw [← hgt] at HK0 ⊢
 have HT0 := Hd (hT.below HB0.out)
 clear hT
 have HL0 := Hd (HL.out.below HB0.out)
 obtain ⟨A', c', e', hc'⟩ := HL0.out
 obtain ⟨rfl, rfl⟩ : A = A' ∧ c = c' := by
  injection e' with h1 h2 h3
  exact ⟨h1, h3⟩
 have HC := Hd hc'
 clear hc' e'
 generalize w.alloc (.cells #[.int .i64 k, .int .i64 r, .int .i64 f, .string b, .string s] 24) = W0 at *
 clear hgt
 obtain ⟨x0, x1, x2, x3, x4⟩ := HK0.out.c5'
 have hlt := HK0.out.lt
 by_cases hneg : 0 ≤ f
 ·by_cases hbig : f < (keys.length : Int)
  ·
   obtain ⟨m, rfl⟩ := Int.eq_ofNat_of_zero_le hneg
   have hm : m < keys.length := by omega
   obtain ⟨g, o, rfl, hcell⟩ := HC.out (by omega)
   have hce := hcell m hm
   clear hcell
   have hks' := hks m hm
   clear hks
   obtain ⟨key, hkey⟩ : ∃ key, key = nthS keys m := ⟨_, rfl⟩
   rw [← hkey] at hce hks'
   obtain ⟨dg, hdg⟩ : ∃ dg, dg = digP (sealL key k r (m : Int) b) := ⟨_, rfl⟩
   have HS0 : Hid (sealedB keys k r (m : Int) b s = (s.toList == dg.toList)) := sealedB_in rfl hm (by rw [hdg, hkey])
   have hcc : ∀ W, Tabs W → Calls Tryd.prog 7 #[.string key, .agg #[.int .i64 k, .int .i64 r, .int .i64 (m : Int), .string b, .string s]] W fun e w' => StrPost W dg e w' := by
    intro W hT
    rw [hdg]
    exact seal_calls W key b s k r (m : Int) hT hk0 hk1 hr0 hr1 hf0 hf1 hks' hbs
   have HCC := Hd hcc
   clear hcc hdg hkey hk0 hk1 hr0 hr1 hf0 hf1 hks' hbs
   have hlg : g < W0.heap.size := World.block_lt_of_cell? W0 _ hce
   have t1 : decide ((m : Int) ≥ 0) = true := decide_eq_true hneg
   have t2 : decide ((m : Int) < (keys.length : Int)) = true := decide_eq_true (by omega)
   have t3 : (m : Int).toNat = m := by omega
   have t4 : (0 : Int) ≤ (m : Int) := hneg
   have t5 : (m : Int) < (keys.length : Int) := by omega
   obtain ⟨bb, hbb⟩ : ∃ bb, (s.toList == dg.toList) = bb := ⟨_, rfl⟩
   refine wp_chainS (S := Below W0.heap.size W0) [([0, 1, 2, 3, 4, 5, 6, 7, 8, 9, 10, 11, 12, 13, 14, 15, 16, 17, 18], 19)] [20, 21, 22] (by kernel_rfl) (by kernel_rfl) (by kernel_rfl) rfl (Below.drew (Below.refl _ _)) ?_
   refine ⟨?_, _, ?_, rfl, ?_⟩
   rotate_left
   ·(iterate 19 ((refine ⟨_, ?_, rfl, Or.inl ⟨by rfl, ?_⟩, ?_⟩; rotate_left; focus (intro W hW; replace hW := (bcell hW).1; go_simp; try with_reducible rfl)); (try simp only [SQ])))
    exact rfl
   have U0 : Hid (Below W0.heap.size W0 W0.drew) := Below.drew (Below.refl _ _)
   have HM := Hd hm
   clear hlt hlg hce x0 x1 x2 x3 x4 t1 t2 t3 t4 t5 hneg hm
   go_wp2_with fail
   skip
   skip
   refine (HCC.out _ (HT0.out.below U0.out)).mono ?_
   rintro e w1 ⟨rfl, hb⟩
   have U1 := Hd (below_next U0.out hb)
   clear hb
   go_wp2_with fail
   skip
   skip
   refine And.intro U1.out ?_
   refine ⟨?_, ?_, ?_⟩
   rotate_left
   ·(iterate 3 ((refine ⟨_, ?_, rfl, Or.inl ⟨by rfl, ?_⟩, ?_⟩; rotate_left; focus (intro W hW; replace hW := (bcell hW).1; go_simp; try with_reducible rfl)); (try simp only [SQ])))
    exact rfl
   refine NoPanic.normal ?_
   go_wp2_with fail
   go_ret
   exact ⟨by rw [HS0.out, hbb]; rfl, below_next HB0.out U1.out⟩
  ·
   have HS0 : Hid (sealedB keys k r f b s = false) := sealedB_big hbig
   have t1 : decide (f ≥ 0) = true := decide_eq_true hneg
   have t2 : decide (f < (keys.length : Int)) = false := decide_eq_false hbig
   clear hneg hbig
   refine wp_chainS (S := Below W0.heap.size W0) [([0, 1, 2, 3, 4, 5, 6, 7, 8, 9, 10, 11, 12, 13, 14, 15, 16, 17, 18], 19)] [20, 21, 22] (by kernel_rfl) (by kernel_rfl) (by kernel_rfl) rfl (Below.drew (Below.refl _ _)) ?_
   refine ⟨?_, _, ?_, rfl, ?_⟩
   rotate_left
   ·(iterate 11 ((refine ⟨_, ?_, rfl, Or.inl ⟨by rfl, ?_⟩, ?_⟩; rotate_left; focus (intro W hW; replace hW := (bcell hW).1; go_simp; try with_reducible rfl)); (try simp only [SQ]))); (iterate 8 ((refine ⟨_, undef, rfl, Or.inr ⟨by kernel_rfl, rfl⟩, ?_⟩); (try simp only [SQ])))
    exact rfl
   have U0 : Hid (Below W0.heap.size W0 W0.drew) := Below.drew (Below.refl _ _)
   clear hlt
   refine chain_skip (by kernel_rfl) (And.intro U0.out ?_)
   (try simp only [SQ])
   refine ⟨?_, ?_, ?_⟩
   rotate_left
   ·((refine ⟨_, undef, rfl, Or.inr ⟨by kernel_rfl, rfl⟩, ?_⟩); (try simp only [SQ])); (iterate 2 ((refine ⟨_, ?_, rfl, Or.inl ⟨by rfl, ?_⟩, ?_⟩; rotate_left; focus (intro W hW; replace hW := (bcell hW).1; go_simp; try with_reducible rfl)); (try simp only [SQ])))
    exact rfl
   refine NoPanic.normal ?_
   go_wp2_with fail
   go_ret
   exact ⟨by rw [HS0.out]; rfl, below_next HB0.out U0.out⟩
 ·
  have HS0 : Hid (sealedB keys k r f b s = false) := sealedB_neg hneg
  have t1 : decide (f ≥ 0) = false := decide_eq_false hneg
  clear hneg
  refine wp_chainS (S := Below W0.heap.size W0) [([0, 1, 2, 3, 4, 5, 6, 7, 8, 9, 10, 11, 12, 13, 14, 15, 16, 17, 18], 19)] [20, 21, 22] (by kernel_rfl) (by kernel_rfl) (by kernel_rfl) rfl (Below.drew (Below.refl _ _)) ?_
  refine ⟨?_, _, ?_, rfl, ?_⟩
  rotate_left
  ·(iterate 4 ((refine ⟨_, ?_, rfl, Or.inl ⟨by rfl, ?_⟩, ?_⟩; rotate_left; focus (intro W hW; replace hW := (bcell hW).1; go_simp; try with_reducible rfl)); (try simp only [SQ]))); (iterate 5 ((refine ⟨_, undef, rfl, Or.inr ⟨by kernel_rfl, rfl⟩, ?_⟩); (try simp only [SQ]))); (iterate 2 ((refine ⟨_, ?_, rfl, Or.inl ⟨by rfl, ?_⟩, ?_⟩; rotate_left; focus (intro W hW; replace hW := (bcell hW).1; go_simp; try with_reducible rfl)); (try simp only [SQ]))); (iterate 8 ((refine ⟨_, undef, rfl, Or.inr ⟨by kernel_rfl, rfl⟩, ?_⟩); (try simp only [SQ])))
   exact rfl
  have U0 : Hid (Below W0.heap.size W0 W0.drew) := Below.drew (Below.refl _ _)
  clear hlt
  refine chain_skip (by kernel_rfl) (And.intro U0.out ?_)
  (try simp only [SQ])
  refine ⟨?_, ?_, ?_⟩
  rotate_left
  ·((refine ⟨_, undef, rfl, Or.inr ⟨by kernel_rfl, rfl⟩, ?_⟩); (try simp only [SQ])); (iterate 2 ((refine ⟨_, ?_, rfl, Or.inl ⟨by rfl, ?_⟩, ?_⟩; rotate_left; focus (intro W hW; replace hW := (bcell hW).1; go_simp; try with_reducible rfl)); (try simp only [SQ])))
   exact rfl
  refine NoPanic.normal ?_
  go_wp2_with fail
  go_ret
  exact ⟨by rw [HS0.out]; rfl, below_next HB0.out U0.out⟩
set_option maxHeartbeats 32000000 in
set_option maxRecDepth 100000 in
theorem rsealed_calls (w : World) (v : Value) (keys : List ByteArray) (b s : ByteArray) (k r f : Int) (hl : RdS w v keys) (hn : keys.length ≤ 1000000) (hk0 : -9223372036854775808 ≤ k) (hk1 : k < 9223372036854775808) (hr0 : -9223372036854775808 ≤ r) (hr1 : r < 9223372036854775808) (hf0 : -9223372036854775808 ≤ f) (hf1 : f < 9223372036854775808) (hks : ∀ j, j < keys.length → (nthS keys j).size ≤ 100000) (hbs : b.size ≤ 100000) : Calls Tryd.prog 10 #[v, .agg #[.int .i64 k, .int .i64 r, .int .i64 f, .string b, .string s]] w fun e w' => BPost w (sealedB keys k r f b s) e w' := by
 have HL := Hd hl
 obtain ⟨A, c, rfl, hc⟩ := hl
 clear hc
 go_enter Tryd.func10, Tryd.ntmps10
 go_wp2_with fail
 have HB0 := Hd (below_new w (.cells #[.int .i64 k, .int .i64 r, .int .i64 f, .string b, .string s] 24))
 have HK0 := Hd (Blk.new w 24 #[.int .i64 k, .int .i64 r, .int .i64 f, .string b, .string s])
 obtain ⟨gt, hgt⟩ : ∃ g, g = w.heap.size := ⟨_, rfl⟩
 rw [← hgt] at HK0 ⊢
 skip
 skip
 have HL0 := Hd (HL.out.below HB0.out)
 obtain ⟨A', c', e', hc'⟩ := HL0.out
 obtain ⟨rfl, rfl⟩ : A = A' ∧ c = c' := by
  injection e' with h1 h2 h3
  exact ⟨h1, h3⟩
 have HC := Hd hc'
 clear hc' e'
 generalize w.alloc (.cells #[.int .i64 k, .int .i64 r, .int .i64 f, .string b, .string s] 24) = W0 at *
 clear hgt
 obtain ⟨x0, x1, x2, x3, x4⟩ := HK0.out.c5'
 have hlt := HK0.out.lt
 by_cases hneg : 0 ≤ f
 ·by_cases hbig : f < (keys.length : Int)
  ·
   obtain ⟨m, rfl⟩ := Int.eq_ofNat_of_zero_le hneg
   have hm : m < keys.length := by omega
   obtain ⟨g, o, rfl, hcell⟩ := HC.out (by omega)
   have hce := hcell m hm
   clear hcell
   have hks' := hks m hm
   clear hks
   obtain ⟨key, hkey⟩ : ∃ key, key = nthS keys m := ⟨_, rfl⟩
   rw [← hkey] at hce hks'
   obtain ⟨dg, hdg⟩ : ∃ dg, dg = digP (sealL key k r (m : Int) b) := ⟨_, rfl⟩
   have HS0 : Hid (sealedB keys k r (m : Int) b s = (s.toList == dg.toList)) := sealedB_in rfl hm (by rw [hdg, hkey])
   have hcc : ∀ W, Calls Tryd.prog 8 #[.string key, .agg #[.int .i64 k, .int .i64 r, .int .i64 (m : Int), .string b, .string s]] W fun e w' => StrPost W dg e w' := by
    intro W
    rw [hdg]
    exact rseal_calls W key b s k r (m : Int) hk0 hk1 hr0 hr1 hf0 hf1 hks' hbs
   have HCC := Hd hcc
   clear hcc hdg hkey hk0 hk1 hr0 hr1 hf0 hf1 hks' hbs
   have hlg : g < W0.heap.size := World.block_lt_of_cell? W0 _ hce
   have t1 : decide ((m : Int) ≥ 0) = true := decide_eq_true hneg
   have t2 : decide ((m : Int) < (keys.length : Int)) = true := decide_eq_true (by omega)
   have t3 : (m : Int).toNat = m := by omega
   have t4 : (0 : Int) ≤ (m : Int) := hneg
   have t5 : (m : Int) < (keys.length : Int) := by omega
   obtain ⟨bb, hbb⟩ : ∃ bb, (s.toList == dg.toList) = bb := ⟨_, rfl⟩
   refine wp_chainS (S := Below W0.heap.size W0) [([0, 1, 2, 3, 4, 5, 6, 7, 8, 9, 10, 11, 12, 13, 14, 15, 16, 17, 18], 19)] [20, 21, 22] (by kernel_rfl) (by kernel_rfl) (by kernel_rfl) rfl (Below.drew (Below.refl _ _)) ?_
   refine ⟨?_, _, ?_, rfl, ?_⟩
   rotate_left
   ·(iterate 19 ((refine ⟨_, ?_, rfl, Or.inl ⟨by rfl, ?_⟩, ?_⟩; rotate_left; focus (intro W hW; replace hW := (bcell hW).1; go_simp; try with_reducible rfl)); (try simp only [SQ])))
    exact rfl
   have U0 : Hid (Below W0.heap.size W0 W0.drew) := Below.drew (Below.refl _ _)
   have HM := Hd hm
   clear hlt hlg hce x0 x1 x2 x3 x4 t1 t2 t3 t4 t5 hneg hm
   go_wp2_with fail
   skip
   skip
   refine (HCC.out _).mono ?_
   rintro e w1 ⟨rfl, hb⟩
   have U1 := Hd (below_next U0.out hb)
   clear hb
   go_wp2_with fail
   skip
   skip
   refine And.intro U1.out ?_
   refine ⟨?_, ?_, ?_⟩
   rotate_left
   ·(iterate 3 ((refine ⟨_, ?_, rfl, Or.inl ⟨by rfl, ?_⟩, ?_⟩; rotate_left; focus (intro W hW; replace hW := (bcell hW).1; go_simp; try with_reducible rfl)); (try simp only [SQ])))
    exact rfl
   refine NoPanic.normal ?_
   go_wp2_with fail
   go_ret
   exact ⟨by rw [HS0.out, hbb]; rfl, below_next HB0.out U1.out⟩
  ·
   have HS0 : Hid (sealedB keys k r f b s = false) := sealedB_big hbig
   have t1 : decide (f ≥ 0) = true := decide_eq_true hneg
   have t2 : decide (f < (keys.length : Int)) = false := decide_eq_false hbig
   clear hneg hbig
   refine wp_chainS (S := Below W0.heap.size W0) [([0, 1, 2, 3, 4, 5, 6, 7, 8, 9, 10, 11, 12, 13, 14, 15, 16, 17, 18], 19)] [20, 21, 22] (by kernel_rfl) (by kernel_rfl) (by kernel_rfl) rfl (Below.drew (Below.refl _ _)) ?_
   refine ⟨?_, _, ?_, rfl, ?_⟩
   rotate_left
   ·(iterate 11 ((refine ⟨_, ?_, rfl, Or.inl ⟨by rfl, ?_⟩, ?_⟩; rotate_left; focus (intro W hW; replace hW := (bcell hW).1; go_simp; try with_reducible rfl)); (try simp only [SQ]))); (iterate 8 ((refine ⟨_, undef, rfl, Or.inr ⟨by kernel_rfl, rfl⟩, ?_⟩); (try simp only [SQ])))
    exact rfl
   have U0 : Hid (Below W0.heap.size W0 W0.drew) := Below.drew (Below.refl _ _)
   clear hlt
   refine chain_skip (by kernel_rfl) (And.intro U0.out ?_)
   (try simp only [SQ])
   refine ⟨?_, ?_, ?_⟩
   rotate_left
   ·((refine ⟨_, undef, rfl, Or.inr ⟨by kernel_rfl, rfl⟩, ?_⟩); (try simp only [SQ])); (iterate 2 ((refine ⟨_, ?_, rfl, Or.inl ⟨by rfl, ?_⟩, ?_⟩; rotate_left; focus (intro W hW; replace hW := (bcell hW).1; go_simp; try with_reducible rfl)); (try simp only [SQ])))
    exact rfl
   refine NoPanic.normal ?_
   go_wp2_with fail
   go_ret
   exact ⟨by rw [HS0.out]; rfl, below_next HB0.out U0.out⟩
 ·
  have HS0 : Hid (sealedB keys k r f b s = false) := sealedB_neg hneg
  have t1 : decide (f ≥ 0) = false := decide_eq_false hneg
  clear hneg
  refine wp_chainS (S := Below W0.heap.size W0) [([0, 1, 2, 3, 4, 5, 6, 7, 8, 9, 10, 11, 12, 13, 14, 15, 16, 17, 18], 19)] [20, 21, 22] (by kernel_rfl) (by kernel_rfl) (by kernel_rfl) rfl (Below.drew (Below.refl _ _)) ?_
  refine ⟨?_, _, ?_, rfl, ?_⟩
  rotate_left
  ·(iterate 4 ((refine ⟨_, ?_, rfl, Or.inl ⟨by rfl, ?_⟩, ?_⟩; rotate_left; focus (intro W hW; replace hW := (bcell hW).1; go_simp; try with_reducible rfl)); (try simp only [SQ]))); (iterate 5 ((refine ⟨_, undef, rfl, Or.inr ⟨by kernel_rfl, rfl⟩, ?_⟩); (try simp only [SQ]))); (iterate 2 ((refine ⟨_, ?_, rfl, Or.inl ⟨by rfl, ?_⟩, ?_⟩; rotate_left; focus (intro W hW; replace hW := (bcell hW).1; go_simp; try with_reducible rfl)); (try simp only [SQ]))); (iterate 8 ((refine ⟨_, undef, rfl, Or.inr ⟨by kernel_rfl, rfl⟩, ?_⟩); (try simp only [SQ])))
   exact rfl
  have U0 : Hid (Below W0.heap.size W0 W0.drew) := Below.drew (Below.refl _ _)
  clear hlt
  refine chain_skip (by kernel_rfl) (And.intro U0.out ?_)
  (try simp only [SQ])
  refine ⟨?_, ?_, ?_⟩
  rotate_left
  ·((refine ⟨_, undef, rfl, Or.inr ⟨by kernel_rfl, rfl⟩, ?_⟩); (try simp only [SQ])); (iterate 2 ((refine ⟨_, ?_, rfl, Or.inl ⟨by rfl, ?_⟩, ?_⟩; rotate_left; focus (intro W hW; replace hW := (bcell hW).1; go_simp; try with_reducible rfl)); (try simp only [SQ])))
   exact rfl
  refine NoPanic.normal ?_
  go_wp2_with fail
  go_ret
  exact ⟨by rw [HS0.out]; rfl, below_next HB0.out U0.out⟩
end Go.Proofs.YthpkoidlpfllaaaDoor

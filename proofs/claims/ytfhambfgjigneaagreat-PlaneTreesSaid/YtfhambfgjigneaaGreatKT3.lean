/- Contracts of Go functions that the statement reaches, proved by walking their text, and plain laws over them (texts put together). -/
import Derived.Test.YtfhambfgjigneaaGreatKT1
import Derived.Shelf.Small.Bits
set_option linter.unusedVariables false
set_option linter.unusedSimpArgs false
namespace Go.Proofs.YtfhambfgjigneaaGreat
open Go.RowKit
theorem bits_or_comm (k : IntKind) (a b : Int) : bits .or k a b = bits .or k b a := by simp only [bits, BitVec.or_comm]
theorem pow_split {n : Nat} (hn : n < 32) : 2 ^ n * 2 ^ (32 - n) = 4294967296 := by
 rw [← Nat.pow_add, show n + (32 - n) = 32 by omega]
theorem shift_word {x n : Nat} (hx : x < 4294967296) (hn : n < 32) : ∃ y lo hi, y = x * 2 ^ n ∧ y = lo + 4294967296 * hi ∧ lo % 2 ^ n = 0 ∧ lo + 2 ^ n ≤ 4294967296 ∧ hi < 2 ^ n := by
 have hB := pow_split hn
 refine ⟨_, (x % 2 ^ (32 - n)) * 2 ^ n, x / 2 ^ (32 - n), rfl, ?_, Nat.mul_mod_left _ _, ?_, ?_⟩
 ·have := Nat.div_add_mod x (2 ^ (32 - n))
  generalize 2 ^ n = p at *
  generalize 2 ^ (32 - n) = q at *
  generalize x / q = dd at *
  generalize x % q = mm at *
  subst this
  rw [← hB]
  grind
 ·have h1 := Nat.mod_lt x (show 0 < 2 ^ (32 - n) from Nat.pow_pos (by decide))
  have h2 := Nat.mul_le_mul_right (2 ^ n) (show x % 2 ^ (32 - n) + 1 ≤ 2 ^ (32 - n) by omega)
  rw [Nat.mul_comm (2 ^ (32 - n)), hB, Nat.add_mul, Nat.one_mul] at h2
  exact h2
 ·exact Nat.div_lt_of_lt_mul (by rw [Nat.mul_comm, hB]; exact hx)
theorem or_shift {t lo n : Nat} (hn : n < 32) (ht : t < 2 ^ n) (h0 : lo % 2 ^ n = 0) (hl : lo + 2 ^ n ≤ 4294967296) : bits .or .u32 (t : Int) (lo : Int) = ((lo + t : Nat) : Int) := by
 rw [bits_or_comm]
 have e : (2 : Int) ^ n = ((2 ^ n : Nat) : Int) := by push_cast; rfl
 have := bits_join .u32 32 (by decide) (fun n h0 h1 => IntWalk.u32_in n ⟨h0, by omega⟩) n (lo : Int) (t : Int) (by omega) (by rw [e, ← Int.natCast_emod, h0]; rfl) (by omega) (by omega) (by rw [e]; omega) (by omega)
 rw [this]
 omega
theorem wrap_shift {x y n : Nat} (hx : x < 4294967296) (hn : n < 32) (hy : y = x * 2 ^ n) : IntKind.u64.wrap ((x : Int) * 2 ^ n) = (y : Int) := by
 have e : (x : Int) * 2 ^ n = (y : Int) := by rw [hy]; push_cast; rfl
 have h1 : x * 2 ^ n ≤ 4294967296 * 4294967296 := Nat.mul_le_mul (Nat.le_of_lt hx) (Nat.le_trans (Nat.pow_le_pow_right (by decide) (Nat.le_of_lt hn)) (by decide))
 have h2 : x * 2 ^ n < 4294967296 * 2 ^ n := Nat.mul_lt_mul_of_pos_right hx (Nat.pow_pos (by decide))
 have h3 : 2 ^ n ≤ 2 ^ 31 := Nat.pow_le_pow_right (by decide) (by omega)
 rw [e, IntWalk.u64_in _ (by omega)]
theorem set_two (d z : List Nat) (a b : Nat) (i : Nat) (hd : d.length = i) : ((d ++ a :: 0 :: z).set i b) = (d ++ [b]) ++ 0 :: z := by
 subst hd
 rw [List.set_append_right _ _ (Nat.le_refl _), Nat.sub_self, List.set_cons_zero]
 simp
theorem shift_step {dv t p v q x lo hi : Nat} (h : dv + t * p = v * q) (hs : x * q = lo + 4294967296 * hi) : dv + p * (lo + t) + hi * (p * 4294967296) = (v + p * x) * q := by
 grind
def ShiftPost (w : World) (m n l : Nat) (e : Ending) (w' : World) : Prop := ∃ B us, e = .returned (.slice (some ⟨B, 0, none⟩) (l + 1) (l + 1)) ∧ w.heap.size ≤ B ∧ us.length = l + 1 ∧ Wd us ∧ valN us = m * 2 ^ n ∧ Arr .u32 w' B 103 (ints us) ∧ Below w.heap.size w w'
set_option maxHeartbeats 8000000 in
set_option maxRecDepth 100000 in
theorem shifted_calls (w : World) (v : Value) (m n : Nat) (h : RN w v m) (hm : wlen m ≤ 100000000000) (hn : n < 32) :
  Calls Tryz.prog 155 #[v, .int .i64 n] w fun e w' => ShiftPost w m n (wlen m) e w' := by
 obtain ⟨A, c, xs, rfl, hc, HX, HR⟩ := h.opened
 clear h
 have hlx : xs.length ≤ 100000000000 := by rw [HX.out]; exact hm
 have HVX : Hid (valN xs = m) := by unfold Hid; rw [HX.out, valN_dg]
 have HLX : Hid (wlen m = xs.length) := by unfold Hid; rw [HX.out]; rfl
 clear HX hm
 go_enter Tryz.func155, Tryz.ntmps155
 obtain ⟨N, hN⟩ : ∃ N : Nat, xs.length + 1 = N := ⟨_, rfl⟩
 have wl : IntKind.i64.wrap ((xs.length : Int) + 1) = ((N : Nat) : Int) := by rw [IntWalk.i64_in _ (by omega)]; omega
 have hmk := make_words 111 Tryz.underlying111 N (by omega)
 go_wp2_with fail
 clear hmk wl
 have hw0 := gb_alloc (gb_refl w none) (zw N)
 have ha0 := zw_arr w N
 generalize w.alloc (zw N) = W0 at *
 go_loopw [15] (fun vi wr => ∃ (i t : Nat) (d : List Nat), i ≤ xs.length ∧ vi = .int .i64 (i : Int) ∧ t < 2 ^ n ∧ d.length = i ∧ Wd d ∧
   valN d + t * 4294967296 ^ i = valN (xs.take i) * 2 ^ n ∧ Arr .u32 wr w.heap.size 103 (ints (d ++ t :: List.replicate (xs.length - i) 0)) ∧ w.grownBy wr none) (fun vi _ => xs.length - (intOf vi).toNat)
 case atStart => exact ⟨0, 0, [], by omega, rfl, Nat.pow_pos (by decide), rfl, (fun x hx => (by cases hx)), by simp [valN], by rw [List.nil_append, Nat.sub_zero, ← List.replicate_succ, hN]; exact ha0, hw0⟩
 case round =>
  obtain ⟨i, t, d, hi, rfl, ht, hdl, hdw, hval, harr, hgb⟩ := hrel
  have HD := Hd hdw
  have HV := Hd hval
  have HA := Hd harr
  have HG := Hd hgb
  have HL := Hd hdl
  clear hdw hval harr hdl
  by_cases hlx2 : i < xs.length
  ·have HRr := Hd (HR.out.gb hgb)
   clear hgb
   obtain ⟨g, o, rfl, hg, hcell⟩ := HRr.out.cell (j := i) hlx2
   have n1 : (i : Int) < (xs.length : Int) := by omega
   have n3 : (i : Int).toNat = i := by omega
   have n4 : (0 : Int) ≤ (i : Int) := by omega
   have n0 : (0 : Int) ≤ (n : Int) := by omega
   have nn : (n : Int).toNat = n := by omega
   have n5 : (i : Int) < (N : Int) := by omega
   have n6 : i < N := by omega
   have hx := nat_lt HR.out.wd i
   obtain ⟨x, hxx⟩ : ∃ x, x = nat xs i := ⟨_, rfl⟩
   rw [← hxx] at hx hcell
   have HXX := Hd hxx
   clear hxx
   have f0 : IntKind.u64.wrap (x : Int) = (x : Int) := IntWalk.u64_in _ (by omega)
   obtain ⟨y, lo, hi2, hy, hs, hl0, hll, hh⟩ := shift_word hx hn
   have hh31 : hi2 < 4294967296 := by
    have : 2 ^ n ≤ 2 ^ 31 := Nat.pow_le_pow_right (by decide) (by omega)
    omega
   have f1 := wrap_shift hx hn hy
   have f2 : IntKind.u32.wrap (y : Int) = (lo : Int) := by
    have : 0 < 2 ^ n := Nat.pow_pos (by decide)
    rw [IntKind.wrap_u32]; omega
   have f3 : (y : Int) / 4294967296 = (hi2 : Int) := by
    have : 0 < 2 ^ n := Nat.pow_pos (by decide)
    omega
   have f4 : IntKind.u32.wrap (hi2 : Int) = (hi2 : Int) := by rw [IntKind.wrap_u32]; omega
   have hor := or_shift hn ht hl0 hll
   obtain ⟨s, hss⟩ : ∃ s, s = lo + t := ⟨_, rfl⟩
   have hs32 : s < 4294967296 := by omega
   rw [← hss] at hor
   have hz : List.replicate (xs.length - i) 0 = 0 :: List.replicate (xs.length - (i + 1)) 0 := by rw [← List.replicate_succ]; congr 1; omega
   have HA2 : Hid (Arr .u32 wr w.heap.size 103 (ints (d ++ t :: 0 :: List.replicate (xs.length - (i + 1)) 0))) := by have := HA.out; rw [hz] at this; exact this
   clear HA hz
   have hlen : (ints (d ++ t :: 0 :: List.replicate (xs.length - (i + 1)) 0)).length = N := by rw [ints_length]; simp [HL.out] <;> omega
   have hco : wr.cell? ⟨w.heap.size, i, none⟩ = some (.int .u32 (t : Int)) := by
    have h1 := HA2.out.cell i (by rw [hlen]; omega)
    have h2 := nth_ints (d ++ t :: 0 :: List.replicate (xs.length - (i + 1)) 0) i
    unfold nth at h2
    rw [h1, h2, nat_append_right (by rw [HL.out]; exact Nat.le_refl _), HL.out, Nat.sub_self]
    rfl
   have HA3 : Hid (Arr .u32 (wr.setCell ⟨w.heap.size, i, none⟩ (.int .u32 (s : Int))) w.heap.size 103 (ints (d ++ [s] ++ 0 :: List.replicate (xs.length - (i + 1)) 0))) := by
    have := HA2.out.set i (s : Int)
    rw [ints_set, set_two _ _ _ _ _ HL.out] at this
    exact this
   have hfr := HA2.out.frozen i
   have hco2 : (wr.setCell ⟨w.heap.size, i, none⟩ (.int .u32 (s : Int))).cell? ⟨w.heap.size, i + 1, none⟩ = some (.int .u32 ((0 : Nat) : Int)) := by
    have h1 := HA3.out.cell (i + 1) (by rw [ints_length]; simp [HL.out])
    have h2 := nth_ints (d ++ [s] ++ 0 :: List.replicate (xs.length - (i + 1)) 0) (i + 1)
    unfold nth at h2
    rw [h1, h2, nat_append_right (by simp [HL.out]), List.length_append, HL.out]
    simp [nat]
   have hfr2 := HA3.out.frozen (i + 1)
   have k1 : IntKind.i64.wrap ((i : Int) + 1) = (i : Int) + 1 := IntWalk.i64_in _ (by omega)
   have k2 : (i : Int) + 1 < (N : Int) := by omega
   have k3 : ((i : Int) + 1).toNat = i + 1 := by omega
   have k4 : i + 1 < N := by omega
   have k5 : 0 ≤ (i : Int) + 1 := by omega
   have HY := Hd hy
   have HS := Hd hs
   have HSS := Hd hss
   have HLL := Hd hll
   clear hy hs hss hl0 hll
   go_wp2_with fail
   go_roundw
   case rel =>
    refine ⟨i + 1, hi2, d ++ [s], by omega, by go_num, hh, by simp [HL.out], HD.out.snoc hs32, ?_, ?_, gb_set (gb_set HG.out (.inl (Nat.le_refl _)) _) (.inl (Nat.le_refl _)) _⟩
    ·rw [valN_snoc, HL.out, valN_take_succ _ _ hlx2, ← HXX.out, Nat.pow_succ, HSS.out]
     exact shift_step HV.out (by rw [← HY.out]; exact HS.out)
    ·have := HA3.out.set (i + 1) (hi2 : Int)
     rw [ints_set, List.set_append_right _ _ (by simp [HL.out])] at this
     simp only [List.length_append, HL.out, List.length_cons, List.length_nil, Nat.zero_add, Nat.sub_self, List.set_cons_zero] at this
     exact this
   case measure => simp [intOf]; omega
  ·obtain rfl : i = xs.length := by omega
   go_wp2_with fail
   go_ret
   have ht32 : t < 4294967296 := by
    have : 2 ^ n ≤ 2 ^ 31 := Nat.pow_le_pow_right (by decide) (by omega)
    omega
   rw [HLX.out]
   refine ⟨w.heap.size, d ++ [t], by rw [hN]; rfl, Nat.le_refl _, by simp [HL.out], HD.out.snoc ht32, ?_, ?_, gb_to_below HG.out⟩
   ·have := HV.out
    rw [List.take_length, HVX.out] at this
    rw [valN_snoc, HL.out, ← this, Nat.mul_comm]
   ·have := HA.out
    rw [Nat.sub_self, List.replicate_zero] at this
    exact this
theorem unshift_word {x n : Nat} (hx : x < 4294967296) (hn : n < 32) : ∃ h r y lo, x = 2 ^ n * h + r ∧ r < 2 ^ n ∧ h < 2 ^ (32 - n) ∧ x / 2 ^ n = h ∧ y = x * 2 ^ (32 - n) ∧ y = lo + 4294967296 * h ∧ lo = r * 2 ^ (32 - n) ∧ lo % 2 ^ (32 - n) = 0 ∧ lo + 2 ^ (32 - n) ≤ 4294967296 := by
 have hB := pow_split hn
 have hr := Nat.mod_lt x (show 0 < 2 ^ n from Nat.pow_pos (by decide))
 refine ⟨x / 2 ^ n, x % 2 ^ n, _, _, (Nat.div_add_mod x (2 ^ n)).symm, hr, Nat.div_lt_of_lt_mul (by rw [hB]; exact hx), rfl, rfl, ?_, rfl, Nat.mul_mod_left _ _, ?_⟩
 ·have := Nat.div_add_mod x (2 ^ n)
  generalize 2 ^ n = p at *
  generalize 2 ^ (32 - n) = q at *
  generalize x / p = dd at *
  generalize x % p = mm at *
  subst this
  rw [← hB]
  grind
 ·have h2 := Nat.mul_le_mul_right (2 ^ (32 - n)) (show x % 2 ^ n + 1 ≤ 2 ^ n by omega)
  rw [hB, Nat.add_mul, Nat.one_mul] at h2
  exact h2
theorem or_low {t lo p : Nat} (ht : t < 2 ^ p) (h0 : lo % 2 ^ p = 0) (hl : lo + 2 ^ p ≤ 4294967296) : bits .or .u32 (t : Int) (lo : Int) = ((lo + t : Nat) : Int) := by
 rw [bits_or_comm]
 have e : (2 : Int) ^ p = ((2 ^ p : Nat) : Int) := by push_cast; rfl
 have := bits_join .u32 32 (by decide) (fun n h0 h1 => IntWalk.u32_in n ⟨h0, by omega⟩) p (lo : Int) (t : Int) (by omega) (by rw [e, ← Int.natCast_emod, h0]; rfl) (by omega) (by omega) (by rw [e]; omega) (by omega)
 rw [this]
 omega
theorem or_zero {h : Nat} (hh : h < 4294967296) : bits .or .u32 0 (h : Int) = (h : Int) := by
 rw [bits_or_comm]
 have := bits_join .u32 32 (by decide) (fun n h0 h1 => IntWalk.u32_in n ⟨h0, by omega⟩) 0 (h : Int) 0 (by omega) (by simp) (by omega) (by omega) (by omega) (by omega)
 rw [this]
 omega
theorem wrap_shift2 {x y p : Nat} (hx : x < 4294967296) (hp : p ≤ 32) (hy : y = x * 2 ^ p) : IntKind.u64.wrap ((x : Int) * 2 ^ p) = (y : Int) := by
 have e : (x : Int) * 2 ^ p = (y : Int) := by rw [hy]; push_cast; rfl
 have h3 : 2 ^ p ≤ 2 ^ 32 := Nat.pow_le_pow_right (by decide) hp
 have h1 : x * 2 ^ p ≤ 4294967295 * 2 ^ 32 := Nat.mul_le_mul (by omega) h3
 rw [e, IntWalk.u64_in _ (by omega)]
theorem un_step {s d t x p q h r r0 lo P : Nat} (hs : s = p * (d + P * t) + r0) (hx : x = p * h + r) (hl : lo = r * q) (hB : p * q = 4294967296) :
  s + P * 4294967296 * x = p * (d + P * (lo + t) + P * 4294967296 * h) + r0 := by
 subst hs hx hl
 rw [← hB]
 grind
set_option maxHeartbeats 8000000 in
set_option maxRecDepth 100000 in
theorem unshifted_calls (w : World) (A : Option Addr) (c : Nat) (xs : List Nat) (n : Nat) (h : Rd w (.slice A xs.length c) xs) (hlx : xs.length ≤ 100000000000) (hn : n < 32) :
  Calls Tryz.prog 157 #[.slice A xs.length c, .int .i64 n] w fun e w' => WPost w (valN xs / 2 ^ n) e w' := by
 have HR := Hd h
 clear h
 go_enter Tryz.func157, Tryz.ntmps157
 have hmk := make_words 111 Tryz.underlying111 xs.length (by omega)
 go_wp2_with fail
 clear hmk
 have hw0 := gb_alloc (gb_refl w none) (zw xs.length)
 have ha0 := zw_arr w xs.length
 generalize w.alloc (zw xs.length) = W0 at *
 go_loopw [13] (fun vi wr => ∃ (i r0 : Nat) (d : List Nat), i ≤ xs.length ∧ vi = .int .i64 (i : Int) ∧ r0 < 2 ^ n ∧ d.length = i ∧ Wd d ∧
   valN (xs.take i) = 2 ^ n * valN d + r0 ∧ (0 < i → nat d (i - 1) < 2 ^ (32 - n)) ∧ (i = 0 → r0 = 0) ∧ Arr .u32 wr w.heap.size 103 (ints (d ++ List.replicate (xs.length - i) 0)) ∧ w.grownBy wr none) (fun vi _ => xs.length - (intOf vi).toNat)
 case atStart => exact ⟨0, 0, [], by omega, rfl, Nat.pow_pos (by decide), rfl, (fun x hx => (by cases hx)), by simp [valN], by omega, by omega, ha0, hw0⟩
 case round =>
  obtain ⟨i, r0, d, hi, rfl, hr0, hdl, hdw, hval, hdt, hr00, harr, hgb⟩ := hrel
  have HD := Hd hdw
  have HV := Hd hval
  have HA := Hd harr
  have HG := Hd hgb
  have HL := Hd hdl
  have HT := Hd hdt
  have HR0 := Hd hr00
  clear hdw hval harr hdl hdt hr00
  by_cases hlx2 : i < xs.length
  ·have HRr := Hd (HR.out.gb hgb)
   clear hgb
   obtain ⟨g, o, rfl, hg, hcell⟩ := HRr.out.cell (j := i) hlx2
   have n1 : (i : Int) < (xs.length : Int) := by omega
   have n3 : (i : Int).toNat = i := by omega
   have n4 : (0 : Int) ≤ (i : Int) := by omega
   have n0 : (0 : Int) ≤ (n : Int) := by omega
   have nn : (n : Int).toNat = n := by omega
   have hx := nat_lt HR.out.wd i
   obtain ⟨x, hxx⟩ : ∃ x, x = nat xs i := ⟨_, rfl⟩
   rw [← hxx] at hx hcell
   have HXX := Hd hxx
   clear hxx
   have f0 : IntKind.u64.wrap (x : Int) = (x : Int) := IntWalk.u64_in _ (by omega)
   obtain ⟨h, r, y, lo, hxr, hr, hh, hdiv, hy, hs, hlo, hl0, hll⟩ := unshift_word hx hn
   have hp32 : 2 ^ (32 - n) ≤ 4294967296 := Nat.le_trans (Nat.pow_le_pow_right (by decide) (Nat.sub_le 32 n)) (by decide)
   have hpos : 0 < 2 ^ (32 - n) := Nat.pow_pos (by decide)
   have hh32 : h < 4294967296 := by omega
   have f1 : (x : Int) / 2 ^ n = (h : Int) := by
    have e : (2 : Int) ^ n = ((2 ^ n : Nat) : Int) := by push_cast; rfl
    rw [e, ← Int.natCast_ediv, hdiv]
   have hor0 := or_zero hh32
   have hz : List.replicate (xs.length - i) 0 = 0 :: List.replicate (xs.length - (i + 1)) 0 := by rw [← List.replicate_succ]; congr 1; omega
   have HA2 : Hid (Arr .u32 wr w.heap.size 103 (ints (d ++ 0 :: List.replicate (xs.length - (i + 1)) 0))) := by have := HA.out; rw [hz] at this; exact this
   clear HA hz
   have hco : wr.cell? ⟨w.heap.size, i, none⟩ = some (.int .u32 0) := by
    have h1 := HA2.out.cell i (by rw [ints_length]; simp [HL.out])
    have h2 := nth_ints (d ++ 0 :: List.replicate (xs.length - (i + 1)) 0) i
    unfold nth at h2
    rw [h1, h2, nat_append_right (by rw [HL.out]; exact Nat.le_refl _), HL.out, Nat.sub_self]
    rfl
   have hfr := HA2.out.frozen i
   have HA3 : Hid (Arr .u32 (wr.setCell ⟨w.heap.size, i, none⟩ (.int .u32 (h : Int))).drew w.heap.size 103 (ints ((d ++ [h]) ++ List.replicate (xs.length - (i + 1)) 0))) := by
    have := HA2.out.set i (h : Int)
    rw [ints_set, List.set_append_right _ _ (by rw [HL.out]; exact Nat.le_refl _), HL.out, Nat.sub_self, List.set_cons_zero] at this
    rw [List.append_assoc]
    exact this
   have HG3 : Hid (w.grownBy (wr.setCell ⟨w.heap.size, i, none⟩ (.int .u32 (h : Int))).drew none) := gb_drew (gb_set HG.out (.inl (Nat.le_refl _)) _)
   by_cases h0 : i = 0
   ·have m1 : ¬ (i : Int) > 0 := by omega
    have HXR := Hd hxr
    have HI0 := Hd h0
    clear hxr hdiv hy hs hlo hl0 hll h0
    go_wp2_with fail
    go_still_tail 9, (by kernel_rfl)
    go_wp2_with fail
    go_roundw
    case rel =>
     have h0 : i = 0 := HI0.out
     subst h0
     have hd0 : d = [] := List.eq_nil_of_length_eq_zero HL.out
     refine ⟨1, r, d ++ [h], by omega, by go_num, hr, by simp [HL.out], HD.out.snoc hh32, ?_, fun _ => ?_, by omega, HA3.out, HG3.out⟩
     ·rw [valN_snoc, HL.out, valN_take_succ _ _ hlx2, ← HXX.out, hd0]
      simpa [valN] using HXR.out
     ·rw [hd0]
      exact hh
    case measure => simp [intOf]; omega
   ·have m1 : (i : Int) > 0 := by omega
    obtain ⟨dd, t, hdd, hddl⟩ : ∃ dd t, d = dd ++ [t] ∧ dd.length = i - 1 := by
     refine ⟨d.take (i - 1), nat d (i - 1), ?_, by rw [List.length_take, HL.out]; omega⟩
     rw [← take_succ_nat d (i - 1) (by rw [HL.out]; omega), show i - 1 + 1 = i by omega, List.take_of_length_le (by rw [HL.out]; exact Nat.le_refl _)]
    have ht : t < 2 ^ (32 - n) := by
     have := HT.out (by omega)
     rw [hdd, nat_append_right (by rw [hddl]; exact Nat.le_refl _), hddl, Nat.sub_self] at this
     exact this
    have f2 := wrap_shift2 hx (Nat.sub_le 32 n) hy
    have f3 : IntKind.u32.wrap (y : Int) = (lo : Int) := by rw [IntKind.wrap_u32]; omega
    have hmin : ∀ p, p = 32 - n → min p 64 = p := fun p hp => by omega
    have f33 : (y : Int) % 4294967296 = (lo : Int) := by omega
    have hor := or_low ht hl0 hll
    obtain ⟨s, hss⟩ : ∃ s, s = lo + t := ⟨_, rfl⟩
    have hs32 : s < 4294967296 := by omega
    rw [← hss] at hor
    have k0 : IntKind.i64.wrap (32 - (n : Int)) = ((32 - n : Nat) : Int) := by rw [IntWalk.i64_in _ (by omega)]; omega
    obtain ⟨p, hp⟩ : ∃ p, p = 32 - n := ⟨_, rfl⟩
    rw [← hp] at k0 f2
    have hmn := hmin p hp
    clear hmin
    have he : bits .or .u32 (t : Int) (IntKind.u64.wrap ((x : Int) * 2 ^ min p 64) % 4294967296) = (s : Int) := by rw [hmn, f2, f33, hor]
    have HE := Hd he
    clear he
    have k00 : (0 : Int) ≤ (p : Int) := by omega
    have k01 : (p : Int).toNat = p := by omega
    have k1 : IntKind.i64.wrap ((i : Int) - 1) = (i : Int) - 1 := IntWalk.i64_in _ (by omega)
    have k2 : (i : Int) - 1 < (xs.length : Int) := by omega
    have k3 : ((i : Int) - 1).toNat = i - 1 := by omega
    have k4 : i - 1 < xs.length := by omega
    have k5 : 0 ≤ (i : Int) - 1 := by omega
    have k6 : (1 : Int) ≤ (i : Int) := by omega
    have k7 : 1 ≤ i := by omega
    have k8 : 0 < i := by omega
    have hco2 : (wr.setCell ⟨w.heap.size, i, none⟩ (.int .u32 (h : Int))).drew.cell? ⟨w.heap.size, i - 1, none⟩ = some (.int .u32 (t : Int)) := by
     have h1 := HA3.out.cell (i - 1) (by rw [ints_length]; simp [HL.out]; omega)
     have h2 := nth_ints ((d ++ [h]) ++ List.replicate (xs.length - (i + 1)) 0) (i - 1)
     unfold nth at h2
     rw [h1, h2, nat_append_left (by simp [HL.out]; omega), nat_append_left (by rw [HL.out]; omega), hdd, nat_append_right (by rw [hddl]; exact Nat.le_refl _), hddl, Nat.sub_self]
     rfl
    have hfr2 := HA3.out.frozen (i - 1)
    have HXR := Hd hxr
    have HSS := Hd hss
    have HLO := Hd hlo
    have HDD := Hd hdd
    have HDDL := Hd hddl
    clear hxr hdiv hy hs hlo hl0 hll hss hdd hddl hp
    go_wp2_with fail
    go_still_tail 9, (by kernel_rfl)
    go_wp2_with fail
    generalize (wr.setCell ⟨w.heap.size, i, none⟩ (.int .u32 (h : Int))).drew = W2 at *
    go_still_tail 13, (by kernel_rfl)
    go_wp2_with fail
    go_roundw
    case rel =>
     refine ⟨i + 1, r0, dd ++ [s] ++ [h], by omega, by go_num, hr0, by simp [HDDL.out]; omega, ((HDD.out ▸ HD.out).left.snoc hs32).snoc hh32, ?_, fun _ => ?_, by omega, ?_, gb_drew (gb_set HG3.out (.inl (Nat.le_refl _)) _)⟩
     ·have h1 := HV.out
      rw [HDD.out, valN_snoc, HDDL.out] at h1
      rw [valN_snoc, valN_snoc, List.length_append, HDDL.out, valN_take_succ _ _ hlx2, ← HXX.out, HSS.out]
      have e : 4294967296 ^ i = 4294967296 ^ (i - 1) * 4294967296 := by rw [← Nat.pow_succ]; congr 1; omega
      have e2 : 4294967296 ^ (i - 1 + [lo + t].length) = 4294967296 ^ (i - 1) * 4294967296 := Nat.pow_succ ..
      rw [e, e2]
      exact un_step h1 HXR.out HLO.out (pow_split hn)
     ·rw [show i + 1 - 1 = (dd ++ [s]).length by simp [HDDL.out]; omega, nat_append_right (Nat.le_refl _), Nat.sub_self]
      exact hh
     ·have := HA3.out.set (i - 1) (s : Int)
      rw [ints_set, HDD.out] at this
      rw [List.append_assoc, List.append_assoc, List.set_append_right _ _ (by rw [HDDL.out]; exact Nat.le_refl _), HDDL.out, Nat.sub_self] at this
      simp only [List.cons_append, List.nil_append, List.set_cons_zero] at this
      simp only [List.append_assoc, List.cons_append, List.nil_append]
      first
       | exact this
       | (rw [HE.out]; exact this)
    case measure => simp [intOf]; omega
  ·obtain rfl : i = xs.length := by omega
   have ha2 := HA.out
   rw [Nat.sub_self, List.replicate_zero, List.append_nil] at ha2
   have hrd := Rd.of_arr ha2 HD.out
   have HRD := Hd (show Rd wr (.slice (some ⟨w.heap.size, 0, none⟩) d.length xs.length) d by have hl := HL.out; rw [hl] at hrd ⊢; exact hrd)
   clear ha2 hrd hgb
   go_wp2_with fail
   have htr := trim_rn HRD.out (by rw [HL.out]; omega)
   rw [HL.out] at htr
   refine htr.mono ?_
   rintro e w' ⟨v, rfl, hv, hb⟩
   have hval : valN d = valN xs / 2 ^ n := by
    have := HV.out
    rw [List.take_length] at this
    rw [this, Nat.mul_add_div (Nat.pow_pos (by decide)), Nat.div_eq_of_lt hr0, Nat.add_zero]
   rw [hval] at hv
   have HBB := Hd (gb_to_below (gb_below HG.out hb))
   go_wp2_with fail
   go_ret
   exact ⟨_, rfl, hv, HBB.out⟩
open Go.Shelf in
def renZ : Ren := { f := fun x => match x with | 133 => 154 | 128 => 161 | n => n, t := fun x => match x with | 51 => 103 | 3 => 3 | 4 => 4 | 46 => 138 | 5 => 5 | 9 => 9 | n => n, g := fun x => x }
open Go.Shelf in
theorem laysZ : Lays.n133 Tryz.prog renZ where
 mixed := by kernel_rfl
 f128 := Tryz.func161.trans (by kernel_rfl)
 f133 := Tryz.func154.trans (by kernel_rfl)
 t3 := Tryz.underlying3
 a3 := Tryz.isAgg3
 z3 := Tryz.sizeOf3
 v3 := Tryz.zeroValue3
 t4 := Tryz.underlying4
 a4 := Tryz.isAgg4
 z4 := Tryz.sizeOf4
 v4 := Tryz.zeroValue4
 t5 := Tryz.underlying5
 a5 := Tryz.isAgg5
 z5 := Tryz.sizeOf5
 v5 := Tryz.zeroValue5
 t9 := Tryz.underlying9
 a9 := Tryz.isAgg9
 z9 := Tryz.sizeOf9
 v9 := Tryz.zeroValue9
 t46 := Tryz.underlying138
 a46 := Tryz.isAgg138
 z46 := Tryz.sizeOf138
 v46 := Tryz.zeroValue138
 t51 := Tryz.underlying103
 a51 := Tryz.isAgg103
 z51 := Tryz.sizeOf103
 v51 := Tryz.zeroValue103
theorem zeros_calls (d : Nat) (w : World) (h1 : d < 4294967296) :
  Calls Tryz.prog 154 #[.int .u32 (d : Int)] w fun e w' => e = .returned (.int .i64 (32 - (Go.Lib.bitLen d : Int))) ∧ w' = w :=
 Go.Proofs.Any.bits_LeadingZeros32 laysZ (d : Int) w (by omega) (by omega)
theorem bitLen_two (x : Nat) (h0 : x ≠ 0) (h : x < 18446744073709551616) : x < 2 ^ Go.Lib.bitLen x ∧ 2 ^ (Go.Lib.bitLen x - 1) ≤ x := by
 induction x using Nat.strongRecOn with
 | ind x ih =>
  by_cases h1 : x = 1
  ·subst h1
   decide
  ·have e := Go.Lib.bitLen_half x h0 h
   obtain ⟨a, b⟩ := ih (x / 2) (by omega) (by omega) (by omega)
   have hp : 0 < Go.Lib.bitLen (x / 2) := by
    rcases Nat.eq_zero_or_pos (Go.Lib.bitLen (x / 2)) with h | h
    ·rw [h] at a; omega
    ·exact h
   rw [e]
   obtain ⟨k, hk⟩ : ∃ k, Go.Lib.bitLen (x / 2) = k + 1 := ⟨_, (Nat.succ_pred_eq_of_pos hp).symm⟩
   rw [hk] at a b ⊢
   rw [Nat.add_sub_cancel] at b
   rw [show 1 + (k + 1) - 1 = k + 1 by omega, show 1 + (k + 1) = k + 2 by omega]
   rw [Nat.pow_succ] at a ⊢
   rw [Nat.pow_succ]
   omega
theorem zeros_norm {d : Nat} (h0 : d ≠ 0) (h1 : d < 4294967296) : ∃ n : Nat, n < 32 ∧ (32 - (Go.Lib.bitLen d : Int)) = (n : Int) ∧ 2147483648 ≤ d * 2 ^ n ∧ d * 2 ^ n < 4294967296 := by
 obtain ⟨ha, hb⟩ := bitLen_two d h0 (by omega)
 have hle : Go.Lib.bitLen d ≤ 32 := Go.Lib.bitLen_le d 32 (by decide) h1
 have hpos : 0 < Go.Lib.bitLen d := by
  rcases Nat.eq_zero_or_pos (Go.Lib.bitLen d) with h | h
  ·rw [h] at ha; omega
  ·exact h
 refine ⟨32 - Go.Lib.bitLen d, by omega, by omega, ?_, ?_⟩
 ·have := Nat.mul_le_mul_right (2 ^ (32 - Go.Lib.bitLen d)) hb
  rwa [← Nat.pow_add, show Go.Lib.bitLen d - 1 + (32 - Go.Lib.bitLen d) = 31 by omega] at this
 ·have := Nat.mul_lt_mul_of_pos_right ha (Nat.pow_pos (n := 32 - Go.Lib.bitLen d) (show 0 < 2 by decide))
  rwa [← Nat.pow_add, show Go.Lib.bitLen d + (32 - Go.Lib.bitLen d) = 32 by omega] at this
theorem valN_top2 {v : List Nat} (hw : Wd v) (hn : 2 ≤ v.length) : ∃ lowV, lowV < 4294967296 ^ (v.length - 2) ∧
  valN v = lowV + 4294967296 ^ (v.length - 2) * (nat v (v.length - 2) + 4294967296 * nat v (v.length - 1)) := by
 refine ⟨valN (v.take (v.length - 2)), ?_, ?_⟩
 ·have := valN_lt _ (hw.take (v.length - 2))
  rwa [List.length_take, Nat.min_eq_left (by omega)] at this
 ·conv => lhs; rw [valN_split v (v.length - 2) (by omega)]
  rw [valN_drop _ _ (by omega), show v.length - 2 + 1 = v.length - 1 by omega, valN_drop _ _ (by omega), show v.length - 1 + 1 = v.length by omega, List.drop_length]
  simp [valN]
theorem valN_top3 {s : List Nat} (hw : Wd s) (n : Nat) (hn : 2 ≤ n) (hl : s.length = n + 1) : ∃ lowS, lowS < 4294967296 ^ (n - 2) ∧
  valN s = lowS + 4294967296 ^ (n - 2) * (nat s (n - 2) + 4294967296 * (nat s n * 4294967296 + nat s (n - 1))) := by
 refine ⟨valN (s.take (n - 2)), ?_, ?_⟩
 ·have := valN_lt _ (hw.take (n - 2))
  rwa [List.length_take, Nat.min_eq_left (by omega)] at this
 ·conv => lhs; rw [valN_split s (n - 2) (by omega)]
  rw [valN_drop _ _ (by omega), show n - 2 + 1 = n - 1 by omega, valN_drop _ _ (by omega), show n - 1 + 1 = n by omega, valN_drop _ _ (by omega), List.drop_of_length_le (by omega)]
  simp only [valN, Nat.mul_zero, Nat.add_zero]
  congr 3
  omega
theorem guess_pass {g V S v1 v2 s0 top r lowV lowS p : Nat} (hV : V = lowV + p * (v2 + 4294967296 * v1)) (hlv : lowV < p) (hS : S = lowS + p * (s0 + 4294967296 * top))
  (hv1 : 0 < v1) (h1 : g * v1 + r = top) (hg : g < 4294967296) (h2 : g * v2 ≤ r * 4294967296 + s0) : g * V < S + V := by
 have e1 : g * V = g * lowV + p * (g * v2 + 4294967296 * (g * v1)) := by subst hV; grind
 have e2 : p * (g * v2 + 4294967296 * (g * v1)) ≤ p * (r * 4294967296 + s0 + 4294967296 * (g * v1)) := Nat.mul_le_mul_left p (by omega)
 have e3 : p * (r * 4294967296 + s0 + 4294967296 * (g * v1)) = p * (s0 + 4294967296 * top) := by rw [← h1]; congr 1; omega
 have e4 : g * lowV ≤ g * p := Nat.mul_le_mul_left g (by omega)
 have e5 : g * p ≤ 4294967295 * p := Nat.mul_le_mul_right p (by omega)
 have e6 : p * 4294967296 ≤ p * (v2 + 4294967296 * v1) := Nat.mul_le_mul_left p (by omega)
 have e7 : 4294967295 * p + p = p * 4294967296 := by omega
 omega
theorem guess_down {g V S v1 v2 s0 top r lowV lowS p : Nat} (hV : V = lowV + p * (v2 + 4294967296 * v1)) (hS : S = lowS + p * (s0 + 4294967296 * top)) (hls : lowS < p)
  (h1 : g * v1 + r = top) (h2 : r * 4294967296 + s0 < g * v2) : S < g * V := by
 have e1 : g * V = g * lowV + p * (g * v2 + 4294967296 * (g * v1)) := by subst hV; grind
 have e2 : p * (r * 4294967296 + s0 + 4294967296 * (g * v1) + 1) ≤ p * (g * v2 + 4294967296 * (g * v1)) := Nat.mul_le_mul_left p (by omega)
 have e3 : p * (r * 4294967296 + s0 + 4294967296 * (g * v1) + 1) = p * (s0 + 4294967296 * top) + p := by rw [← h1]; grind
 omega
theorem head_le {V S v1 v2 s0 s1 s2 lowV lowS p : Nat} (hV : V = lowV + p * (v2 + 4294967296 * v1)) (hlv : lowV < p) (hv2 : v2 < 4294967296) (hS : S = lowS + p * (s0 + 4294967296 * (s2 * 4294967296 + s1)))
  (hlt : S < 4294967296 * V) : s2 ≤ v1 := by
 refine Nat.le_of_not_lt fun hh => ?_
 have e1 : p * (4294967296 * ((v1 + 1) * 4294967296)) ≤ p * (s0 + 4294967296 * (s2 * 4294967296 + s1)) := Nat.mul_le_mul_left p (by have := Nat.mul_le_mul_right 4294967296 hh; omega)
 have e2 : p * (v2 + 4294967296 * v1) + p ≤ p * ((v1 + 1) * 4294967296) := by
  have : p * (v2 + 4294967296 * v1 + 1) ≤ p * ((v1 + 1) * 4294967296) := Nat.mul_le_mul_left p (by omega)
  rw [Nat.mul_add, Nat.mul_one] at this
  exact this
 have e3 : p * (4294967296 * ((v1 + 1) * 4294967296)) = 4294967296 * (p * ((v1 + 1) * 4294967296)) := by grind
 omega
theorem guess_small {g v1 r top s1 s2 : Nat} (h1 : g * v1 + r = top) (ht : top = s2 * 4294967296 + s1) (hs1 : s1 < 4294967296) (hle : s2 ≤ v1) (hr : 4294967296 ≤ r) : g < 4294967296 := by
 refine Nat.lt_of_not_le fun hh => ?_
 have e1 : 4294967296 * v1 ≤ g * v1 := Nat.mul_le_mul_right v1 hh
 have e2 : s2 * 4294967296 ≤ v1 * 4294967296 := Nat.mul_le_mul_right _ hle
 omega
theorem quot_small {S V : Nat} (hlt : S < 4294967296 * V) : S / V < 4294967296 := Nat.div_lt_of_lt_mul (by rw [Nat.mul_comm]; exact hlt)
theorem quot_first {S V v1 v2 s0 top lowV lowS p g r : Nat} (hV : V = lowV + p * (v2 + 4294967296 * v1)) (hS : S = lowS + p * (s0 + 4294967296 * top)) (hls : lowS < p)
  (hs0 : s0 < 4294967296) (h1 : g * v1 + r = top) (hr : r < v1) : S / V ≤ g := by
 refine Nat.le_of_lt_succ (Nat.div_lt_of_lt_mul ?_)
 have e0 : (g + 1) * v1 = g * v1 + v1 := by grind
 have e1 : p * (4294967296 * (top + 1)) ≤ p * (4294967296 * ((g + 1) * v1)) := Nat.mul_le_mul_left p (Nat.mul_le_mul_left _ (by omega))
 have e2 : p * (4294967296 * ((g + 1) * v1)) ≤ V * (g + 1) := by
  subst hV
  have : p * (4294967296 * ((g + 1) * v1)) + (lowV + p * v2) * (g + 1) = (lowV + p * (v2 + 4294967296 * v1)) * (g + 1) := by grind
  omega
 have e3 : p * (s0 + 4294967296 * top + 1) ≤ p * (4294967296 * (top + 1)) := Nat.mul_le_mul_left p (by omega)
 rw [Nat.mul_add p, Nat.mul_one] at e3
 show S < V * (g + 1)
 omega
theorem take_step {dn s gv c b c' b' lo s1 v1 g x P : Nat} (h : dn + g * gv = s + (c + b) * P) (h1 : c + g * v1 = lo + 4294967296 * c') (h2 : s1 + b' * 4294967296 = x + (lo + b)) :
  (dn + P * x) + g * (gv + P * v1) = (s + P * s1) + (c' + b') * (P * 4294967296) := by
 grind
theorem back_step {dn d0 gv c c' lo u v P : Nat} (h : dn + c * P = d0 + gv) (h1 : c + (u + v) = lo + 4294967296 * c') : (dn + P * lo) + c' * (P * 4294967296) = (d0 + P * u) + (gv + P * v) := by
 grind
theorem digit_exact {D g V s2 T Sl S P : Nat} (h : D + g * V = Sl + T * P) (hS : S = Sl + P * s2) (hT : T ≤ s2) (hV : 0 < V) (hq : S / V ≤ g) : g = S / V ∧ D + P * (s2 - T) = S % V := by
 have e : D + P * (s2 - T) + g * V = S := by
  rw [hS, Nat.mul_sub]
  have : T * P ≤ P * s2 := by rw [Nat.mul_comm]; exact Nat.mul_le_mul_left P hT
  have e2 : P * T = T * P := Nat.mul_comm _ _
  omega
 have hg : g ≤ S / V := (Nat.le_div_iff_mul_le hV).2 (by omega)
 have hge : g = S / V := Nat.le_antisymm hg hq
 refine ⟨hge, ?_⟩
 have := Nat.div_add_mod S V
 rw [← hge, Nat.mul_comm] at this
 omega
theorem digit_back {D D' c g V s2 T Sl S P : Nat} (h : D + g * V = Sl + T * P) (hS : S = Sl + P * s2) (hT : s2 < T) (hb : D' + c * P = D + V) (hV : 0 < V) (hVP : V < P) (hD : D' < P) (hD0 : D < P)
  (hc : c ≤ 1) (hq : S / V ≤ g) (hg : g * V < S + V) : g = S / V + 1 ∧ T = s2 + 1 ∧ c = 1 ∧ D' = S % V := by
 have hlt : S < g * V := by
  have : P * s2 + P ≤ T * P := by rw [Nat.mul_comm P s2, ← Nat.succ_mul]; exact Nat.mul_le_mul_right P hT
  omega
 have hne : g ≠ 0 := by rintro rfl; omega
 obtain ⟨k, rfl⟩ : ∃ k, g = k + 1 := ⟨g - 1, by omega⟩
 have hk : (k + 1) * V = k * V + V := Nat.succ_mul k V
 have hkq : S / V = k := by
  refine Nat.div_eq_of_lt_le ?_ ?_
  ·omega
  ·exact hlt
 have hdm := Nat.div_add_mod S V
 rw [hkq, Nat.mul_comm] at hdm
 have hml := Nat.mod_lt S hV
 -- S + V = (k+1) V + rest
 obtain ⟨t, rfl⟩ : ∃ t, T = s2 + 1 + t := ⟨T - s2 - 1, by omega⟩
 have e1 : (s2 + 1 + t) * P = P * s2 + P + t * P := by grind
 rcases Nat.le_one_iff_eq_zero_or_eq_one.1 hc with rfl | rfl
 ·omega
 ·have ht : t = 0 := by
   rcases Nat.eq_zero_or_pos t with h | h
   ·exact h
   ·have : P ≤ t * P := Nat.le_mul_of_pos_left P h
    omega
  subst ht
  refine ⟨by omega, rfl, rfl, by omega⟩
theorem arr_cell {w : World} {g e j k : Nat} {P M Z : List Nat} (h : Arr .u32 w g e (ints (P ++ M ++ Z))) (hP : P.length = j) (hk : k < M.length) : w.cell? ⟨g, j + k, none⟩ = some (.int .u32 (nat M k : Nat)) := by
 have h1 := h.cell (j + k) (by rw [ints_length, List.length_append, List.length_append]; omega)
 have h2 := nth_ints (P ++ M ++ Z) (j + k)
 unfold nth at h2
 rw [h1, h2, ← hP, nat_mid _ _ _ _ hk]
theorem arr_set {w : World} {g e j k x : Nat} {P M Z : List Nat} (h : Arr .u32 w g e (ints (P ++ M ++ Z))) (hP : P.length = j) (hk : k < M.length) :
  Arr .u32 (w.setCell ⟨g, j + k, none⟩ (.int .u32 (x : Int))) g e (ints (P ++ M.set k x ++ Z)) := by
 have := h.set (j + k) (x : Int)
 rw [ints_set] at this
 rw [← hP] at this ⊢
 rw [set_mid _ _ _ _ _ hk] at this
 exact this
theorem Rd.cell' {w : World} {A : Option Addr} {c : Nat} {xs : List Nat} (h : Rd w (.slice A xs.length c) xs) {g o : Nat} (hA : A = some ⟨g, o, none⟩) {j : Nat} (hj : j < xs.length) : w.cell? ⟨g, o + j, none⟩ = some (.int .u32 (nat xs j : Nat)) := by
 obtain ⟨g', o', e, _, hc⟩ := h.cell hj
 rw [hA] at e
 injection e with e
 injection e with e1 e2
 subst e1
 subst e2
 exact hc
def DigitPost (w : World) (g : Nat) (P seg Z vs : List Nat) (e : Ending) (w' : World) : Prop := ∃ seg', e = .returned (.int .u32 ((valN seg / valN vs : Nat) : Int)) ∧ seg'.length = vs.length + 1 ∧ Wd seg' ∧ valN seg' = valN seg % valN vs ∧
 Arr .u32 w' g 103 (ints (P ++ seg' ++ Z)) ∧ w.grownBy w' (some g)
theorem div_facts {z d qq rr : Nat} (h1 : z / d = qq) (h2 : z % d = rr) : ((z : Int) / (d : Int) = (qq : Int) ∧ (z : Int) % (d : Int) = (rr : Int)) ∧ (z : Int).tdiv (d : Int) = (qq : Int) ∧ (z : Int).tmod (d : Int) = (rr : Int) := by
 have g1 : (z : Int) / (d : Int) = (qq : Int) := by rw [← Int.natCast_ediv, h1]
 have g2 : (z : Int) % (d : Int) = (rr : Int) := by rw [← Int.natCast_emod, h2]
 exact ⟨⟨g1, g2⟩, by rw [Int.tdiv_eq_ediv_of_nonneg (by omega), g1], by rw [Int.tmod_eq_emod_of_nonneg (by omega), g2]⟩
theorem take_all {l : List Nat} {n : Nat} (h : l.length = n) : l.take n = l := List.take_of_length_le (by omega)
theorem digit_seg {seg : List Nat} {n : Nat} (hl : seg.length = n + 1) : valN seg = valN (seg.take n) + 4294967296 ^ n * nat seg n := by
 conv => lhs; rw [← take_all hl]
 exact valN_take_succ seg n (by omega)
set_option maxHeartbeats 16000000 in
set_option maxRecDepth 100000 in
theorem digit_calls (w : World) (g j cap n : Nat) (P seg Z vs : List Nat) (A : Option Addr) (c : Nat) (h : Arr .u32 w g 103 (ints (P ++ seg ++ Z))) (hP : P.length = j) (hw : Wd seg) (hn : n ≤ 100000000000) (hvn : vs.length = n) (hseg : seg.length = n + 1)
  (h2 : Rd w (.slice A vs.length c) vs) (hne : ∀ b, (Value.slice A vs.length c).ownBlock = some b → b ≠ g) (hn2 : 2 ≤ n) (htop : 2147483648 ≤ nat vs (n - 1)) (hlt : valN seg < 4294967296 * valN vs) (hcap : n + 1 ≤ cap) :
  Calls Tryz.prog 156 #[.slice (some ⟨g, j, none⟩) (n + 1) cap, .slice A vs.length c] w fun e w' => DigitPost w g P seg Z vs e w' := by
 obtain ⟨go, vo, hA, hgl, _⟩ := h2.cell (j := 0) (by omega)
 have hne' : go ≠ g := hne go (by rw [hA]; rfl)
 have HU0 := Hd h
 have HRV := Hd h2
 have HWS := Hd hw
 have HWV := Hd h2.wd
 have HP := Hd hP
 have HNE : Hid (∀ b, (Value.slice A vs.length c).ownBlock = some b → some b ≠ some g) := fun b hb e => hne b hb (by injection e)
 obtain ⟨V, hV⟩ : ∃ V, V = valN vs := ⟨_, rfl⟩
 obtain ⟨S, hS⟩ : ∃ S, S = valN seg := ⟨_, rfl⟩
 have hVP : V < 4294967296 ^ n := by rw [hV, ← hvn]; exact valN_lt vs h2.wd
 have hSseg : S = valN (seg.take n) + 4294967296 ^ n * nat seg n := by rw [hS]; exact digit_seg hseg
 obtain ⟨lowV, hlv, hVe⟩ := valN_top2 h2.wd (by omega)
 obtain ⟨lowS, hls, hSe⟩ := valN_top3 hw n hn2 hseg
 rw [hvn] at hlv hVe
 rw [← hV] at hVe hlt
 rw [← hS] at hSe hlt
 obtain ⟨v1, hv1⟩ : ∃ v1, v1 = nat vs (n - 1) := ⟨_, rfl⟩
 obtain ⟨v2, hv2⟩ : ∃ v2, v2 = nat vs (n - 2) := ⟨_, rfl⟩
 obtain ⟨s0, hs0⟩ : ∃ s0, s0 = nat seg (n - 2) := ⟨_, rfl⟩
 obtain ⟨s1, hs1⟩ : ∃ s1, s1 = nat seg (n - 1) := ⟨_, rfl⟩
 obtain ⟨s2, hs2⟩ : ∃ s2, s2 = nat seg n := ⟨_, rfl⟩
 have b1 : v1 < 4294967296 := by rw [hv1]; exact nat_lt h2.wd _
 have b2 : v2 < 4294967296 := by rw [hv2]; exact nat_lt h2.wd _
 have b3 : s0 < 4294967296 := by rw [hs0]; exact nat_lt hw _
 have b4 : s1 < 4294967296 := by rw [hs1]; exact nat_lt hw _
 have b5 : s2 < 4294967296 := by rw [hs2]; exact nat_lt hw _
 rw [← hv1, ← hv2] at hVe
 rw [← hv1] at htop
 rw [← hs0, ← hs1, ← hs2] at hSe
 rw [← hs2] at hSseg
 obtain ⟨top, htp⟩ : ∃ top, top = s2 * 4294967296 + s1 := ⟨_, rfl⟩
 rw [← htp] at hSe
 have hV0 : 0 < V := by
  have : 0 < 4294967296 ^ (n - 2) * (v2 + 4294967296 * v1) := Nat.mul_pos (Nat.pow_pos (by decide)) (by omega)
  omega
 have hs2v : s2 ≤ v1 := head_le hVe hlv b2 (by rw [hSe, htp]) hlt
 have htop64 : top < 18446744073709551616 := by omega
 have hvn' : ((vs.length : Nat) : Int) = (n : Int) := by rw [hvn]
 have cu2 : w.cell? ⟨g, j + n, none⟩ = some (.int .u32 (s2 : Int)) := by rw [hs2]; exact arr_cell h hP (by omega)
 have cu1 : w.cell? ⟨g, j + (n - 1), none⟩ = some (.int .u32 (s1 : Int)) := by rw [hs1]; exact arr_cell h hP (by omega)
 have cu0 : w.cell? ⟨g, j + (n - 2), none⟩ = some (.int .u32 (s0 : Int)) := by rw [hs0]; exact arr_cell h hP (by omega)
 have cv1 : w.cell? ⟨go, vo + (n - 1), none⟩ = some (.int .u32 (v1 : Int)) := by rw [hv1]; exact h2.cell' hA (by omega)
 have cv2 : w.cell? ⟨go, vo + (n - 2), none⟩ = some (.int .u32 (v2 : Int)) := by rw [hv2]; exact h2.cell' hA (by omega)
 obtain ⟨g0, r0, hg0, hr0⟩ : ∃ g0 r0, top / v1 = g0 ∧ top % v1 = r0 := ⟨_, _, rfl, rfl⟩
 have hgr0 : g0 * v1 + r0 = top := by rw [← hg0, ← hr0, Nat.mul_comm]; exact Nat.div_add_mod top v1
 have hr0v : r0 < v1 := by rw [← hr0]; exact Nat.mod_lt _ (by omega)
 have hq0 : S / V ≤ g0 := quot_first hVe hSe hls b3 hgr0 hr0v
 obtain ⟨⟨df1, df2⟩, df3, df4⟩ := div_facts hg0 hr0
 have hgl0 : g0 ≤ top := by rw [← hg0]; exact Nat.div_le_self _ _
 have HVE := Hd hVe
 have HSE := Hd hSe
 have HSS := Hd hSseg
 have HV := Hd hV
 have HS := Hd hS
 have HTP := Hd htp
 have HV1 := Hd hv1
 have HV2 := Hd hv2
 have HS0 := Hd hs0
 have HS1 := Hd hs1
 have HS2 := Hd hs2
 have HGR := Hd hgr0
 have HAA := Hd hA
 have HVN := Hd hvn
 have HQ0 := Hd hq0
 have HLT := Hd hlt
 have HVP := Hd hVP
 have HLV := Hd hlv
 have HLS := Hd hls
 have HSL := Hd hseg
 have hor := or_word s2 s1 b5 b4
 rw [← htp] at hor
 clear h h2 hVe hSe hSseg hV hS htp hv1 hv2 hs0 hs1 hs2 hgr0 hq0 hlt hVP hlv hls hseg hP hne hw hg0 hr0
 rw [hvn] at HRV HNE ⊢
 subst hA
 clear hvn
 have w1 : IntKind.u64.wrap (s2 : Int) = (s2 : Int) := IntWalk.u64_in _ (by omega)
 have w2 : IntKind.u64.wrap (s1 : Int) = (s1 : Int) := IntWalk.u64_in _ (by omega)
 have w3 : IntKind.u64.wrap ((s2 : Int) * 4294967296) = (s2 : Int) * 4294967296 := IntWalk.u64_in _ (by omega)
 have w4 : IntKind.u64.wrap (v1 : Int) = (v1 : Int) := IntWalk.u64_in _ (by omega)
 have w5 : IntKind.u64.wrap (g0 : Int) = (g0 : Int) := IntWalk.u64_in _ (by omega)
 have w6 : IntKind.u64.wrap (r0 : Int) = (r0 : Int) := IntWalk.u64_in _ (by omega)
 have w7 : IntKind.u64.wrap (v2 : Int) = (v2 : Int) := IntWalk.u64_in _ (by omega)
 have w8 : IntKind.u64.wrap (s0 : Int) = (s0 : Int) := IntWalk.u64_in _ (by omega)
 have i1 : IntKind.i64.wrap ((n : Int) - 1) = (n : Int) - 1 := IntWalk.i64_in _ (by omega)
 have i2 : IntKind.i64.wrap ((n : Int) - 2) = (n : Int) - 2 := IntWalk.i64_in _ (by omega)
 have i3 : ((n : Int) - 1).toNat = n - 1 := by omega
 have i4 : ((n : Int) - 2).toNat = n - 2 := by omega
 have i5 : (0 : Int) ≤ (n : Int) - 1 := by omega
 have i6 : (0 : Int) ≤ (n : Int) - 2 := by omega
 have i7 : (n : Int) - 1 < (n : Int) + 1 := by omega
 have i8 : (n : Int) - 2 < (n : Int) + 1 := by omega
 have i9 : (n : Int) - 1 < (n : Int) := by omega
 have i10 : (n : Int) - 2 < (n : Int) := by omega
 have i11 : (n : Int) < (n : Int) + 1 := by omega
 have i12 : (1 : Int) ≤ (n : Int) := by omega
 have i13 : (2 : Int) ≤ (n : Int) := by omega
 have i14 : 1 ≤ n := by omega
 have i15 : n < n + 1 := by omega
 have d0 : ((v1 : Int) == 0) = false := by
  have : (v1 : Int) ≠ 0 := by omega
  simpa using this
 have d1 : (v1 : Int) ≠ 0 := by omega
 go_enter Tryz.func156, Tryz.ntmps156
 go_wp2_with fail
 go_quiet (fail)
 go_wp2_with fail
 go_quiet (fail)
 go_wp2_with fail
 go_loopw [7, 8] (fun vg vr wr => ∃ (gu r : Nat), vg = .int .u64 (gu : Int) ∧ vr = .int .u64 (r : Int) ∧ gu * v1 + r = top ∧ S / V ≤ gu ∧ r < 4294967296 ∧ w.grownBy wr none) (fun vg _ _ => (intOf vg).toNat)
 case atStart => exact ⟨g0, r0, rfl, rfl, HGR.out, HQ0.out, by omega, gb_drewN (gb_drewN (gb_refl w none) _) _⟩
 case round =>
  obtain ⟨gu, r, rfl, rfl, hgr, hq, hrb, hgb⟩ := hrel
  have HUX := Hd (HU0.out.grown hgb (by simp))
  have HGX := Hd hgb
  have cu0 : wr.cell? ⟨g, j + (n - 2), none⟩ = some (.int .u32 (s0 : Int)) := by rw [HS0.out]; exact arr_cell HUX.out HP.out (by rw [HSL.out]; omega)
  have hcv := HRV.out.gb hgb
  have cv2 : wr.cell? ⟨go, vo + (n - 2), none⟩ = some (.int .u32 (v2 : Int)) := by rw [HV2.out]; exact Rd.cell' (c := c) (by rw [HVN.out]; exact hcv) rfl (by rw [HVN.out]; omega)
  have cv1 : wr.cell? ⟨go, vo + (n - 1), none⟩ = some (.int .u32 (v1 : Int)) := by rw [HV1.out]; exact Rd.cell' (c := c) (by rw [HVN.out]; exact hcv) rfl (by rw [HVN.out]; omega)
  have hgul : gu ≤ top := by
   have : gu * 1 ≤ gu * v1 := Nat.mul_le_mul_left gu (by omega)
   omega
  have e1 : IntKind.u64.wrap ((r : Int) * 4294967296) = (r : Int) * 4294967296 := IntWalk.u64_in _ (by omega)
  have hor2 := or_word r s0 hrb b3
  obtain ⟨z, hz⟩ : ∃ z, z = r * 4294967296 + s0 := ⟨_, rfl⟩
  rw [← hz] at hor2
  obtain ⟨r2, hr2⟩ : ∃ r2, r2 = r + v1 := ⟨_, rfl⟩
  have e2 : IntKind.u64.wrap ((r : Int) + (v1 : Int)) = (r2 : Int) := by rw [IntWalk.u64_in _ (by omega)]; omega
  have HZ := Hd hz
  have HR2 := Hd hr2
  have HGRR := Hd hgr
  have HQQ0 := Hd hq
  clear hz hgb hcv
  by_cases hbig : 4294967296 ≤ gu
  ·have t1 : decide ((gu : Int) ≥ 4294967296) = true := decide_eq_true (by omega)
   obtain ⟨g1, hg1⟩ : ∃ g1, gu = g1 + 1 := ⟨gu - 1, by omega⟩
   have e3 : IntKind.u64.wrap ((gu : Int) - 1) = (g1 : Int) := by rw [IntWalk.u64_in _ (by omega)]; omega
   have hq1 : S / V ≤ g1 := by
    have := quot_small HLT.out
    omega
   have hgr1 : g1 * v1 + r2 = top := by
    have : gu * v1 = g1 * v1 + v1 := by rw [hg1]; exact Nat.succ_mul g1 v1
    omega
   have HGR1 := Hd hgr1
   have HQ11 := Hd hq1
   have hglt : g1 < gu := by omega
   clear hgr1 hq1 hgr hq hr2 hg1
   by_cases hr2b : 4294967296 ≤ r2
   ·have t3 : decide ((r2 : Int) ≥ 4294967296) = true := decide_eq_true (by omega)
    have hgq : g1 < 4294967296 := guess_small HGR1.out HTP.out b4 hs2v hr2b
    have HQ1 := HQ11
    have HQ2 : Hid (g1 * V < S + V) := guess_pass HVE.out HLV.out HSE.out (by omega) HGR1.out hgq (by
     have := Nat.mul_le_mul (show g1 ≤ 4294967295 by omega) (show v2 ≤ 4294967295 by omega)
     omega)
    go_wp2_with fail
    go_quiet (fail)
    go_wp2_with fail
    go_loopw [9, 10, 83] (fun vb vc vi wr => ∃ (i b cy : Nat) (dn : List Nat), i ≤ n ∧ vi = .int .i64 (i : Int) ∧ vb = .int .u64 (b : Int) ∧ vc = .int .u64 (cy : Int) ∧ b ≤ 1 ∧ cy < 4294967296 ∧ dn.length = i ∧ Wd dn ∧
      valN dn + g1 * valN (vs.take i) = valN (seg.take i) + (cy + b) * 4294967296 ^ i ∧ Arr .u32 wr g 103 (ints (P ++ (dn ++ seg.drop i) ++ Z)) ∧ w.grownBy wr (some g)) (fun _ _ vi _ => n - (intOf vi).toNat)
    case atStart => exact ⟨0, 0, 0, [], by omega, rfl, rfl, rfl, by omega, by omega, rfl, (fun x hx => (by cases hx)), by simp [valN], by rw [List.nil_append, List.drop_zero]; exact HUX.out.drewN nq, gb_none (gb_drewN HGX.out nq)⟩
    case round =>
     obtain ⟨i, b, cy, dn, hi, rfl, rfl, rfl, hb, hcy, hdl, hdw, hval, harr, hgb⟩ := hrel
     have HD := Hd hdw
     have HVA := Hd hval
     have HA := Hd harr
     have HG := Hd hgb
     have HL := Hd hdl
     have hml : (dn ++ seg.drop i).length = n + 1 := by rw [List.length_append, List.length_drop, HL.out, HSL.out]; omega
     clear hdw hval harr hdl
     by_cases hin : i < n
     ·have hcv := (HRV.out.grown hgb HNE.out)
      clear hgb
      obtain ⟨y, hy⟩ : ∃ y, y = nat vs i := ⟨_, rfl⟩
      obtain ⟨x, hx⟩ : ∃ x, x = nat seg i := ⟨_, rfl⟩
      have hyb : y < 4294967296 := by rw [hy]; exact nat_lt HWV.out _
      have hxb : x < 4294967296 := by rw [hx]; exact nat_lt HWS.out _
      have cv : wr.cell? ⟨go, vo + i, none⟩ = some (.int .u32 (y : Int)) := by
       rw [hy]
       exact Rd.cell' (c := c) (by rw [HVN.out]; exact hcv) rfl (by rw [HVN.out]; exact hin)
      have cu : wr.cell? ⟨g, j + i, none⟩ = some (.int .u32 (x : Int)) := by
       have := arr_cell HA.out HP.out (k := i) (by rw [hml]; omega)
       rw [nat_pass _ _ _ HL.out, ← hx] at this
       exact this
      have fu := HA.out.frozen (j + i)
      have HY := Hd hy
      have HX := Hd hx
      clear hy hx hcv
      obtain ⟨p, hp⟩ : ∃ p, p = g1 * y := ⟨_, rfl⟩
      have hple : p ≤ 18446744065119617025 := by rw [hp]; exact mul_le_word hgq hyb
      have f1 : IntKind.u64.wrap ((g1 : Int) * (y : Int)) = (p : Int) := mul_wrap hgq hyb hp
      have HPP := Hd hp
      clear hp
      obtain ⟨lo, cy2, hs, hlo⟩ := split_word (cy + p)
      have hcy2 : cy2 < 4294967296 := by omega
      have n1 : (i : Int) < (n : Int) := by omega
      have n2 : (i : Int).toNat = i := by omega
      have n3 : (0 : Int) ≤ (i : Int) := by omega
      have n4 : (i : Int) < (n : Int) + 1 := by omega
      have n5 : i < n + 1 := by omega
      have f2 : IntKind.u64.wrap (y : Int) = (y : Int) := IntWalk.u64_in _ (by omega)
      have f3 : IntKind.u64.wrap (x : Int) = (x : Int) := IntWalk.u64_in _ (by omega)
      have f4 : IntKind.u64.wrap ((cy : Int) + (p : Int)) = (cy : Int) + (p : Int) := IntWalk.u64_in _ (by omega)
      have f5 : IntKind.u32.wrap ((cy : Int) + (p : Int)) = (lo : Int) := by rw [IntKind.wrap_u32]; omega
      have f6 : ((cy : Int) + (p : Int)) / 4294967296 = (cy2 : Int) := by omega
      have f7 : IntKind.u64.wrap (lo : Int) = (lo : Int) := IntWalk.u64_in _ (by omega)
      have f8 : IntKind.u64.wrap ((lo : Int) + (b : Int)) = (lo : Int) + (b : Int) := IntWalk.u64_in _ (by omega)
      have wi : IntKind.i64.wrap ((i : Int) + 1) = (i : Int) + 1 := IntWalk.i64_in _ (by omega)
      have HSW := Hd hs
      by_cases hxt : x < lo + b
      ·have q1 : decide ((x : Int) < (lo : Int) + (b : Int)) = true := decide_eq_true (by omega)
       obtain ⟨nx, hnx⟩ : ∃ nx, x + 1 * 4294967296 = nx + (lo + b) := ⟨x + 4294967296 - (lo + b), by omega⟩
       have hnxb : nx < 4294967296 := by omega
       have f9 : IntKind.u64.wrap ((x : Int) + 4294967296) = (x : Int) + 4294967296 := IntWalk.u64_in _ (by omega)
       have f10 : IntKind.u64.wrap ((x : Int) + 4294967296 - ((lo : Int) + (b : Int))) = (nx : Int) := by rw [IntWalk.u64_in _ (by omega)]; omega
       have f11 : IntKind.u32.wrap (nx : Int) = (nx : Int) := by rw [IntKind.wrap_u32]; omega
       have HNX := Hd hnx
       clear hs hnx
       go_wp2_with fail
       go_roundw
       case rel =>
        refine ⟨i + 1, 1, cy2, dn ++ [nx], by omega, by go_num, rfl, rfl, by omega, hcy2, by simp [HL.out], HD.out.snoc hnxb, ?_, ?_, gb_set HG.out (.inr rfl) _⟩
        ·rw [valN_snoc, HL.out, valN_take_succ _ _ (by rw [HVN.out]; exact hin), valN_take_succ _ _ (by rw [HSL.out]; omega), ← HY.out, ← HX.out, Nat.pow_succ]
         exact take_step HVA.out (by rw [← HPP.out]; exact HSW.out) HNX.out
        ·have := arr_set (x := nx) HA.out HP.out (k := i) (by rw [hml]; omega)
         rw [set_pass _ _ _ _ HL.out (by rw [HSL.out]; omega)] at this
         exact this
       case measure => simp [intOf]; omega
      ·have q1 : decide ((x : Int) < (lo : Int) + (b : Int)) = false := decide_eq_false (by omega)
       obtain ⟨nx, hnx⟩ : ∃ nx, x + 0 * 4294967296 = nx + (lo + b) := ⟨x - (lo + b), by omega⟩
       have hnxb : nx < 4294967296 := by omega
       have f10 : IntKind.u64.wrap ((x : Int) - ((lo : Int) + (b : Int))) = (nx : Int) := by rw [IntWalk.u64_in _ (by omega)]; omega
       have f11 : IntKind.u32.wrap (nx : Int) = (nx : Int) := by rw [IntKind.wrap_u32]; omega
       have HNX := Hd hnx
       clear hs hnx
       go_wp2_with fail
       go_roundw
       case rel =>
        refine ⟨i + 1, 0, cy2, dn ++ [nx], by omega, by go_num, rfl, rfl, by omega, hcy2, by simp [HL.out], HD.out.snoc hnxb, ?_, ?_, gb_set HG.out (.inr rfl) _⟩
        ·rw [valN_snoc, HL.out, valN_take_succ _ _ (by rw [HVN.out]; exact hin), valN_take_succ _ _ (by rw [HSL.out]; omega), ← HY.out, ← HX.out, Nat.pow_succ]
         exact take_step HVA.out (by rw [← HPP.out]; exact HSW.out) HNX.out
        ·have := arr_set (x := nx) HA.out HP.out (k := i) (by rw [hml]; omega)
         rw [set_pass _ _ _ _ HL.out (by rw [HSL.out]; omega)] at this
         exact this
       case measure => simp [intOf]; omega
     ·obtain rfl : i = n := by omega
      obtain ⟨T, hT⟩ : ∃ T, T = cy + b := ⟨_, rfl⟩
      have hds : seg.drop i = [s2] := by
       rw [drop_nat _ _ (by rw [HSL.out]; omega), List.drop_of_length_le (by rw [HSL.out]; exact Nat.le_refl _), HS2.out]
      have cu : wr.cell? ⟨g, j + i, none⟩ = some (.int .u32 (s2 : Int)) := by
       have := arr_cell HA.out HP.out (k := i) (by rw [hml]; omega)
       rw [nat_pass _ _ _ HL.out, ← HS2.out] at this
       exact this
      have fu := HA.out.frozen (j + i)
      have hTB : T ≤ 4294967296 := by omega
      have f1 : IntKind.u64.wrap ((cy : Int) + (b : Int)) = (T : Int) := by rw [IntWalk.u64_in _ (by omega)]; omega
      have hDE : valN dn + g1 * V = valN (seg.take i) + T * 4294967296 ^ i := by
       have := HVA.out
       rw [← hT] at this
       rw [HV.out]
       rw [take_all HVN.out] at this
       exact this
      have HDE := Hd hDE
      have HDS := Hd hds
      have hDP : valN dn < 4294967296 ^ i := by
       have := valN_lt dn HD.out
       rwa [HL.out] at this
      have HDP := Hd hDP
      clear hT hDE hds hDP hgb
      by_cases hsT : T ≤ s2
      ·have q1 : decide ((s2 : Int) ≥ (T : Int)) = true := decide_eq_true (by omega)
       have f2 : IntKind.u64.wrap ((s2 : Int) - (T : Int)) = ((s2 - T : Nat) : Int) := by rw [IntWalk.u64_in _ (by omega)]; omega
       obtain ⟨nx, hnx⟩ : ∃ nx, nx = s2 - T := ⟨_, rfl⟩
       rw [← hnx] at f2
       have hnxb : nx < 4294967296 := by omega
       have f3 : IntKind.u32.wrap (nx : Int) = (nx : Int) := by rw [IntKind.wrap_u32]; omega
       have f4 : IntKind.u32.wrap (g1 : Int) = (g1 : Int) := by rw [IntKind.wrap_u32]; omega
       have HNX := Hd hnx
       clear hnx
       go_wp2_with fail
       go_ret
       obtain ⟨e1, e2⟩ := digit_exact HDE.out HSS.out hsT hV0 HQ1.out
       refine ⟨dn ++ [nx], ?_, by simp [HL.out, HVN.out], HD.out.snoc hnxb, ?_, ?_, gb_set HG.out (.inr rfl) _⟩
       ·rw [← HS.out, ← HV.out, ← e1]
        rfl
       ·rw [valN_snoc, HL.out, HNX.out, ← HS.out, ← HV.out]
        exact e2
       ·have := arr_set (x := nx) HA.out HP.out (k := i) (by rw [hml]; omega)
        rw [set_pass _ _ _ _ HL.out (by rw [HSL.out]; omega), List.drop_of_length_le (by rw [HSL.out]; exact Nat.le_refl _), List.append_nil] at this
        exact this
      ·have q1 : decide ((s2 : Int) ≥ (T : Int)) = false := decide_eq_false (by omega)
       obtain ⟨hd, hhd⟩ : ∃ hd, hd + T = s2 + 4294967296 := ⟨s2 + 4294967296 - T, by omega⟩
       have hhdb : hd < 4294967296 := by omega
       have f2 : IntKind.u64.wrap ((s2 : Int) + 4294967296) = (s2 : Int) + 4294967296 := IntWalk.u64_in _ (by omega)
       have f3 : IntKind.u64.wrap ((s2 : Int) + 4294967296 - (T : Int)) = (hd : Int) := by rw [IntWalk.u64_in _ (by omega)]; omega
       have f4 : IntKind.u32.wrap (hd : Int) = (hd : Int) := by rw [IntKind.wrap_u32]; omega
       have HA5 : Hid (Arr .u32 (wr.setCell ⟨g, j + i, none⟩ (.int .u32 (hd : Int))) g 103 (ints (P ++ (dn ++ [hd]) ++ Z))) := by
        have := arr_set (x := hd) HA.out HP.out (k := i) (by rw [hml]; omega)
        rw [set_pass _ _ _ _ HL.out (by rw [HSL.out]; omega), List.drop_of_length_le (by rw [HSL.out]; exact Nat.le_refl _), List.append_nil] at this
        exact this
       have HG5 : Hid (w.grownBy (wr.setCell ⟨g, j + i, none⟩ (.int .u32 (hd : Int))) (some g)) := gb_set HG.out (.inr rfl) _
       go_wp2_with fail
       clear cu fu
       generalize wr.setCell ⟨g, j + i, none⟩ (.int .u32 (hd : Int)) = W5 at *
       obtain ⟨n, hnn⟩ : ∃ n, i = n := ⟨_, rfl⟩
       subst hnn
       go_loopw [10, 157] (fun vc vi wr => ∃ (k cy : Nat) (d2 : List Nat), k ≤ i ∧ vi = .int .i64 (k : Int) ∧ vc = .int .u64 (cy : Int) ∧ cy ≤ 1 ∧ d2.length = k ∧ Wd d2 ∧
         valN d2 + cy * 4294967296 ^ k = valN (dn.take k) + valN (vs.take k) ∧ Arr .u32 wr g 103 (ints (P ++ (d2 ++ (dn ++ [hd]).drop k) ++ Z)) ∧ w.grownBy wr (some g)) (fun _ vi _ => i - (intOf vi).toNat)
       case atStart => exact ⟨0, 0, [], by omega, rfl, rfl, by omega, rfl, (fun x hx => (by cases hx)), by simp [valN], by rw [List.nil_append, List.drop_zero]; exact HA5.out, HG5.out⟩
       case round =>
        obtain ⟨k, cy, d2, hk, rfl, rfl, hcy1, hd2l, hd2w, hval2, harr2, hgb2⟩ := hrel
        have HD2 := Hd hd2w
        have HVA2 := Hd hval2
        have HA2 := Hd harr2
        have HG2 := Hd hgb2
        have HL2 := Hd hd2l
        have hm2 : (d2 ++ (dn ++ [hd]).drop k).length = i + 1 := by rw [List.length_append, List.length_drop, List.length_append, HL.out, HL2.out, List.length_singleton]; omega
        clear hd2w hval2 harr2 hd2l
        by_cases hki : k < i
        ·have hcv := (HRV.out.grown hgb2 HNE.out)
         clear hgb2
         obtain ⟨y, hy⟩ : ∃ y, y = nat vs k := ⟨_, rfl⟩
         obtain ⟨x, hx⟩ : ∃ x, x = nat dn k := ⟨_, rfl⟩
         have hyb : y < 4294967296 := by rw [hy]; exact nat_lt HWV.out _
         have hxb : x < 4294967296 := by rw [hx]; exact nat_lt HD.out _
         have cv : wr.cell? ⟨go, vo + k, none⟩ = some (.int .u32 (y : Int)) := by
          rw [hy]
          exact Rd.cell' (c := c) (by rw [HVN.out]; exact hcv) rfl (by rw [HVN.out]; exact hki)
         have cu : wr.cell? ⟨g, j + k, none⟩ = some (.int .u32 (x : Int)) := by
          have := arr_cell HA2.out HP.out (k := k) (by rw [hm2]; omega)
          rw [nat_pass _ _ _ HL2.out, nat_append_left (by rw [HL.out]; exact hki), ← hx] at this
          exact this
         have fu := HA2.out.frozen (j + k)
         have HY := Hd hy
         have HX := Hd hx
         clear hy hx hcv
         obtain ⟨lo, cy2, hs, hlo⟩ := split_word (cy + (x + y))
         have hcy2 : cy2 ≤ 1 := by omega
         have n1 : (k : Int) < (i : Int) := by omega
         have n2 : (k : Int).toNat = k := by omega
         have n3 : (0 : Int) ≤ (k : Int) := by omega
         have n4 : (k : Int) < (i : Int) + 1 := by omega
         have n5 : k < i + 1 := by omega
         have f1 : IntKind.u64.wrap (x : Int) = (x : Int) := IntWalk.u64_in _ (by omega)
         have f2 : IntKind.u64.wrap (y : Int) = (y : Int) := IntWalk.u64_in _ (by omega)
         have f3 : IntKind.u64.wrap ((x : Int) + (y : Int)) = (x : Int) + (y : Int) := IntWalk.u64_in _ (by omega)
         have f4 : IntKind.u64.wrap ((cy : Int) + ((x : Int) + (y : Int))) = (cy : Int) + ((x : Int) + (y : Int)) := IntWalk.u64_in _ (by omega)
         have f5 : IntKind.u32.wrap ((cy : Int) + ((x : Int) + (y : Int))) = (lo : Int) := by rw [IntKind.wrap_u32]; omega
         have f6 : ((cy : Int) + ((x : Int) + (y : Int))) / 4294967296 = (cy2 : Int) := by omega
         have wi : IntKind.i64.wrap ((k : Int) + 1) = (k : Int) + 1 := IntWalk.i64_in _ (by omega)
         have HSW := Hd hs
         clear hs
         go_wp2_with fail
         go_quiet (fail)
         go_wp2_with fail
         go_roundw
         case rel =>
          refine ⟨k + 1, cy2, d2 ++ [lo], by omega, by go_num, rfl, hcy2, by simp [HL2.out], HD2.out.snoc hlo, ?_, ?_, gb_set (gb_drewN HG2.out _) (.inr rfl) _⟩
          ·rw [valN_snoc, HL2.out, valN_take_succ _ _ (by rw [HL.out]; exact hki), valN_take_succ _ _ (by rw [HVN.out]; exact hki), ← HX.out, ← HY.out, Nat.pow_succ]
           exact back_step HVA2.out HSW.out
          ·have := arr_set (x := lo) (HA2.out.drewN nq) HP.out (k := k) (by rw [hm2]; omega)
           rw [set_pass _ _ _ _ HL2.out (by rw [List.length_append, HL.out]; simp; omega)] at this
           exact this
         case measure => simp [intOf]; omega
        ·obtain rfl : k = i := by omega
         have hbk : valN d2 + cy * 4294967296 ^ k = valN dn + V := by
          have := HVA2.out
          rw [take_all HL.out, take_all HVN.out, ← HV.out] at this
          exact this
         have hD2P : valN d2 < 4294967296 ^ k := by
          have := valN_lt d2 HD2.out
          rwa [HL2.out] at this
         obtain ⟨e1, e2, e3, e4⟩ := digit_back HDE.out HSS.out (by omega) hbk hV0 HVP.out hD2P HDP.out hcy1 HQ1.out HQ2.out
         have hhd1 : hd = 4294967295 := by omega
         have cu : wr.cell? ⟨g, j + k, none⟩ = some (.int .u32 (hd : Int)) := by
          have := arr_cell HA2.out HP.out (k := k) (by rw [hm2]; omega)
          rw [nat_pass _ _ _ HL2.out, nat_append_right (by rw [HL.out]; exact Nat.le_refl _), HL.out, Nat.sub_self] at this
          exact this
         have fu := HA2.out.frozen (j + k)
         have hgq1 : g1 = S / V + 1 := e1
         obtain ⟨qq, hqq⟩ : ∃ qq, qq = S / V := ⟨_, rfl⟩
         have f1 : IntKind.u32.wrap (cy : Int) = (cy : Int) := by rw [IntKind.wrap_u32]; omega
         have f2 : IntKind.u32.wrap ((hd : Int) + (cy : Int)) = ((0 : Nat) : Int) := by rw [IntKind.wrap_u32]; omega
         have f3 : IntKind.u64.wrap ((g1 : Int) - 1) = (qq : Int) := by rw [IntWalk.u64_in _ (by omega)]; omega
         have f4 : IntKind.u32.wrap (qq : Int) = (qq : Int) := by rw [IntKind.wrap_u32]; omega
         have HQQ := Hd hqq
         have HE4 := Hd e4
         clear e1 e2 e3 e4 hqq hgq1 hbk hD2P hhd1 hgb2
         go_wp2_with fail
         go_ret
         refine ⟨d2 ++ [0], ?_, by simp [HL2.out, HVN.out], HD2.out.snoc (by omega), ?_, ?_, gb_set HG2.out (.inr rfl) _⟩
         ·rw [← HS.out, ← HV.out, ← HQQ.out]
          rfl
         ·rw [valN_snoc, HL2.out, Nat.mul_zero, Nat.add_zero, ← HS.out, ← HV.out]
          exact HE4.out
         ·have := arr_set (x := 0) HA2.out HP.out (k := k) (by rw [hm2]; omega)
          rw [set_pass _ _ _ _ HL2.out (by rw [List.length_append, HL.out]; simp), List.drop_of_length_le (by rw [List.length_append, HL.out]; simp), List.append_nil] at this
          exact this
   ·have t3 : decide ((r2 : Int) ≥ 4294967296) = false := decide_eq_false (by omega)
    go_wp2_with fail
    go_quiet (fail)
    go_wp2_with fail
    go_roundw
    case rel => exact ⟨g1, r2, rfl, rfl, HGR1.out, HQ11.out, by omega, gb_drewN HGX.out _⟩
    case measure => simp [intOf]; omega
  ·have t1 : decide ((gu : Int) ≥ 4294967296) = false := decide_eq_false (by omega)
   obtain ⟨m, hm⟩ : ∃ m, m = gu * v2 := ⟨_, rfl⟩
   have e4 : IntKind.u64.wrap ((gu : Int) * (v2 : Int)) = (m : Int) := mul_wrap (by omega) b2 hm
   by_cases hmz : z < m
   ·have t2 : decide ((m : Int) > (z : Int)) = true := decide_eq_true (by omega)
    have hmpos : 0 < gu := by
     rcases Nat.eq_zero_or_pos gu with h | h
     ·rw [h, Nat.zero_mul] at hm; omega
     ·exact h
    obtain ⟨g1, hg1⟩ : ∃ g1, gu = g1 + 1 := ⟨gu - 1, by omega⟩
    have e3 : IntKind.u64.wrap ((gu : Int) - 1) = (g1 : Int) := by rw [IntWalk.u64_in _ (by omega)]; omega
    have hq1 : S / V ≤ g1 := by
     have h1 := guess_down HVE.out HSE.out HLS.out HGRR.out (by rw [← hm, ← HZ.out]; exact hmz)
     have h2 : S / V < gu := Nat.div_lt_of_lt_mul (by rw [Nat.mul_comm]; exact h1)
     omega
    have hgr1 : g1 * v1 + r2 = top := by
     have : gu * v1 = g1 * v1 + v1 := by rw [hg1]; exact Nat.succ_mul g1 v1
     omega
    clear hm
    have HGR1 := Hd hgr1
    have HQ11 := Hd hq1
    have hglt : g1 < gu := by omega
    clear hgr1 hq1 hgr hq hr2 hg1
    by_cases hr2b : 4294967296 ≤ r2
    ·have t3 : decide ((r2 : Int) ≥ 4294967296) = true := decide_eq_true (by omega)
     have hgq : g1 < 4294967296 := guess_small HGR1.out HTP.out b4 hs2v hr2b
     have HQ1 := HQ11
     have HQ2 : Hid (g1 * V < S + V) := guess_pass HVE.out HLV.out HSE.out (by omega) HGR1.out hgq (by
      have := Nat.mul_le_mul (show g1 ≤ 4294967295 by omega) (show v2 ≤ 4294967295 by omega)
      omega)
     go_wp2_with fail
     go_quiet (fail)
     go_wp2_with fail
     go_loopw [9, 10, 83] (fun vb vc vi wr => ∃ (i b cy : Nat) (dn : List Nat), i ≤ n ∧ vi = .int .i64 (i : Int) ∧ vb = .int .u64 (b : Int) ∧ vc = .int .u64 (cy : Int) ∧ b ≤ 1 ∧ cy < 4294967296 ∧ dn.length = i ∧ Wd dn ∧
       valN dn + g1 * valN (vs.take i) = valN (seg.take i) + (cy + b) * 4294967296 ^ i ∧ Arr .u32 wr g 103 (ints (P ++ (dn ++ seg.drop i) ++ Z)) ∧ w.grownBy wr (some g)) (fun _ _ vi _ => n - (intOf vi).toNat)
     case atStart => exact ⟨0, 0, 0, [], by omega, rfl, rfl, rfl, by omega, by omega, rfl, (fun x hx => (by cases hx)), by simp [valN], by rw [List.nil_append, List.drop_zero]; exact HUX.out.drewN nq, gb_none (gb_drewN HGX.out nq)⟩
     case round =>
      obtain ⟨i, b, cy, dn, hi, rfl, rfl, rfl, hb, hcy, hdl, hdw, hval, harr, hgb⟩ := hrel
      have HD := Hd hdw
      have HVA := Hd hval
      have HA := Hd harr
      have HG := Hd hgb
      have HL := Hd hdl
      have hml : (dn ++ seg.drop i).length = n + 1 := by rw [List.length_append, List.length_drop, HL.out, HSL.out]; omega
      clear hdw hval harr hdl
      by_cases hin : i < n
      ·have hcv := (HRV.out.grown hgb HNE.out)
       clear hgb
       obtain ⟨y, hy⟩ : ∃ y, y = nat vs i := ⟨_, rfl⟩
       obtain ⟨x, hx⟩ : ∃ x, x = nat seg i := ⟨_, rfl⟩
       have hyb : y < 4294967296 := by rw [hy]; exact nat_lt HWV.out _
       have hxb : x < 4294967296 := by rw [hx]; exact nat_lt HWS.out _
       have cv : wr.cell? ⟨go, vo + i, none⟩ = some (.int .u32 (y : Int)) := by
        rw [hy]
        exact Rd.cell' (c := c) (by rw [HVN.out]; exact hcv) rfl (by rw [HVN.out]; exact hin)
       have cu : wr.cell? ⟨g, j + i, none⟩ = some (.int .u32 (x : Int)) := by
        have := arr_cell HA.out HP.out (k := i) (by rw [hml]; omega)
        rw [nat_pass _ _ _ HL.out, ← hx] at this
        exact this
       have fu := HA.out.frozen (j + i)
       have HY := Hd hy
       have HX := Hd hx
       clear hy hx hcv
       obtain ⟨p, hp⟩ : ∃ p, p = g1 * y := ⟨_, rfl⟩
       have hple : p ≤ 18446744065119617025 := by rw [hp]; exact mul_le_word hgq hyb
       have f1 : IntKind.u64.wrap ((g1 : Int) * (y : Int)) = (p : Int) := mul_wrap hgq hyb hp
       have HPP := Hd hp
       clear hp
       obtain ⟨lo, cy2, hs, hlo⟩ := split_word (cy + p)
       have hcy2 : cy2 < 4294967296 := by omega
       have n1 : (i : Int) < (n : Int) := by omega
       have n2 : (i : Int).toNat = i := by omega
       have n3 : (0 : Int) ≤ (i : Int) := by omega
       have n4 : (i : Int) < (n : Int) + 1 := by omega
       have n5 : i < n + 1 := by omega
       have f2 : IntKind.u64.wrap (y : Int) = (y : Int) := IntWalk.u64_in _ (by omega)
       have f3 : IntKind.u64.wrap (x : Int) = (x : Int) := IntWalk.u64_in _ (by omega)
       have f4 : IntKind.u64.wrap ((cy : Int) + (p : Int)) = (cy : Int) + (p : Int) := IntWalk.u64_in _ (by omega)
       have f5 : IntKind.u32.wrap ((cy : Int) + (p : Int)) = (lo : Int) := by rw [IntKind.wrap_u32]; omega
       have f6 : ((cy : Int) + (p : Int)) / 4294967296 = (cy2 : Int) := by omega
       have f7 : IntKind.u64.wrap (lo : Int) = (lo : Int) := IntWalk.u64_in _ (by omega)
       have f8 : IntKind.u64.wrap ((lo : Int) + (b : Int)) = (lo : Int) + (b : Int) := IntWalk.u64_in _ (by omega)
       have wi : IntKind.i64.wrap ((i : Int) + 1) = (i : Int) + 1 := IntWalk.i64_in _ (by omega)
       have HSW := Hd hs
       by_cases hxt : x < lo + b
       ·have q1 : decide ((x : Int) < (lo : Int) + (b : Int)) = true := decide_eq_true (by omega)
        obtain ⟨nx, hnx⟩ : ∃ nx, x + 1 * 4294967296 = nx + (lo + b) := ⟨x + 4294967296 - (lo + b), by omega⟩
        have hnxb : nx < 4294967296 := by omega
        have f9 : IntKind.u64.wrap ((x : Int) + 4294967296) = (x : Int) + 4294967296 := IntWalk.u64_in _ (by omega)
        have f10 : IntKind.u64.wrap ((x : Int) + 4294967296 - ((lo : Int) + (b : Int))) = (nx : Int) := by rw [IntWalk.u64_in _ (by omega)]; omega
        have f11 : IntKind.u32.wrap (nx : Int) = (nx : Int) := by rw [IntKind.wrap_u32]; omega
        have HNX := Hd hnx
        clear hs hnx
        go_wp2_with fail
        go_roundw
        case rel =>
         refine ⟨i + 1, 1, cy2, dn ++ [nx], by omega, by go_num, rfl, rfl, by omega, hcy2, by simp [HL.out], HD.out.snoc hnxb, ?_, ?_, gb_set HG.out (.inr rfl) _⟩
         ·rw [valN_snoc, HL.out, valN_take_succ _ _ (by rw [HVN.out]; exact hin), valN_take_succ _ _ (by rw [HSL.out]; omega), ← HY.out, ← HX.out, Nat.pow_succ]
          exact take_step HVA.out (by rw [← HPP.out]; exact HSW.out) HNX.out
         ·have := arr_set (x := nx) HA.out HP.out (k := i) (by rw [hml]; omega)
          rw [set_pass _ _ _ _ HL.out (by rw [HSL.out]; omega)] at this
          exact this
        case measure => simp [intOf]; omega
       ·have q1 : decide ((x : Int) < (lo : Int) + (b : Int)) = false := decide_eq_false (by omega)
        obtain ⟨nx, hnx⟩ : ∃ nx, x + 0 * 4294967296 = nx + (lo + b) := ⟨x - (lo + b), by omega⟩
        have hnxb : nx < 4294967296 := by omega
        have f10 : IntKind.u64.wrap ((x : Int) - ((lo : Int) + (b : Int))) = (nx : Int) := by rw [IntWalk.u64_in _ (by omega)]; omega
        have f11 : IntKind.u32.wrap (nx : Int) = (nx : Int) := by rw [IntKind.wrap_u32]; omega
        have HNX := Hd hnx
        clear hs hnx
        go_wp2_with fail
        go_roundw
        case rel =>
         refine ⟨i + 1, 0, cy2, dn ++ [nx], by omega, by go_num, rfl, rfl, by omega, hcy2, by simp [HL.out], HD.out.snoc hnxb, ?_, ?_, gb_set HG.out (.inr rfl) _⟩
         ·rw [valN_snoc, HL.out, valN_take_succ _ _ (by rw [HVN.out]; exact hin), valN_take_succ _ _ (by rw [HSL.out]; omega), ← HY.out, ← HX.out, Nat.pow_succ]
          exact take_step HVA.out (by rw [← HPP.out]; exact HSW.out) HNX.out
         ·have := arr_set (x := nx) HA.out HP.out (k := i) (by rw [hml]; omega)
          rw [set_pass _ _ _ _ HL.out (by rw [HSL.out]; omega)] at this
          exact this
        case measure => simp [intOf]; omega
      ·obtain rfl : i = n := by omega
       obtain ⟨T, hT⟩ : ∃ T, T = cy + b := ⟨_, rfl⟩
       have hds : seg.drop i = [s2] := by
        rw [drop_nat _ _ (by rw [HSL.out]; omega), List.drop_of_length_le (by rw [HSL.out]; exact Nat.le_refl _), HS2.out]
       have cu : wr.cell? ⟨g, j + i, none⟩ = some (.int .u32 (s2 : Int)) := by
        have := arr_cell HA.out HP.out (k := i) (by rw [hml]; omega)
        rw [nat_pass _ _ _ HL.out, ← HS2.out] at this
        exact this
       have fu := HA.out.frozen (j + i)
       have hTB : T ≤ 4294967296 := by omega
       have f1 : IntKind.u64.wrap ((cy : Int) + (b : Int)) = (T : Int) := by rw [IntWalk.u64_in _ (by omega)]; omega
       have hDE : valN dn + g1 * V = valN (seg.take i) + T * 4294967296 ^ i := by
        have := HVA.out
        rw [← hT] at this
        rw [HV.out]
        rw [take_all HVN.out] at this
        exact this
       have HDE := Hd hDE
       have HDS := Hd hds
       have hDP : valN dn < 4294967296 ^ i := by
        have := valN_lt dn HD.out
        rwa [HL.out] at this
       have HDP := Hd hDP
       clear hT hDE hds hDP hgb
       by_cases hsT : T ≤ s2
       ·have q1 : decide ((s2 : Int) ≥ (T : Int)) = true := decide_eq_true (by omega)
        have f2 : IntKind.u64.wrap ((s2 : Int) - (T : Int)) = ((s2 - T : Nat) : Int) := by rw [IntWalk.u64_in _ (by omega)]; omega
        obtain ⟨nx, hnx⟩ : ∃ nx, nx = s2 - T := ⟨_, rfl⟩
        rw [← hnx] at f2
        have hnxb : nx < 4294967296 := by omega
        have f3 : IntKind.u32.wrap (nx : Int) = (nx : Int) := by rw [IntKind.wrap_u32]; omega
        have f4 : IntKind.u32.wrap (g1 : Int) = (g1 : Int) := by rw [IntKind.wrap_u32]; omega
        have HNX := Hd hnx
        clear hnx
        go_wp2_with fail
        go_ret
        obtain ⟨e1, e2⟩ := digit_exact HDE.out HSS.out hsT hV0 HQ1.out
        refine ⟨dn ++ [nx], ?_, by simp [HL.out, HVN.out], HD.out.snoc hnxb, ?_, ?_, gb_set HG.out (.inr rfl) _⟩
        ·rw [← HS.out, ← HV.out, ← e1]
         rfl
        ·rw [valN_snoc, HL.out, HNX.out, ← HS.out, ← HV.out]
         exact e2
        ·have := arr_set (x := nx) HA.out HP.out (k := i) (by rw [hml]; omega)
         rw [set_pass _ _ _ _ HL.out (by rw [HSL.out]; omega), List.drop_of_length_le (by rw [HSL.out]; exact Nat.le_refl _), List.append_nil] at this
         exact this
       ·have q1 : decide ((s2 : Int) ≥ (T : Int)) = false := decide_eq_false (by omega)
        obtain ⟨hd, hhd⟩ : ∃ hd, hd + T = s2 + 4294967296 := ⟨s2 + 4294967296 - T, by omega⟩
        have hhdb : hd < 4294967296 := by omega
        have f2 : IntKind.u64.wrap ((s2 : Int) + 4294967296) = (s2 : Int) + 4294967296 := IntWalk.u64_in _ (by omega)
        have f3 : IntKind.u64.wrap ((s2 : Int) + 4294967296 - (T : Int)) = (hd : Int) := by rw [IntWalk.u64_in _ (by omega)]; omega
        have f4 : IntKind.u32.wrap (hd : Int) = (hd : Int) := by rw [IntKind.wrap_u32]; omega
        have HA5 : Hid (Arr .u32 (wr.setCell ⟨g, j + i, none⟩ (.int .u32 (hd : Int))) g 103 (ints (P ++ (dn ++ [hd]) ++ Z))) := by
         have := arr_set (x := hd) HA.out HP.out (k := i) (by rw [hml]; omega)
         rw [set_pass _ _ _ _ HL.out (by rw [HSL.out]; omega), List.drop_of_length_le (by rw [HSL.out]; exact Nat.le_refl _), List.append_nil] at this
         exact this
        have HG5 : Hid (w.grownBy (wr.setCell ⟨g, j + i, none⟩ (.int .u32 (hd : Int))) (some g)) := gb_set HG.out (.inr rfl) _
        go_wp2_with fail
        clear cu fu
        generalize wr.setCell ⟨g, j + i, none⟩ (.int .u32 (hd : Int)) = W5 at *
        obtain ⟨n, hnn⟩ : ∃ n, i = n := ⟨_, rfl⟩
        subst hnn
        go_loopw [10, 157] (fun vc vi wr => ∃ (k cy : Nat) (d2 : List Nat), k ≤ i ∧ vi = .int .i64 (k : Int) ∧ vc = .int .u64 (cy : Int) ∧ cy ≤ 1 ∧ d2.length = k ∧ Wd d2 ∧
          valN d2 + cy * 4294967296 ^ k = valN (dn.take k) + valN (vs.take k) ∧ Arr .u32 wr g 103 (ints (P ++ (d2 ++ (dn ++ [hd]).drop k) ++ Z)) ∧ w.grownBy wr (some g)) (fun _ vi _ => i - (intOf vi).toNat)
        case atStart => exact ⟨0, 0, [], by omega, rfl, rfl, by omega, rfl, (fun x hx => (by cases hx)), by simp [valN], by rw [List.nil_append, List.drop_zero]; exact HA5.out, HG5.out⟩
        case round =>
         obtain ⟨k, cy, d2, hk, rfl, rfl, hcy1, hd2l, hd2w, hval2, harr2, hgb2⟩ := hrel
         have HD2 := Hd hd2w
         have HVA2 := Hd hval2
         have HA2 := Hd harr2
         have HG2 := Hd hgb2
         have HL2 := Hd hd2l
         have hm2 : (d2 ++ (dn ++ [hd]).drop k).length = i + 1 := by rw [List.length_append, List.length_drop, List.length_append, HL.out, HL2.out, List.length_singleton]; omega
         clear hd2w hval2 harr2 hd2l
         by_cases hki : k < i
         ·have hcv := (HRV.out.grown hgb2 HNE.out)
          clear hgb2
          obtain ⟨y, hy⟩ : ∃ y, y = nat vs k := ⟨_, rfl⟩
          obtain ⟨x, hx⟩ : ∃ x, x = nat dn k := ⟨_, rfl⟩
          have hyb : y < 4294967296 := by rw [hy]; exact nat_lt HWV.out _
          have hxb : x < 4294967296 := by rw [hx]; exact nat_lt HD.out _
          have cv : wr.cell? ⟨go, vo + k, none⟩ = some (.int .u32 (y : Int)) := by
           rw [hy]
           exact Rd.cell' (c := c) (by rw [HVN.out]; exact hcv) rfl (by rw [HVN.out]; exact hki)
          have cu : wr.cell? ⟨g, j + k, none⟩ = some (.int .u32 (x : Int)) := by
           have := arr_cell HA2.out HP.out (k := k) (by rw [hm2]; omega)
           rw [nat_pass _ _ _ HL2.out, nat_append_left (by rw [HL.out]; exact hki), ← hx] at this
           exact this
          have fu := HA2.out.frozen (j + k)
          have HY := Hd hy
          have HX := Hd hx
          clear hy hx hcv
          obtain ⟨lo, cy2, hs, hlo⟩ := split_word (cy + (x + y))
          have hcy2 : cy2 ≤ 1 := by omega
          have n1 : (k : Int) < (i : Int) := by omega
          have n2 : (k : Int).toNat = k := by omega
          have n3 : (0 : Int) ≤ (k : Int) := by omega
          have n4 : (k : Int) < (i : Int) + 1 := by omega
          have n5 : k < i + 1 := by omega
          have f1 : IntKind.u64.wrap (x : Int) = (x : Int) := IntWalk.u64_in _ (by omega)
          have f2 : IntKind.u64.wrap (y : Int) = (y : Int) := IntWalk.u64_in _ (by omega)
          have f3 : IntKind.u64.wrap ((x : Int) + (y : Int)) = (x : Int) + (y : Int) := IntWalk.u64_in _ (by omega)
          have f4 : IntKind.u64.wrap ((cy : Int) + ((x : Int) + (y : Int))) = (cy : Int) + ((x : Int) + (y : Int)) := IntWalk.u64_in _ (by omega)
          have f5 : IntKind.u32.wrap ((cy : Int) + ((x : Int) + (y : Int))) = (lo : Int) := by rw [IntKind.wrap_u32]; omega
          have f6 : ((cy : Int) + ((x : Int) + (y : Int))) / 4294967296 = (cy2 : Int) := by omega
          have wi : IntKind.i64.wrap ((k : Int) + 1) = (k : Int) + 1 := IntWalk.i64_in _ (by omega)
          have HSW := Hd hs
          clear hs
          go_wp2_with fail
          go_quiet (fail)
          go_wp2_with fail
          go_roundw
          case rel =>
           refine ⟨k + 1, cy2, d2 ++ [lo], by omega, by go_num, rfl, hcy2, by simp [HL2.out], HD2.out.snoc hlo, ?_, ?_, gb_set (gb_drewN HG2.out _) (.inr rfl) _⟩
           ·rw [valN_snoc, HL2.out, valN_take_succ _ _ (by rw [HL.out]; exact hki), valN_take_succ _ _ (by rw [HVN.out]; exact hki), ← HX.out, ← HY.out, Nat.pow_succ]
            exact back_step HVA2.out HSW.out
           ·have := arr_set (x := lo) (HA2.out.drewN nq) HP.out (k := k) (by rw [hm2]; omega)
            rw [set_pass _ _ _ _ HL2.out (by rw [List.length_append, HL.out]; simp; omega)] at this
            exact this
          case measure => simp [intOf]; omega
         ·obtain rfl : k = i := by omega
          have hbk : valN d2 + cy * 4294967296 ^ k = valN dn + V := by
           have := HVA2.out
           rw [take_all HL.out, take_all HVN.out, ← HV.out] at this
           exact this
          have hD2P : valN d2 < 4294967296 ^ k := by
           have := valN_lt d2 HD2.out
           rwa [HL2.out] at this
          obtain ⟨e1, e2, e3, e4⟩ := digit_back HDE.out HSS.out (by omega) hbk hV0 HVP.out hD2P HDP.out hcy1 HQ1.out HQ2.out
          have hhd1 : hd = 4294967295 := by omega
          have cu : wr.cell? ⟨g, j + k, none⟩ = some (.int .u32 (hd : Int)) := by
           have := arr_cell HA2.out HP.out (k := k) (by rw [hm2]; omega)
           rw [nat_pass _ _ _ HL2.out, nat_append_right (by rw [HL.out]; exact Nat.le_refl _), HL.out, Nat.sub_self] at this
           exact this
          have fu := HA2.out.frozen (j + k)
          have hgq1 : g1 = S / V + 1 := e1
          obtain ⟨qq, hqq⟩ : ∃ qq, qq = S / V := ⟨_, rfl⟩
          have f1 : IntKind.u32.wrap (cy : Int) = (cy : Int) := by rw [IntKind.wrap_u32]; omega
          have f2 : IntKind.u32.wrap ((hd : Int) + (cy : Int)) = ((0 : Nat) : Int) := by rw [IntKind.wrap_u32]; omega
          have f3 : IntKind.u64.wrap ((g1 : Int) - 1) = (qq : Int) := by rw [IntWalk.u64_in _ (by omega)]; omega
          have f4 : IntKind.u32.wrap (qq : Int) = (qq : Int) := by rw [IntKind.wrap_u32]; omega
          have HQQ := Hd hqq
          have HE4 := Hd e4
          clear e1 e2 e3 e4 hqq hgq1 hbk hD2P hhd1 hgb2
          go_wp2_with fail
          go_ret
          refine ⟨d2 ++ [0], ?_, by simp [HL2.out, HVN.out], HD2.out.snoc (by omega), ?_, ?_, gb_set HG2.out (.inr rfl) _⟩
          ·rw [← HS.out, ← HV.out, ← HQQ.out]
           rfl
          ·rw [valN_snoc, HL2.out, Nat.mul_zero, Nat.add_zero, ← HS.out, ← HV.out]
           exact HE4.out
          ·have := arr_set (x := 0) HA2.out HP.out (k := k) (by rw [hm2]; omega)
           rw [set_pass _ _ _ _ HL2.out (by rw [List.length_append, HL.out]; simp), List.drop_of_length_le (by rw [List.length_append, HL.out]; simp), List.append_nil] at this
           exact this
    ·have t3 : decide ((r2 : Int) ≥ 4294967296) = false := decide_eq_false (by omega)
     go_wp2_with fail
     go_quiet (fail)
     go_wp2_with fail
     go_roundw
     case rel => exact ⟨g1, r2, rfl, rfl, HGR1.out, HQ11.out, by omega, gb_drewN HGX.out _⟩
     case measure => simp [intOf]; omega
   ·have t2 : decide ((m : Int) > (z : Int)) = false := decide_eq_false (by omega)
    have HQ1 := HQQ0
    have HQ2 : Hid (gu * V < S + V) := guess_pass HVE.out HLV.out HSE.out (by omega) HGRR.out (by omega) (by rw [← hm, ← HZ.out]; omega)
    have hgq : gu < 4294967296 := by omega
    obtain ⟨gq, hgqe⟩ : ∃ gq, gu = gq := ⟨_, rfl⟩
    subst hgqe
    clear hm hgr hq hr2
    go_wp2_with fail
    go_quiet (fail)
    go_wp2_with fail
    go_loopw [9, 10, 83] (fun vb vc vi wr => ∃ (i b cy : Nat) (dn : List Nat), i ≤ n ∧ vi = .int .i64 (i : Int) ∧ vb = .int .u64 (b : Int) ∧ vc = .int .u64 (cy : Int) ∧ b ≤ 1 ∧ cy < 4294967296 ∧ dn.length = i ∧ Wd dn ∧
      valN dn + gu * valN (vs.take i) = valN (seg.take i) + (cy + b) * 4294967296 ^ i ∧ Arr .u32 wr g 103 (ints (P ++ (dn ++ seg.drop i) ++ Z)) ∧ w.grownBy wr (some g)) (fun _ _ vi _ => n - (intOf vi).toNat)
    case atStart => exact ⟨0, 0, 0, [], by omega, rfl, rfl, rfl, by omega, by omega, rfl, (fun x hx => (by cases hx)), by simp [valN], by rw [List.nil_append, List.drop_zero]; exact HUX.out.drewN nq, gb_none (gb_drewN HGX.out nq)⟩
    case round =>
     obtain ⟨i, b, cy, dn, hi, rfl, rfl, rfl, hb, hcy, hdl, hdw, hval, harr, hgb⟩ := hrel
     have HD := Hd hdw
     have HVA := Hd hval
     have HA := Hd harr
     have HG := Hd hgb
     have HL := Hd hdl
     have hml : (dn ++ seg.drop i).length = n + 1 := by rw [List.length_append, List.length_drop, HL.out, HSL.out]; omega
     clear hdw hval harr hdl
     by_cases hin : i < n
     ·have hcv := (HRV.out.grown hgb HNE.out)
      clear hgb
      obtain ⟨y, hy⟩ : ∃ y, y = nat vs i := ⟨_, rfl⟩
      obtain ⟨x, hx⟩ : ∃ x, x = nat seg i := ⟨_, rfl⟩
      have hyb : y < 4294967296 := by rw [hy]; exact nat_lt HWV.out _
      have hxb : x < 4294967296 := by rw [hx]; exact nat_lt HWS.out _
      have cv : wr.cell? ⟨go, vo + i, none⟩ = some (.int .u32 (y : Int)) := by
       rw [hy]
       exact Rd.cell' (c := c) (by rw [HVN.out]; exact hcv) rfl (by rw [HVN.out]; exact hin)
      have cu : wr.cell? ⟨g, j + i, none⟩ = some (.int .u32 (x : Int)) := by
       have := arr_cell HA.out HP.out (k := i) (by rw [hml]; omega)
       rw [nat_pass _ _ _ HL.out, ← hx] at this
       exact this
      have fu := HA.out.frozen (j + i)
      have HY := Hd hy
      have HX := Hd hx
      clear hy hx hcv
      obtain ⟨p, hp⟩ : ∃ p, p = gu * y := ⟨_, rfl⟩
      have hple : p ≤ 18446744065119617025 := by rw [hp]; exact mul_le_word hgq hyb
      have f1 : IntKind.u64.wrap ((gu : Int) * (y : Int)) = (p : Int) := mul_wrap hgq hyb hp
      have HPP := Hd hp
      clear hp
      obtain ⟨lo, cy2, hs, hlo⟩ := split_word (cy + p)
      have hcy2 : cy2 < 4294967296 := by omega
      have n1 : (i : Int) < (n : Int) := by omega
      have n2 : (i : Int).toNat = i := by omega
      have n3 : (0 : Int) ≤ (i : Int) := by omega
      have n4 : (i : Int) < (n : Int) + 1 := by omega
      have n5 : i < n + 1 := by omega
      have f2 : IntKind.u64.wrap (y : Int) = (y : Int) := IntWalk.u64_in _ (by omega)
      have f3 : IntKind.u64.wrap (x : Int) = (x : Int) := IntWalk.u64_in _ (by omega)
      have f4 : IntKind.u64.wrap ((cy : Int) + (p : Int)) = (cy : Int) + (p : Int) := IntWalk.u64_in _ (by omega)
      have f5 : IntKind.u32.wrap ((cy : Int) + (p : Int)) = (lo : Int) := by rw [IntKind.wrap_u32]; omega
      have f6 : ((cy : Int) + (p : Int)) / 4294967296 = (cy2 : Int) := by omega
      have f7 : IntKind.u64.wrap (lo : Int) = (lo : Int) := IntWalk.u64_in _ (by omega)
      have f8 : IntKind.u64.wrap ((lo : Int) + (b : Int)) = (lo : Int) + (b : Int) := IntWalk.u64_in _ (by omega)
      have wi : IntKind.i64.wrap ((i : Int) + 1) = (i : Int) + 1 := IntWalk.i64_in _ (by omega)
      have HSW := Hd hs
      by_cases hxt : x < lo + b
      ·have q1 : decide ((x : Int) < (lo : Int) + (b : Int)) = true := decide_eq_true (by omega)
       obtain ⟨nx, hnx⟩ : ∃ nx, x + 1 * 4294967296 = nx + (lo + b) := ⟨x + 4294967296 - (lo + b), by omega⟩
       have hnxb : nx < 4294967296 := by omega
       have f9 : IntKind.u64.wrap ((x : Int) + 4294967296) = (x : Int) + 4294967296 := IntWalk.u64_in _ (by omega)
       have f10 : IntKind.u64.wrap ((x : Int) + 4294967296 - ((lo : Int) + (b : Int))) = (nx : Int) := by rw [IntWalk.u64_in _ (by omega)]; omega
       have f11 : IntKind.u32.wrap (nx : Int) = (nx : Int) := by rw [IntKind.wrap_u32]; omega
       have HNX := Hd hnx
       clear hs hnx
       go_wp2_with fail
       go_roundw
       case rel =>
        refine ⟨i + 1, 1, cy2, dn ++ [nx], by omega, by go_num, rfl, rfl, by omega, hcy2, by simp [HL.out], HD.out.snoc hnxb, ?_, ?_, gb_set HG.out (.inr rfl) _⟩
        ·rw [valN_snoc, HL.out, valN_take_succ _ _ (by rw [HVN.out]; exact hin), valN_take_succ _ _ (by rw [HSL.out]; omega), ← HY.out, ← HX.out, Nat.pow_succ]
         exact take_step HVA.out (by rw [← HPP.out]; exact HSW.out) HNX.out
        ·have := arr_set (x := nx) HA.out HP.out (k := i) (by rw [hml]; omega)
         rw [set_pass _ _ _ _ HL.out (by rw [HSL.out]; omega)] at this
         exact this
       case measure => simp [intOf]; omega
      ·have q1 : decide ((x : Int) < (lo : Int) + (b : Int)) = false := decide_eq_false (by omega)
       obtain ⟨nx, hnx⟩ : ∃ nx, x + 0 * 4294967296 = nx + (lo + b) := ⟨x - (lo + b), by omega⟩
       have hnxb : nx < 4294967296 := by omega
       have f10 : IntKind.u64.wrap ((x : Int) - ((lo : Int) + (b : Int))) = (nx : Int) := by rw [IntWalk.u64_in _ (by omega)]; omega
       have f11 : IntKind.u32.wrap (nx : Int) = (nx : Int) := by rw [IntKind.wrap_u32]; omega
       have HNX := Hd hnx
       clear hs hnx
       go_wp2_with fail
       go_roundw
       case rel =>
        refine ⟨i + 1, 0, cy2, dn ++ [nx], by omega, by go_num, rfl, rfl, by omega, hcy2, by simp [HL.out], HD.out.snoc hnxb, ?_, ?_, gb_set HG.out (.inr rfl) _⟩
        ·rw [valN_snoc, HL.out, valN_take_succ _ _ (by rw [HVN.out]; exact hin), valN_take_succ _ _ (by rw [HSL.out]; omega), ← HY.out, ← HX.out, Nat.pow_succ]
         exact take_step HVA.out (by rw [← HPP.out]; exact HSW.out) HNX.out
        ·have := arr_set (x := nx) HA.out HP.out (k := i) (by rw [hml]; omega)
         rw [set_pass _ _ _ _ HL.out (by rw [HSL.out]; omega)] at this
         exact this
       case measure => simp [intOf]; omega
     ·obtain rfl : i = n := by omega
      obtain ⟨T, hT⟩ : ∃ T, T = cy + b := ⟨_, rfl⟩
      have hds : seg.drop i = [s2] := by
       rw [drop_nat _ _ (by rw [HSL.out]; omega), List.drop_of_length_le (by rw [HSL.out]; exact Nat.le_refl _), HS2.out]
      have cu : wr.cell? ⟨g, j + i, none⟩ = some (.int .u32 (s2 : Int)) := by
       have := arr_cell HA.out HP.out (k := i) (by rw [hml]; omega)
       rw [nat_pass _ _ _ HL.out, ← HS2.out] at this
       exact this
      have fu := HA.out.frozen (j + i)
      have hTB : T ≤ 4294967296 := by omega
      have f1 : IntKind.u64.wrap ((cy : Int) + (b : Int)) = (T : Int) := by rw [IntWalk.u64_in _ (by omega)]; omega
      have hDE : valN dn + gu * V = valN (seg.take i) + T * 4294967296 ^ i := by
       have := HVA.out
       rw [← hT] at this
       rw [HV.out]
       rw [take_all HVN.out] at this
       exact this
      have HDE := Hd hDE
      have HDS := Hd hds
      have hDP : valN dn < 4294967296 ^ i := by
       have := valN_lt dn HD.out
       rwa [HL.out] at this
      have HDP := Hd hDP
      clear hT hDE hds hDP hgb
      by_cases hsT : T ≤ s2
      ·have q1 : decide ((s2 : Int) ≥ (T : Int)) = true := decide_eq_true (by omega)
       have f2 : IntKind.u64.wrap ((s2 : Int) - (T : Int)) = ((s2 - T : Nat) : Int) := by rw [IntWalk.u64_in _ (by omega)]; omega
       obtain ⟨nx, hnx⟩ : ∃ nx, nx = s2 - T := ⟨_, rfl⟩
       rw [← hnx] at f2
       have hnxb : nx < 4294967296 := by omega
       have f3 : IntKind.u32.wrap (nx : Int) = (nx : Int) := by rw [IntKind.wrap_u32]; omega
       have f4 : IntKind.u32.wrap (gu : Int) = (gu : Int) := by rw [IntKind.wrap_u32]; omega
       have HNX := Hd hnx
       clear hnx
       go_wp2_with fail
       go_ret
       obtain ⟨e1, e2⟩ := digit_exact HDE.out HSS.out hsT hV0 HQ1.out
       refine ⟨dn ++ [nx], ?_, by simp [HL.out, HVN.out], HD.out.snoc hnxb, ?_, ?_, gb_set HG.out (.inr rfl) _⟩
       ·rw [← HS.out, ← HV.out, ← e1]
        rfl
       ·rw [valN_snoc, HL.out, HNX.out, ← HS.out, ← HV.out]
        exact e2
       ·have := arr_set (x := nx) HA.out HP.out (k := i) (by rw [hml]; omega)
        rw [set_pass _ _ _ _ HL.out (by rw [HSL.out]; omega), List.drop_of_length_le (by rw [HSL.out]; exact Nat.le_refl _), List.append_nil] at this
        exact this
      ·have q1 : decide ((s2 : Int) ≥ (T : Int)) = false := decide_eq_false (by omega)
       obtain ⟨hd, hhd⟩ : ∃ hd, hd + T = s2 + 4294967296 := ⟨s2 + 4294967296 - T, by omega⟩
       have hhdb : hd < 4294967296 := by omega
       have f2 : IntKind.u64.wrap ((s2 : Int) + 4294967296) = (s2 : Int) + 4294967296 := IntWalk.u64_in _ (by omega)
       have f3 : IntKind.u64.wrap ((s2 : Int) + 4294967296 - (T : Int)) = (hd : Int) := by rw [IntWalk.u64_in _ (by omega)]; omega
       have f4 : IntKind.u32.wrap (hd : Int) = (hd : Int) := by rw [IntKind.wrap_u32]; omega
       have HA5 : Hid (Arr .u32 (wr.setCell ⟨g, j + i, none⟩ (.int .u32 (hd : Int))) g 103 (ints (P ++ (dn ++ [hd]) ++ Z))) := by
        have := arr_set (x := hd) HA.out HP.out (k := i) (by rw [hml]; omega)
        rw [set_pass _ _ _ _ HL.out (by rw [HSL.out]; omega), List.drop_of_length_le (by rw [HSL.out]; exact Nat.le_refl _), List.append_nil] at this
        exact this
       have HG5 : Hid (w.grownBy (wr.setCell ⟨g, j + i, none⟩ (.int .u32 (hd : Int))) (some g)) := gb_set HG.out (.inr rfl) _
       go_wp2_with fail
       clear cu fu
       generalize wr.setCell ⟨g, j + i, none⟩ (.int .u32 (hd : Int)) = W5 at *
       obtain ⟨n, hnn⟩ : ∃ n, i = n := ⟨_, rfl⟩
       subst hnn
       go_loopw [10, 157] (fun vc vi wr => ∃ (k cy : Nat) (d2 : List Nat), k ≤ i ∧ vi = .int .i64 (k : Int) ∧ vc = .int .u64 (cy : Int) ∧ cy ≤ 1 ∧ d2.length = k ∧ Wd d2 ∧
         valN d2 + cy * 4294967296 ^ k = valN (dn.take k) + valN (vs.take k) ∧ Arr .u32 wr g 103 (ints (P ++ (d2 ++ (dn ++ [hd]).drop k) ++ Z)) ∧ w.grownBy wr (some g)) (fun _ vi _ => i - (intOf vi).toNat)
       case atStart => exact ⟨0, 0, [], by omega, rfl, rfl, by omega, rfl, (fun x hx => (by cases hx)), by simp [valN], by rw [List.nil_append, List.drop_zero]; exact HA5.out, HG5.out⟩
       case round =>
        obtain ⟨k, cy, d2, hk, rfl, rfl, hcy1, hd2l, hd2w, hval2, harr2, hgb2⟩ := hrel
        have HD2 := Hd hd2w
        have HVA2 := Hd hval2
        have HA2 := Hd harr2
        have HG2 := Hd hgb2
        have HL2 := Hd hd2l
        have hm2 : (d2 ++ (dn ++ [hd]).drop k).length = i + 1 := by rw [List.length_append, List.length_drop, List.length_append, HL.out, HL2.out, List.length_singleton]; omega
        clear hd2w hval2 harr2 hd2l
        by_cases hki : k < i
        ·have hcv := (HRV.out.grown hgb2 HNE.out)
         clear hgb2
         obtain ⟨y, hy⟩ : ∃ y, y = nat vs k := ⟨_, rfl⟩
         obtain ⟨x, hx⟩ : ∃ x, x = nat dn k := ⟨_, rfl⟩
         have hyb : y < 4294967296 := by rw [hy]; exact nat_lt HWV.out _
         have hxb : x < 4294967296 := by rw [hx]; exact nat_lt HD.out _
         have cv : wr.cell? ⟨go, vo + k, none⟩ = some (.int .u32 (y : Int)) := by
          rw [hy]
          exact Rd.cell' (c := c) (by rw [HVN.out]; exact hcv) rfl (by rw [HVN.out]; exact hki)
         have cu : wr.cell? ⟨g, j + k, none⟩ = some (.int .u32 (x : Int)) := by
          have := arr_cell HA2.out HP.out (k := k) (by rw [hm2]; omega)
          rw [nat_pass _ _ _ HL2.out, nat_append_left (by rw [HL.out]; exact hki), ← hx] at this
          exact this
         have fu := HA2.out.frozen (j + k)
         have HY := Hd hy
         have HX := Hd hx
         clear hy hx hcv
         obtain ⟨lo, cy2, hs, hlo⟩ := split_word (cy + (x + y))
         have hcy2 : cy2 ≤ 1 := by omega
         have n1 : (k : Int) < (i : Int) := by omega
         have n2 : (k : Int).toNat = k := by omega
         have n3 : (0 : Int) ≤ (k : Int) := by omega
         have n4 : (k : Int) < (i : Int) + 1 := by omega
         have n5 : k < i + 1 := by omega
         have f1 : IntKind.u64.wrap (x : Int) = (x : Int) := IntWalk.u64_in _ (by omega)
         have f2 : IntKind.u64.wrap (y : Int) = (y : Int) := IntWalk.u64_in _ (by omega)
         have f3 : IntKind.u64.wrap ((x : Int) + (y : Int)) = (x : Int) + (y : Int) := IntWalk.u64_in _ (by omega)
         have f4 : IntKind.u64.wrap ((cy : Int) + ((x : Int) + (y : Int))) = (cy : Int) + ((x : Int) + (y : Int)) := IntWalk.u64_in _ (by omega)
         have f5 : IntKind.u32.wrap ((cy : Int) + ((x : Int) + (y : Int))) = (lo : Int) := by rw [IntKind.wrap_u32]; omega
         have f6 : ((cy : Int) + ((x : Int) + (y : Int))) / 4294967296 = (cy2 : Int) := by omega
         have wi : IntKind.i64.wrap ((k : Int) + 1) = (k : Int) + 1 := IntWalk.i64_in _ (by omega)
         have HSW := Hd hs
         clear hs
         go_wp2_with fail
         go_quiet (fail)
         go_wp2_with fail
         go_roundw
         case rel =>
          refine ⟨k + 1, cy2, d2 ++ [lo], by omega, by go_num, rfl, hcy2, by simp [HL2.out], HD2.out.snoc hlo, ?_, ?_, gb_set (gb_drewN HG2.out _) (.inr rfl) _⟩
          ·rw [valN_snoc, HL2.out, valN_take_succ _ _ (by rw [HL.out]; exact hki), valN_take_succ _ _ (by rw [HVN.out]; exact hki), ← HX.out, ← HY.out, Nat.pow_succ]
           exact back_step HVA2.out HSW.out
          ·have := arr_set (x := lo) (HA2.out.drewN nq) HP.out (k := k) (by rw [hm2]; omega)
           rw [set_pass _ _ _ _ HL2.out (by rw [List.length_append, HL.out]; simp; omega)] at this
           exact this
         case measure => simp [intOf]; omega
        ·obtain rfl : k = i := by omega
         have hbk : valN d2 + cy * 4294967296 ^ k = valN dn + V := by
          have := HVA2.out
          rw [take_all HL.out, take_all HVN.out, ← HV.out] at this
          exact this
         have hD2P : valN d2 < 4294967296 ^ k := by
          have := valN_lt d2 HD2.out
          rwa [HL2.out] at this
         obtain ⟨e1, e2, e3, e4⟩ := digit_back HDE.out HSS.out (by omega) hbk hV0 HVP.out hD2P HDP.out hcy1 HQ1.out HQ2.out
         have hhd1 : hd = 4294967295 := by omega
         have cu : wr.cell? ⟨g, j + k, none⟩ = some (.int .u32 (hd : Int)) := by
          have := arr_cell HA2.out HP.out (k := k) (by rw [hm2]; omega)
          rw [nat_pass _ _ _ HL2.out, nat_append_right (by rw [HL.out]; exact Nat.le_refl _), HL.out, Nat.sub_self] at this
          exact this
         have fu := HA2.out.frozen (j + k)
         have hgq1 : gu = S / V + 1 := e1
         obtain ⟨qq, hqq⟩ : ∃ qq, qq = S / V := ⟨_, rfl⟩
         have f1 : IntKind.u32.wrap (cy : Int) = (cy : Int) := by rw [IntKind.wrap_u32]; omega
         have f2 : IntKind.u32.wrap ((hd : Int) + (cy : Int)) = ((0 : Nat) : Int) := by rw [IntKind.wrap_u32]; omega
         have f3 : IntKind.u64.wrap ((gu : Int) - 1) = (qq : Int) := by rw [IntWalk.u64_in _ (by omega)]; omega
         have f4 : IntKind.u32.wrap (qq : Int) = (qq : Int) := by rw [IntKind.wrap_u32]; omega
         have HQQ := Hd hqq
         have HE4 := Hd e4
         clear e1 e2 e3 e4 hqq hgq1 hbk hD2P hhd1 hgb2
         go_wp2_with fail
         go_ret
         refine ⟨d2 ++ [0], ?_, by simp [HL2.out, HVN.out], HD2.out.snoc (by omega), ?_, ?_, gb_set HG2.out (.inr rfl) _⟩
         ·rw [← HS.out, ← HV.out, ← HQQ.out]
          rfl
         ·rw [valN_snoc, HL2.out, Nat.mul_zero, Nat.add_zero, ← HS.out, ← HV.out]
          exact HE4.out
         ·have := arr_set (x := 0) HA2.out HP.out (k := k) (by rw [hm2]; omega)
          rw [set_pass _ _ _ _ HL2.out (by rw [List.length_append, HL.out]; simp), List.drop_of_length_le (by rw [List.length_append, HL.out]; simp), List.append_nil] at this
          exact this
theorem top_div {V : Nat} (h : V ≠ 0) : nat (dg V) ((dg V).length - 1) = V / 4294967296 ^ ((dg V).length - 1) := by
 have hlen : 0 < (dg V).length := (wlen_pos (n := V)).2 h
 have h1 := valN_dg V
 rw [valN_split (dg V) ((dg V).length - 1) (by omega), valN_drop _ _ (by omega), show (dg V).length - 1 + 1 = (dg V).length by omega, List.drop_length] at h1
 have h2 := valN_lt _ ((Wd_dg V).take ((dg V).length - 1))
 rw [List.length_take, Nat.min_eq_left (by omega)] at h2
 simp only [valN, Nat.mul_zero, Nat.add_zero] at h1
 generalize nat (dg V) ((dg V).length - 1) = t at *
 generalize valN ((dg V).take ((dg V).length - 1)) = lo at *
 generalize (dg V).length - 1 = k at *
 rw [← h1, Nat.add_comm, Nat.mul_add_div (by omega), Nat.div_eq_of_lt h2, Nat.add_zero]
theorem shift_norm {n s : Nat} (h : n ≠ 0) (hs : s < 32) (h1 : 2147483648 ≤ nat (dg n) ((dg n).length - 1) * 2 ^ s) (h2 : nat (dg n) ((dg n).length - 1) * 2 ^ s < 4294967296) :
  (dg (n * 2 ^ s)).length = (dg n).length ∧ 2147483648 ≤ nat (dg (n * 2 ^ s)) ((dg n).length - 1) := by
 have hlen : 0 < (dg n).length := (wlen_pos (n := n)).2 h
 have hp : 0 < 2 ^ s := Nat.pow_pos (by decide)
 have hB := pow_split hs
 rw [top_div h] at h1 h2
 obtain ⟨k, hk⟩ : ∃ k, (dg n).length = k + 1 := ⟨(dg n).length - 1, by omega⟩
 rw [hk, Nat.add_sub_cancel] at h1 h2
 have hP : 0 < 4294967296 ^ k := Nat.pow_pos (by decide)
 have hdm := Nat.div_add_mod n (4294967296 ^ k)
 have hml := Nat.mod_lt n hP
 have hup : (n / 4294967296 ^ k + 1) * 2 ^ s ≤ 4294967296 := by
  rw [← hB] at h2 ⊢
  rw [Nat.mul_comm (2 ^ s)] at h2 ⊢
  have := Nat.lt_of_mul_lt_mul_right h2
  exact Nat.mul_le_mul_right _ this
 have hlt : n * 2 ^ s < 4294967296 ^ (k + 1) := by
  rw [Nat.pow_succ]
  have e1 : n < (n / 4294967296 ^ k + 1) * 4294967296 ^ k := by rw [Nat.succ_mul, Nat.mul_comm]; omega
  have e2 := Nat.mul_lt_mul_of_pos_right e1 hp
  have e3 := Nat.mul_le_mul_left (4294967296 ^ k) hup
  have e4 : (n / 4294967296 ^ k + 1) * 4294967296 ^ k * 2 ^ s = 4294967296 ^ k * ((n / 4294967296 ^ k + 1) * 2 ^ s) := by grind
  omega
 have hge : 2147483648 * 4294967296 ^ k ≤ n * 2 ^ s := by
  have e1 := Nat.mul_le_mul_right (4294967296 ^ k) h1
  have e2 : n / 4294967296 ^ k * 2 ^ s * 4294967296 ^ k = (4294967296 ^ k * (n / 4294967296 ^ k)) * 2 ^ s := by grind
  have e3 : (4294967296 ^ k * (n / 4294967296 ^ k)) * 2 ^ s ≤ n * 2 ^ s := Nat.mul_le_mul_right _ (by omega)
  omega
 have hl1 := dg_len_le hlt
 have hl2 : k < (dg (n * 2 ^ s)).length := by
  refine Nat.lt_of_not_le fun hle => ?_
  have := lt_dg_len (n * 2 ^ s)
  have h3 : 4294967296 ^ (dg (n * 2 ^ s)).length ≤ 4294967296 ^ k := Nat.pow_le_pow_right (by decide) hle
  have : 1 * 4294967296 ^ k ≤ 2147483648 * 4294967296 ^ k := Nat.mul_le_mul_right _ (by decide)
  omega
 have hl : (dg (n * 2 ^ s)).length = k + 1 := by omega
 refine ⟨by rw [hl, hk], ?_⟩
 have ht := top_div (V := n * 2 ^ s) (by have : 0 < 2147483648 * 4294967296 ^ k := Nat.mul_pos (by decide) hP; omega)
 rw [hl, Nat.add_sub_cancel] at ht
 rw [hk, Nat.add_sub_cancel, ht]
 exact (Nat.le_div_iff_mul_le hP).2 hge
theorem shift_first {m s V lb : Nat} (hs : s < 32) (h1 : 2147483648 * 4294967296 ^ lb ≤ V) (k la : Nat) (hm : m < 4294967296 ^ la) (hk : la = k + lb) : m * 2 ^ s < V * 4294967296 ^ k := by
 have hp : 2 ^ s ≤ 2 ^ 31 := Nat.pow_le_pow_right (by decide) (by omega)
 have hP : 0 < 2 ^ s := Nat.pow_pos (by decide)
 have e1 : m * 2 ^ s < 4294967296 ^ la * 2 ^ s := Nat.mul_lt_mul_of_pos_right hm hP
 have e2 : 4294967296 ^ la * 2 ^ s ≤ 4294967296 ^ la * 2 ^ 31 := Nat.mul_le_mul_left _ hp
 have e3 := Nat.mul_le_mul_right (4294967296 ^ k) h1
 have e4 : 2147483648 * 4294967296 ^ lb * 4294967296 ^ k = 4294967296 ^ la * 2 ^ 31 := by rw [hk, Nat.pow_add]; grind
 omega
theorem top_ge {V : Nat} {lb : Nat} (hl : (dg V).length = lb + 1) (h : 2147483648 ≤ nat (dg V) lb) : 2147483648 * 4294967296 ^ lb ≤ V := by
 have ht := top_div (V := V) (by rintro rfl; simp [dg_zero] at hl)
 rw [hl, Nat.add_sub_cancel] at ht
 rw [ht] at h
 have := (Nat.le_div_iff_mul_le (Nat.pow_pos (n := lb) (show 0 < 4294967296 by decide))).1 h
 omega
theorem div_cut {U : List Nat} {V n j : Nat} (hw : Wd U) (hl : j + (n + 1) ≤ U.length) (hlt : valN U < V * 4294967296 ^ (j + 1)) (hV : V < 4294967296 ^ n) :
  valN ((U.drop j).take (n + 1)) < 4294967296 * V ∧ valN U = valN (U.take j) + 4294967296 ^ j * valN ((U.drop j).take (n + 1)) ∧ valN (U.drop (j + (n + 1))) = 0 := by
 have e1 := valN_split U j (by omega)
 have e2 := valN_split (U.drop j) (n + 1) (by rw [List.length_drop]; omega)
 rw [List.drop_drop] at e2
 have hP : 0 < 4294967296 ^ j := Nat.pow_pos (by decide)
 have hz : valN (U.drop (j + (n + 1))) = 0 := by
  rcases Nat.eq_zero_or_pos (valN (U.drop (j + (n + 1)))) with h | h
  ·exact h
  ·exfalso
   have a1 : 4294967296 ^ (n + 1) * 1 ≤ 4294967296 ^ (n + 1) * valN (U.drop (j + (n + 1))) := Nat.mul_le_mul_left _ h
   have a2 : 4294967296 ^ j * 4294967296 ^ (n + 1) ≤ 4294967296 ^ j * valN (U.drop j) := Nat.mul_le_mul_left _ (by omega)
   have a3 : V * 4294967296 ^ (j + 1) < 4294967296 ^ n * 4294967296 ^ (j + 1) := Nat.mul_lt_mul_of_pos_right hV (Nat.pow_pos (by decide))
   rw [← Nat.pow_add] at a2 a3
   rw [show n + (j + 1) = j + (n + 1) by omega] at a3
   omega
 rw [hz, Nat.mul_zero, Nat.add_zero] at e2
 rw [e2] at e1
 refine ⟨?_, e1, hz⟩
 have a1 : 4294967296 ^ j * valN ((U.drop j).take (n + 1)) < 4294967296 ^ j * (4294967296 * V) := by
  have : V * 4294967296 ^ (j + 1) = 4294967296 ^ j * (4294967296 * V) := by rw [Nat.pow_succ]; grind
  omega
 exact Nat.lt_of_mul_lt_mul_left a1
theorem div_round {M0 P0 V q qd sv sv' j : Nat} (h : M0 = (P0 + 4294967296 ^ j * sv) + V * 4294967296 ^ (j + 1) * q) (hs : sv = V * qd + sv') :
  M0 = (P0 + 4294967296 ^ j * sv') + V * 4294967296 ^ j * (qd + 4294967296 * q) := by
 rw [h, hs, Nat.pow_succ]
 grind
theorem div_less {P0 sv' V j : Nat} (hP : P0 < 4294967296 ^ j) (hs : sv' < V) : P0 + 4294967296 ^ j * sv' < V * 4294967296 ^ j := by
 have : 4294967296 ^ j * (sv' + 1) ≤ 4294967296 ^ j * V := Nat.mul_le_mul_left (4294967296 ^ j) hs
 rw [Nat.mul_add] at this
 rw [Nat.mul_comm V]
 omega
theorem div_end {m n s U q : Nat} (hn : 0 < n) (h : m * 2 ^ s = U + n * 2 ^ s * q) (hU : U < n * 2 ^ s) : q = m / n ∧ U / 2 ^ s = m % n := by
 have hp : 0 < 2 ^ s := Nat.pow_pos (by decide)
 have hq : q = m / n := by
  have h1 : (m * 2 ^ s) / (n * 2 ^ s) = q := by
   rw [h, Nat.add_comm, Nat.mul_add_div (Nat.mul_pos hn hp), Nat.div_eq_of_lt hU, Nat.add_zero]
  rw [Nat.mul_div_mul_right _ _ hp] at h1
  exact h1.symm
 refine ⟨hq, ?_⟩
 have hdm := Nat.div_add_mod m n
 have hU2 : U = (m % n) * 2 ^ s := by
  rw [hq] at h
  have e : m * 2 ^ s = n * 2 ^ s * (m / n) + (m % n) * 2 ^ s := by
   conv => lhs; rw [← hdm]
   grind
  omega
 rw [hU2, Nat.mul_div_cancel _ hp]
def DivPost (w : World) (m n : Nat) (e : Ending) (w' : World) : Prop := ∃ v v2, e = .returned (.tuple #[v, v2]) ∧ RN w' v (m / n) ∧ RN w' v2 (m % n) ∧ Below w.heap.size w w'
set_option maxHeartbeats 16000000 in
set_option maxRecDepth 100000 in
theorem div_calls (w : World) (v v2 : Value) (m n : Nat) (h : RN w v m) (h2 : RN w v2 n) (hm : wlen m ≤ 10000000000) (hn : wlen n ≤ 10000000000) (hn0 : n ≠ 0) :
  Calls Tryz.prog 149 #[v, v2] w fun e w' => DivPost w m n e w' := by
 have HRN := Hd h
 have HRN2 := Hd h2
 clear h h2
 obtain ⟨A, c, xs, rfl, hc, HX, HR0⟩ := HRN.out.opened
 obtain ⟨A2, c2, ys, rfl, hc2, HY, HR20⟩ := HRN2.out.opened
 by_cases hmn : m < n
 ·have hcd : decide ((-1 : Int) < 0) = true := rfl
  have hci : cmpI m n = -1 := by unfold cmpI; rw [if_neg (by omega), if_pos hmn]
  go_enter Tryz.func149, Tryz.ntmps149
  go_wp2_with fail
  refine (cmp_calls _ _ _ m n HRN.out HRN2.out (by omega) (by omega)).mono ?_
  rintro e w1 ⟨rfl, hb1⟩
  rw [hci]
  have HB1 := Hd hb1
  have HRN_1 := Hd (Rd.below HRN.out hb1)
  clear hb1 hci
  go_wp2_with fail
  refine (own_calls _ _ _ HRN_1.out (by have : (dg m).length = wlen m := rfl; omega)).mono ?_
  rintro e w2 ⟨v, rfl, hv, hb2⟩
  have HB2 := Hd (HB1.out.trans (hb2.mono HB1.out.size))
  go_wp2_with fail
  go_ret2
  exact ⟨_, _, rfl, by rw [Nat.div_eq_of_lt hmn]; exact Rd.nil _, by rw [Nat.mod_eq_of_lt hmn]; exact hv, HB2.out⟩
 have hle : n ≤ m := by omega
 have hci : ¬ cmpI m n < 0 := by unfold cmpI; split <;> (try split) <;> omega
 obtain ⟨ci, hci2⟩ : ∃ ci, cmpI m n = ci := ⟨_, rfl⟩
 rw [hci2] at hci
 have hcd : decide (ci < 0) = false := decide_eq_false hci
 go_enter Tryz.func149, Tryz.ntmps149
 go_wp2_with fail
 refine (cmp_calls _ _ _ m n HRN.out HRN2.out (by omega) (by omega)).mono ?_
 rintro e w1 ⟨rfl, hb1⟩
 rw [hci2]
 have HB1 := Hd hb1
 have HRN_1 := Hd (Rd.below HRN.out hb1)
 have HRN2_1 := Hd (Rd.below HRN2.out hb1)
 clear hb1 hci2
 go_wp2_with fail
 refine (small_calls _ _ m HRN_1.out).mono ?_
 rintro e w2 ⟨⟨x, rfl, hx⟩, hb2⟩
 have HB2 := Hd (HB1.out.trans (hb2.mono HB1.out.size))
 have HRN_2 := Hd (Rd.below HRN_1.out hb2)
 have HRN2_2 := Hd (Rd.below HRN2_1.out hb2)
 have HXE := Hd hx
 clear hb2 hx HRN_1 HRN2_1 HB1 HRN HRN2 HR0 HR20
 by_cases hs64 : m < 18446744073709551616
 ·have d1 : decide (m < 18446744073709551616) = true := decide_eq_true hs64
  go_wp2_with fail
  refine (small_calls _ _ n HRN2_2.out).mono ?_
  rintro e w3 ⟨⟨y, rfl, hy⟩, hb3⟩
  have HB3 := Hd (HB2.out.trans (hb3.mono HB2.out.size))
  clear hb3
  have hye := hy (by omega)
  have hxe := HXE.out hs64
  clear hy HXE
  subst hxe
  subst hye
  obtain ⟨⟨df1, df2⟩, df3, df4⟩ := div_facts (z := x) (d := y) rfl rfl
  obtain ⟨q, hq⟩ : ∃ q, q = x / y := ⟨_, rfl⟩
  obtain ⟨r, hr⟩ : ∃ r, r = x % y := ⟨_, rfl⟩
  rw [← hq] at df1 df3
  rw [← hr] at df2 df4
  have hqle : q ≤ x := by rw [hq]; exact Nat.div_le_self _ _
  have hrle : r ≤ x := by rw [hr]; exact Nat.mod_le _ _
  have HQ := Hd hq
  have HRr := Hd hr
  have f1 : IntKind.u64.wrap (q : Int) = (q : Int) := IntWalk.u64_in _ (by omega)
  have f2 : IntKind.u64.wrap (r : Int) = (r : Int) := IntWalk.u64_in _ (by omega)
  have d0 : ((y : Int) == 0) = false := by
   have : (y : Int) ≠ 0 := by omega
   simpa using this
  have d2 : (y : Int) ≠ 0 := by omega
  have d3 : decide (y < 18446744073709551616) = true := decide_eq_true (by omega)
  have hq64 : q < 18446744073709551616 := by omega
  have hr64 : r < 18446744073709551616 := by omega
  clear hq hr hqle hrle
  go_wp2_with fail
  have hq64 : q < 18446744073709551616 := by omega
  have hr64 : r < 18446744073709551616 := by omega
  go_region_held3 (fun W => True) (exact True.intro) (first | (go_at_call 134; refine (of_calls _ _ ?_).mono ?_; omega; rintro e w' ⟨v, rfl, hv, hb⟩))
  rename_i w5 v5 hv5 hb5 _
  have hb5' : Below w3.heap.size w3 w5 := (Below.drew (Below.refl _ _)).trans hb5
  have HB5 := Hd (HB3.out.trans (hb5'.mono HB3.out.size))
  have HB6 := Hd (HB5.out.trans (hb.mono HB5.out.size))
  have HV5 := Hd (Rd.below hv5 hb)
  have HV6 := Hd hv
  clear hv5 hb5 hb5' hb hv
  go_wp2_with fail
  go_ret2
  exact ⟨_, _, rfl, by have := HV5.out; rw [HQ.out] at this; exact this, by have := HV6.out; rw [HRr.out] at this; exact this, HB6.out⟩
 ·have d1 : decide (m < 18446744073709551616) = false := decide_eq_false hs64
  have hyl : 0 < ys.length := by rw [HY.out]; exact wlen_pos.2 hn0
  by_cases hy1 : ys.length = 1
  ·have q1 : ((ys.length : Int) == 1) = true := by rw [hy1]; rfl
   have hRy : Rd w2 (.slice A2 ys.length c2) ys := by have := HRN2_2.out; unfold RN at this; rw [← HY.out] at this; exact this
   obtain ⟨g, o, rfl, hg, hcell⟩ := hRy.cell (j := 0) (by omega)
   rw [Nat.add_zero] at hcell
   have l2 : (0 : Int) < (ys.length : Int) := by omega
   obtain ⟨d, hd⟩ : ∃ d, d = nat ys 0 := ⟨_, rfl⟩
   rw [← hd] at hcell
   have hdn : d = n := by
    rw [hd, ← valN_dg n, ← HY.out]
    match ys, hy1 with
    | [y], _ => simp [nat, valN]
   have hd32 : d < 4294967296 := by rw [hd]; exact nat_lt hRy.wd 0
   have HDN := Hd hdn
   clear hd hRy hdn
   go_wp2_with fail
   refine (short_calls _ _ m d HRN_2.out (by omega) (by have := HDN.out; omega) hd32).mono ?_
   rintro e w3 ⟨v3, rfl, hv3, hb3⟩
   have HB3 := Hd (HB2.out.trans (hb3.mono HB2.out.size))
   have HV3 := Hd hv3
   obtain ⟨r, hr⟩ : ∃ r, r = m % d := ⟨_, rfl⟩
   rw [← hr]
   have hrl : r < 4294967296 := by
    rw [hr]
    exact Nat.lt_trans (Nat.mod_lt _ (by have := HDN.out; omega)) hd32
   have HRr := Hd hr
   have f1 : IntKind.u64.wrap (r : Int) = (r : Int) := IntWalk.u64_in _ (by omega)
   clear hr hb3 hv3
   go_wp2_with fail
   refine (of_calls _ r (by omega)).mono ?_
   rintro e w4 ⟨v4, rfl, hv4, hb4⟩
   have HB4 := Hd (HB3.out.trans (hb4.mono HB3.out.size))
   have HV34 := Hd (Rd.below HV3.out hb4)
   go_wp2_with fail
   go_ret2
   exact ⟨_, _, rfl, by have := HV34.out; rw [HDN.out] at this; exact this, by rw [HRr.out, HDN.out] at hv4; exact hv4, HB4.out⟩
  ·have q1 : ((ys.length : Int) == 1) = false := by
    have : (ys.length : Int) ≠ 1 := by omega
    simpa using this
   have hRy : Rd w2 (.slice A2 ys.length c2) ys := by have := HRN2_2.out; unfold RN at this; rw [← HY.out] at this; exact this
   obtain ⟨g, o, rfl, hg, hcell⟩ := hRy.cell (j := ys.length - 1) (by omega)
   obtain ⟨d, hd⟩ : ∃ d, d = nat ys (ys.length - 1) := ⟨_, rfl⟩
   rw [← hd] at hcell
   have hd32 : d < 4294967296 := by rw [hd]; exact nat_lt hRy.wd _
   have hd0 : d ≠ 0 := by rw [hd, HY.out]; exact dg_top n hn0
   have HD := Hd hd
   have hyb : ys.length ≤ 10000000000 := by rw [HY.out]; exact hn
   have k1 : IntKind.i64.wrap ((ys.length : Int) - 1) = (ys.length : Int) - 1 := IntWalk.i64_in _ (by omega)
   have k2 : (ys.length : Int) - 1 < (ys.length : Int) := by omega
   have k3 : ((ys.length : Int) - 1).toNat = ys.length - 1 := by omega
   have k4 : 0 ≤ (ys.length : Int) - 1 := by omega
   have k5 : (1 : Int) ≤ (ys.length : Int) := by omega
   have k6 : 1 ≤ ys.length := by omega
   clear hd hRy
   go_wp2_with fail
   refine (zeros_calls d _ hd32).mono ?_
   rintro e w3 ⟨rfl, rfl⟩
   obtain ⟨s, hs, hse, hs1, hs2⟩ := zeros_norm hd0 hd32
   rw [hse]
   clear hse
   clear k1 k2 k3 k4 k5 k6
   go_wp2_with fail
   refine (shifted_calls _ _ m s HRN_2.out (by omega) hs).mono ?_
   rintro e w4 ⟨BU, us, rfl, hBU, hul, huw, huv, hua, hb4⟩
   have HB4 := Hd (HB2.out.trans (hb4.mono HB2.out.size))
   have HRN2_4 := Hd (Rd.below HRN2_2.out hb4)
   have HUV := Hd huv
   have HUL := Hd hul
   have HUW := Hd huw
   have HUA := Hd hua
   have HBU : Hid (w.heap.size ≤ BU) := Nat.le_trans HB2.out.size hBU
   have hBU4 := hua.lt
   clear hb4 huv hul huw hua hBU
   go_wp2_with fail
   refine (shifted_calls _ _ n s HRN2_4.out (by omega) hs).mono ?_
   rintro e w5 ⟨BV, vr, rfl, hBV, hvl, hvw, hvv, hva, hb5⟩
   have HB5 := Hd (HB4.out.trans (hb5.mono HB4.out.size))
   have HUA5 := Hd (HUA.out.below hb5 hBU4)
   have hrv := Rd.of_arr hva hvw
   have hBV5 := hva.lt
   rw [hvl] at hrv
   have htr := trim_calls w5 (some ⟨BV, 0, none⟩) (wlen n + 1) vr (by rw [hvl]; exact hrv) (by rw [hvl]; omega) (by rw [hvl]; exact Nat.le_refl _)
   rw [hvl] at htr
   clear hb5 hva
   go_wp2_with fail
   refine htr.mono ?_
   rintro e w6 ⟨t, htl, rfl, htk, hb6⟩
   obtain ⟨hsl, hst⟩ := shift_norm hn0 hs (by rw [← HY.out, ← HD.out]; exact hs1) (by rw [← HY.out, ← HD.out]; exact hs2)
   have hRv6 : Rd w6 (.slice (some ⟨BV, 0, none⟩) t t) (dg (n * 2 ^ s)) := by
    have h1 := (Rd.take (by rw [hvl]; exact hrv) t htl).below hb6
    rw [htk, hvv] at h1
    exact h1
   have htn : t = ys.length := by
    have : (vr.take t).length = t := by rw [List.length_take, Nat.min_eq_left htl]
    rw [← this, htk, hvv, hsl, ← HY.out]
   obtain ⟨vs, hvs⟩ : ∃ vs, vs = dg (n * 2 ^ s) := ⟨_, rfl⟩
   rw [← hvs] at hRv6 hsl hst
   rw [← HY.out] at hsl hst
   have HB6 := Hd (HB5.out.trans (hb6.mono HB5.out.size))
   have HUA6 := Hd (HUA5.out.below hb6 (by have := HUA5.out.lt; exact this))
   have HVS := Hd hvs
   have HRV6 := Hd hRv6
   have hVv : valN vs = n * 2 ^ s := by rw [hvs, valN_dg]
   have HVv := Hd hVv
   have HST := Hd hst
   have HSL := Hd hsl
   have hlm : wlen m = xs.length := by rw [HX.out]; rfl
   have hBV6 : BV < w6.heap.size := Nat.lt_of_lt_of_le hBV5 hb6.size
   have hBUV : BU ≠ BV := by omega
   have hly2 : 2 ≤ ys.length := by omega
   have hlxy : ys.length ≤ xs.length := by rw [HX.out, HY.out]; exact wlen_mono hle
   have hlx : xs.length ≤ 10000000000 := by rw [HX.out]; exact hm
   clear htr hrv hb6 htk htl hvs hRv6 hVv hst hsl hvl hvw hvv
   subst htn
   rw [hlm] at HUL ⊢
   obtain ⟨L, hL⟩ : ∃ L, L = xs.length + 1 := ⟨_, rfl⟩
   obtain ⟨K, hK⟩ : ∃ K, K + ys.length = L := ⟨L - ys.length, by omega⟩
   rw [← hL] at HUL ⊢
   have wl : IntKind.i64.wrap ((L : Int) - (ys.length : Int)) = (K : Int) := by rw [IntWalk.i64_in _ (by omega)]; omega
   have hmk := make_words 111 Tryz.underlying111 K (by omega)
   have wk1 : IntKind.i64.wrap ((K : Int) - 1) = (K : Int) - 1 := IntWalk.i64_in _ (by omega)
   have HLL := Hd hL
   have hLb : L ≤ 10000000001 := by omega
   clear hL
   go_wp2_with fail
   clear hmk wl wk1
   have hw7 := gb_alloc (gb_refl w6 none) (zw K)
   have hq7 := zw_arr w6 K
   generalize w6.alloc (zw K) = W7 at *
   obtain ⟨V, hV⟩ : ∃ V, V = valN vs := ⟨_, rfl⟩
   have HV := Hd hV
   have hV0 : V = n * 2 ^ s := by rw [hV]; exact HVv.out
   have HV0 := Hd hV0
   have hVlt : V < 4294967296 ^ ys.length := by
    have := valN_lt vs HRV6.out.wd
    rwa [← hV, HSL.out] at this
   have HVLT := Hd hVlt
   have hVpos : 0 < V := by rw [hV0]; exact Nat.mul_pos (by omega) (Nat.pow_pos (by decide))
   have hVge : 2147483648 * 4294967296 ^ (ys.length - 1) ≤ V := by
    have := top_ge (V := V) (lb := ys.length - 1) (by rw [hV0, ← HVS.out, HSL.out]; omega) (by rw [hV0, ← HVS.out]; exact HST.out)
    exact this
   have hm0 : m * 2 ^ s < V * 4294967296 ^ K := shift_first hs hVge K xs.length (by have := lt_dg_len m; rw [← HX.out] at this; exact this) (by have := HLL.out; omega)
   have HM0 := Hd hm0
   have hBUQ : BU ≠ w6.heap.size := by have := HUA6.out.lt; omega
   have hBVQ : BV ≠ w6.heap.size := by omega
   clear hV hV0 hVlt hVge hm0
   go_loopw [16] (fun vi wr => ∃ (k : Nat) (U qs : List Nat), k ≤ K ∧ vi = .int .i64 ((k : Int) - 1) ∧ U.length = L ∧ Wd U ∧ qs.length = K - k ∧ Wd qs ∧ valN U < V * 4294967296 ^ k ∧ m * 2 ^ s = valN U + V * 4294967296 ^ k * valN qs ∧
     Arr .u32 wr BU 103 (ints U) ∧ Arr .u32 wr w6.heap.size 103 (ints (List.replicate k 0 ++ qs)) ∧ Rd wr (.slice (some ⟨BV, 0, none⟩) ys.length ys.length) vs ∧ w.grownBy wr none) (fun vi _ => (intOf vi + 1).toNat)
   case atStart =>
    exact ⟨K, us, [], Nat.le_refl _, by go_num, HUL.out, HUW.out, by simp, (fun x hx => (by cases hx)), by rw [HUV.out]; exact HM0.out, by rw [HUV.out]; simp [valN], HUA6.out.grown hw7 (by simp), by rw [List.append_nil]; exact hq7, HRV6.out.gb hw7, gb_trans (grown_of_below HB6.out none) hw7⟩
   case round =>
    obtain ⟨k, U, qs, hk, rfl, hUl, hUw, hql, hqw, hUlt, hM, hua, hqa, hrv, hgb⟩ := hrel
    have HUl := Hd hUl
    have HUw := Hd hUw
    have HQl := Hd hql
    have HQw := Hd hqw
    have HUlt := Hd hUlt
    have HM := Hd hM
    have HUA7 := Hd hua
    have HQA7 := Hd hqa
    have HRV7 := Hd hrv
    have HG7 := Hd hgb
    clear hUl hUw hql hqw hUlt hM hua hqa hrv hgb
    by_cases h0 : 0 < k
    ·obtain ⟨j, rfl⟩ : ∃ j, k = j + 1 := ⟨k - 1, by omega⟩
     rw [show ((j + 1 : Nat) : Int) - 1 = (j : Int) by omega]
     have n1 : (j : Int) ≥ 0 := by omega
     have n2 : (j : Int).toNat = j := by omega
     have s1 : IntKind.i64.wrap ((j : Int) + (ys.length : Int)) = (j : Int) + (ys.length : Int) := IntWalk.i64_in _ (by omega)
     have s2 : IntKind.i64.wrap ((j : Int) + (ys.length : Int) + 1) = (j : Int) + (ys.length : Int) + 1 := IntWalk.i64_in _ (by omega)
     have s3 : (j : Int) ≤ (j : Int) + (ys.length : Int) + 1 := by omega
     have s4 : (j : Int) + (ys.length : Int) + 1 ≤ (L : Int) := by omega
     have s5 : ((j : Int) + (ys.length : Int) + 1).toNat = j + ys.length + 1 := by omega
     have s6 : ¬ (j + ys.length + 1 = j) := by omega
     have s7 : j + ys.length + 1 - j = ys.length + 1 := by omega
     have hjl : j + (ys.length + 1) ≤ U.length := by rw [HUl.out]; omega
     obtain ⟨c1, c2, c3⟩ := div_cut HUw.out hjl HUlt.out HVLT.out
     obtain ⟨P, hP⟩ : ∃ P, P = U.take j := ⟨_, rfl⟩
     obtain ⟨seg, hsg⟩ : ∃ seg, seg = (U.drop j).take (ys.length + 1) := ⟨_, rfl⟩
     obtain ⟨Z, hZ⟩ : ∃ Z, Z = U.drop (j + (ys.length + 1)) := ⟨_, rfl⟩
     have hU : U = P ++ seg ++ Z := by
      rw [hP, hsg, hZ, ← List.drop_drop, List.append_assoc, List.take_append_drop, List.take_append_drop]
     have hPl : P.length = j := by rw [hP, List.length_take]; omega
     have hsl : seg.length = ys.length + 1 := by rw [hsg, List.length_take, List.length_drop]; omega
     have hPw : Wd P := by rw [hP]; exact HUw.out.take _
     have hsw : Wd seg := by rw [hsg]; exact (HUw.out.drop _).take _
     have hZw : Wd Z := by rw [hZ]; exact HUw.out.drop _
     rw [← hsg] at c1 c2
     rw [← hP] at c2
     rw [← hZ] at c3
     have hdg := digit_calls wr BU j (ys.length + 1) ys.length P seg Z vs (some ⟨BV, 0, none⟩) ys.length (by rw [← hU]; exact HUA7.out) hPl hsw (by omega) HSL.out hsl (by rw [HSL.out]; exact HRV7.out)
      (fun b hb => by simp [Value.ownBlock] at hb; omega) hly2 HST.out (by rw [← HV.out]; exact c1) (Nat.le_refl _)
     rw [HSL.out] at hdg
     have HDG := Hd hdg
     have HC1 := Hd c1
     have HC2 := Hd c2
     have HC3 := Hd c3
     have HSGL := Hd hsl
     have HPl := Hd hPl
     have HPw := Hd hPw
     have HZw := Hd hZw
     have HUe := Hd hU
     clear hdg c1 c2 c3 hP hsg hZ hU hPl hsl hPw hsw hZw hjl
     go_wp2_with fail
     refine HDG.out.mono ?_
     rintro e w8 ⟨seg', rfl, hsl', hsw', hsv', hua', hgb'⟩
     obtain ⟨qd, hqd⟩ : ∃ qd, qd = valN seg / valN vs := ⟨_, rfl⟩
     rw [← hqd]
     have hqdb : qd < 4294967296 := by rw [hqd, ← HV.out]; exact quot_small HC1.out
     have HQD := Hd hqd
     have HSL' := Hd hsl'
     have HSW' := Hd hsw'
     have HSV' := Hd hsv'
     have HUA8 := Hd hua'
     have HQA8 := Hd (HQA7.out.grown hgb' (by intro e; injection e with e; omega))
     have HRV8 := Hd (HRV7.out.grown hgb' (by intro b hb e; simp [Value.ownBlock] at hb; injection e with e; omega))
     have HG8 : Hid (w.grownBy w8 none) := gb_row HG7.out hgb' HBU.out
     have hrep : List.replicate (j + 1) 0 ++ qs = List.replicate j 0 ++ 0 :: qs := by rw [List.replicate_succ', List.append_assoc]; rfl
     have HQA9 : Hid (Arr .u32 w8 w6.heap.size 103 (ints (List.replicate j 0 ++ 0 :: qs))) := by have := HQA8.out; rw [hrep] at this; exact this
     have hcq := HQA9.out.cell j (by rw [ints_length]; simp)
     have hfr := HQA9.out.frozen j
     obtain ⟨old, hold⟩ : ∃ old, old = (ints (List.replicate j 0 ++ 0 :: qs)).getD j 0 := ⟨_, rfl⟩
     rw [← hold] at hcq
     have k1 : (j : Int) < (K : Int) := by omega
     have k2 : j < K := by omega
     have wj : IntKind.i64.wrap ((j : Int) - 1) = (j : Int) - 1 := IntWalk.i64_in _ (by omega)
     clear hqd hsl' hsw' hsv' hua' hgb' hrep hold
     go_wp2_with fail
     go_roundw
     case rel =>
      have hsv : valN seg = V * qd + valN seg' := by
       rw [HSV'.out, HQD.out, HV.out]
       exact (Nat.div_add_mod _ _).symm
      have hvU : valN (P ++ seg' ++ Z) = valN P + 4294967296 ^ j * valN seg' := by
       rw [valN_append, HC3.out, Nat.mul_zero, Nat.add_zero, valN_append, HPl.out]
      have hsl : valN seg' < V := by rw [HSV'.out, ← HV.out]; exact Nat.mod_lt _ hVpos
      refine ⟨j, P ++ seg' ++ Z, qd :: qs, by omega, by go_num, ?_, (HPw.out.append HSW'.out).append HZw.out, by rw [List.length_cons, HQl.out]; omega, ?_, ?_, ?_, ?_, ?_, ?_, gb_set HG8.out (.inl (by have := HB6.out.size; exact this)) _⟩
      ·have := HUl.out
       rw [HUe.out] at this
       simp only [List.length_append] at this ⊢
       have h1 := HSL'.out
       rw [HSL.out] at h1
       have h2 := HSGL.out
       omega
      ·intro y hy
       rcases List.mem_cons.1 hy with rfl | hy
       ·exact hqdb
       ·exact HQw.out y hy
      ·rw [hvU]
       have hP0 := valN_lt P HPw.out
       rw [HPl.out] at hP0
       exact div_less hP0 hsl
      ·rw [hvU, valN]
       have := HM.out
       rw [HC2.out] at this
       exact div_round this hsv
      ·exact HUA8.out.other (by simpa using hBUQ) _
      ·have := HQA9.out.set j (qd : Int)
       rw [ints_set, List.set_append_right _ _ (by simp)] at this
       simp only [List.length_replicate, Nat.sub_self, List.set_cons_zero] at this
       exact this
      ·refine HRV8.out.move (by simp [World.setCell]) fun b hb _ => ?_
       simp [Value.ownBlock] at hb
       exact Below.heap_setCell w8 _ _ b (by intro e; simp at e <;> omega)
     case measure => simp [intOf] <;> omega
    ·obtain rfl : k = 0 := by omega
     have HQA9 : Hid (Arr .u32 wr w6.heap.size 103 (ints qs)) := by have := HQA7.out; rw [List.replicate_zero, List.nil_append] at this; exact this
     have hqrd := Rd.of_arr HQA9.out HQw.out
     have hql : qs.length = K := by have := HQl.out; omega
     have HQRD := Hd (show Rd wr (.slice (some ⟨w6.heap.size, 0, none⟩) qs.length K) qs by rw [hql] at hqrd ⊢; exact hqrd)
     have HUlt0 : Hid (valN U < V) := by have := HUlt.out; rw [Nat.pow_zero, Nat.mul_one] at this; exact this
     have HM0' : Hid (m * 2 ^ s = valN U + V * valN qs) := by have := HM.out; rw [Nat.pow_zero, Nat.mul_one] at this; exact this
     have htr := trim_rn HQRD.out (by omega)
     rw [hql] at htr
     clear hqrd hql
     go_wp2_with fail
     refine htr.mono ?_
     rintro e w8 ⟨v8, rfl, hv8, hb8⟩
     have HV8 := Hd hv8
     have HUA8 := Hd (HUA7.out.below hb8 HUA7.out.lt)
     have HG8 : Hid (w.grownBy w8 none) := gb_below HG7.out hb8
     clear htr hv8 hb8
     have hurd := Rd.of_arr HUA8.out HUw.out
     rw [HUl.out] at hurd
     go_wp2_with fail
     have hun := unshifted_calls w8 (some ⟨BU, 0, none⟩) L U s (by rw [HUl.out]; exact hurd) (by rw [HUl.out]; omega) hs
     rw [HUl.out] at hun
     refine hun.mono ?_
     rintro e w9 ⟨v9, rfl, hv9, hb9⟩
     have HV89 := Hd (Rd.below HV8.out hb9)
     have HG9 : Hid (w.grownBy w9 none) := gb_below HG8.out hb9
     obtain ⟨A9, c9, xs9, rfl, hc9, HX9, HR9⟩ := RN.opened hv9
     clear hun hurd hb9 hv9
     have htr := trim_rn HR9.out (by rw [HX9.out]; refine Nat.le_trans (dg_len_le (k := L) ?_) (by omega); exact Nat.lt_of_le_of_lt (Nat.div_le_self _ _) (by have := valN_lt U HUw.out; rwa [HUl.out] at this))
     go_wp2_with fail
     refine htr.mono ?_
     rintro e w10 ⟨v10, rfl, hv10, hb10⟩
     have HV810 := Hd (Rd.below HV89.out hb10)
     have HB10 := Hd (gb_to_below (gb_below HG9.out hb10))
     rw [HX9.out, valN_dg] at hv10
     have HV10 := Hd hv10
     clear hv10 hb10 htr
     go_wp2_with fail
     go_ret2
     obtain ⟨e1, e2⟩ := div_end (m := m) (n := n) (s := s) (by omega) (by rw [← HV0.out]; exact HM0'.out) (by rw [← HV0.out]; exact HUlt0.out)
     exact ⟨_, _, rfl, by have := HV810.out; rw [e1] at this; exact this, by have := HV10.out; rw [e2] at this; exact this, HB10.out⟩
theorem Below.drewN0 {B : Nat} {a w : World} (h : Below B a w) (n : Nat) : Below B a (w.drewN n) := ⟨h.os, h.tape, h.output, h.size, h.block⟩
theorem list_ext_nat {xs ys : List Nat} (hl : xs.length = ys.length) (h : ∀ j, j < xs.length → nat xs j = nat ys j) : xs = ys := by
 apply List.ext_getElem hl
 intro j h1 h2
 have := h j h1
 simpa [nat, List.getD_eq_getElem?_getD, List.getElem?_eq_getElem h1, List.getElem?_eq_getElem h2] using this
theorem Rd.unique {w : World} {v : Value} {xs ys : List Nat} (h : Rd w v xs) (h2 : Rd w v ys) : xs = ys := by
 obtain ⟨_, A, c, rfl, _, hc⟩ := h
 obtain ⟨_, A2, c2, e, _, hc2⟩ := h2
 injection e with e1 e2 e3
 refine list_ext_nat e2 fun j hj => ?_
 obtain ⟨g, o, eA, _, hj1⟩ := hc (by omega)
 obtain ⟨g2, o2, eA2, _, hj2⟩ := hc2 (by omega)
 rw [← e1, eA] at eA2
 injection eA2 with eA2
 injection eA2 with a1 a2
 subst a1
 subst a2
 have h1 := hj1 j hj
 rw [hj2 j (by omega)] at h1
 simp only [Option.some.injEq, Value.int.injEq, true_and] at h1
 omega
theorem RN.unique {w : World} {v : Value} {m n : Nat} (h : RN w v m) (h2 : RN w v n) : m = n := dg_inj (Rd.unique h h2)
open Classical in
noncomputable def numOf (w : World) (v : Value) : Nat := if h : ∃ n, RN w v n then h.choose else 0
theorem numOf_eq {w : World} {v : Value} {n : Nat} (h : RN w v n) : numOf w v = n := by
 unfold numOf
 rw [dif_pos ⟨n, h⟩]
 exact RN.unique (Exists.choose_spec (⟨n, h⟩ : ∃ n, RN w v n)) h
theorem RN.of_below {w w1 : World} {v : Value} {n : Nat} (h : RN w v n) (hb : Below w.heap.size w w1) : RN w1 v n := Rd.below h hb
set_option maxHeartbeats 16000000 in
set_option maxRecDepth 100000 in
theorem gcd_calls (w : World) (v v2 : Value) (m n : Nat) (h : RN w v m) (h2 : RN w v2 n) (hm : wlen m ≤ 10000000000) (hn : wlen n ≤ 10000000000) :
  Calls Tryz.prog 147 #[v, v2] w fun e w' => WPost w (Nat.gcd m n) e w' := by
 have HRN := Hd h
 have HRN2 := Hd h2
 clear h h2
 go_enter Tryz.func147, Tryz.ntmps147
 go_wp2_with fail
 go_loopw [0, 1] (fun va vb wr => ∃ a b : Nat, RN wr va a ∧ RN wr vb b ∧ Nat.gcd a b = Nat.gcd m n ∧ wlen a ≤ 10000000000 ∧ wlen b ≤ 10000000000 ∧ Below w.heap.size w wr) (fun va vb wr => numOf wr vb)
 case atStart => exact ⟨m, n, HRN.out, HRN2.out, rfl, hm, hn, Below.refl _ _⟩
 case round =>
  obtain ⟨a, b, ha, hb, hg, hal, hbl, hbr⟩ := hrel
  have HA := Hd ha
  have HB := Hd hb
  have HGC := Hd hg
  have HW := Hd hbr
  clear ha hb hg hbr
  obtain ⟨A1, c1, xs, e1, hc1, HX, HR⟩ := HA.out.opened
  obtain ⟨A2, c2, ys, e2, hc2, HY, HR2⟩ := HB.out.opened
  subst e1
  subst e2
  by_cases h0 : b = 0
  ·have hyl : ys.length = 0 := by rw [HY.out, h0]; rfl
   have q0 : ¬ (ys.length : Int) > 0 := by omega
   go_wp2_with fail
   go_ret
   refine ⟨_, rfl, ?_, HW.out⟩
   have := HGC.out
   rw [h0, Nat.gcd_zero_right] at this
   rw [← this]
   exact HA.out
  ·have hyl : 0 < ys.length := by rw [HY.out]; exact wlen_pos.2 h0
   have q0 : (ys.length : Int) > 0 := by omega
   go_wp2_with fail
   refine (small_calls _ _ a HA.out).mono ?_
   rintro e w2 ⟨⟨x, rfl, hx⟩, hb2⟩
   have HW2 := Hd (HW.out.trans (hb2.mono HW.out.size))
   have HA2 := Hd (HA.out.of_below hb2)
   have HB2 := Hd (HB.out.of_below hb2)
   have HXE := Hd hx
   clear hb2 hx
   by_cases hs : a < 18446744073709551616
   ·have d1 : decide (a < 18446744073709551616) = true := decide_eq_true hs
    go_wp2_with fail
    refine (small_calls _ _ b HB2.out).mono ?_
    rintro e w3 ⟨⟨y, rfl, hy⟩, hb3⟩
    have HW3 := Hd (HW2.out.trans (hb3.mono HW2.out.size))
    have HA3 := Hd (HA2.out.of_below hb3)
    have HB3 := Hd (HB2.out.of_below hb3)
    have HYE := Hd hy
    clear hb3 hy
    by_cases hs2 : b < 18446744073709551616
    ·have d2 : decide (b < 18446744073709551616) = true := decide_eq_true hs2
     obtain rfl := HXE.out hs
     obtain rfl := HYE.out hs2
     go_wp2_with fail
     go_loopw [5, 7] (fun vx vy wr => ∃ p q : Nat, vx = .int .u64 (p : Int) ∧ vy = .int .u64 (q : Int) ∧ Nat.gcd p q = Nat.gcd m n ∧ p < 18446744073709551616 ∧ q < 18446744073709551616 ∧ Below w.heap.size w wr) (fun _ vy _ => (intOf vy).toNat)
     case atStart => exact ⟨_, _, rfl, rfl, HGC.out, hs, hs2, HW3.out⟩
     case round =>
      obtain ⟨p, q, rfl, rfl, hpq, hp, hq, hbr⟩ := hrel
      have HPQ := Hd hpq
      have HWr := Hd hbr
      clear hpq hbr
      by_cases hq0 : q = 0
      ·have t1 : ((q : Int) != 0) = false := by rw [hq0]; rfl
       have HQ0 := Hd hq0
       clear hq0
       go_wp2_with fail
       refine (of_calls _ p hp).mono ?_
       rintro e w5 ⟨v5, rfl, hv5, hb5⟩
       have HV5 := Hd hv5
       have HW5 := Hd (HWr.out.trans (hb5.mono HWr.out.size))
       clear hv5 hb5
       go_wp2_with fail
       go_ret
       refine ⟨_, rfl, ?_, HW5.out⟩
       have := HPQ.out
       rw [HQ0.out, Nat.gcd_zero_right] at this
       rw [← this]
       exact HV5.out
      ·have t1 : ((q : Int) != 0) = true := by
        have : (q : Int) ≠ 0 := by omega
        simpa using this
       have t2 : ((q : Int) == 0) = false := by
        have : (q : Int) ≠ 0 := by omega
        simpa using this
       have t3 : (q : Int) ≠ 0 := by omega
       obtain ⟨r, hr⟩ : ∃ r, r = p % q := ⟨_, rfl⟩
       obtain ⟨⟨_, df2⟩, _, df4⟩ := div_facts (z := p) (d := q) rfl rfl
       rw [← hr] at df2 df4
       have hrq : r < q := by rw [hr]; exact Nat.mod_lt _ (by omega)
       have f1 : IntKind.u64.wrap (r : Int) = (r : Int) := IntWalk.u64_in _ (by omega)
       have HRr := Hd hr
       clear hr hq0
       go_wp2_with fail
       go_quiet (fail)
       go_wp2_with fail
       go_roundw
       case rel => exact ⟨q, r, rfl, rfl, by rw [HRr.out, Nat.gcd_comm, ← Nat.gcd_rec, Nat.gcd_comm]; exact HPQ.out, hq, by omega, (Below.drewN0 HWr.out _)⟩
       case measure => simp [intOf]; omega
    ·have d2 : decide (b < 18446744073709551616) = false := decide_eq_false hs2
     go_wp2_with fail
     refine (div_calls _ _ _ a b HA3.out HB3.out hal hbl h0).mono ?_
     rintro e w5 ⟨v5, v6, rfl, hv5, hv6, hb5⟩
     have HW5 := Hd (HW3.out.trans (hb5.mono HW3.out.size))
     have HB5 := Hd (HB3.out.of_below hb5)
     have HV6 := Hd hv6
     clear hv5 hv6 hb5
     go_wp2_with fail
     go_roundw
     case rel => exact ⟨b, a % b, HB5.out, HV6.out, by rw [Nat.gcd_comm, ← Nat.gcd_rec, Nat.gcd_comm]; exact HGC.out, hbl, Nat.le_trans (wlen_mono (Nat.le_of_lt (Nat.mod_lt _ (by omega)))) hbl, HW5.out⟩
     case measure =>
      show numOf w5 v6 < numOf wr (Value.slice A2 ys.length c2)
      rw [numOf_eq HV6.out, numOf_eq HB.out]
      exact Nat.mod_lt _ (by omega)
   ·have d1 : decide (a < 18446744073709551616) = false := decide_eq_false hs
    go_wp2_with fail
    refine (div_calls _ _ _ a b HA2.out HB2.out hal hbl h0).mono ?_
    rintro e w5 ⟨v5, v6, rfl, hv5, hv6, hb5⟩
    have HW5 := Hd (HW2.out.trans (hb5.mono HW2.out.size))
    have HB5 := Hd (HB2.out.of_below hb5)
    have HV6 := Hd hv6
    clear hv5 hv6 hb5
    go_wp2_with fail
    go_roundw
    case rel => exact ⟨b, a % b, HB5.out, HV6.out, by rw [Nat.gcd_comm, ← Nat.gcd_rec, Nat.gcd_comm]; exact HGC.out, hbl, Nat.le_trans (wlen_mono (Nat.le_of_lt (Nat.mod_lt _ (by omega)))) hbl, HW5.out⟩
    case measure =>
     show numOf w5 v6 < numOf wr (Value.slice A2 ys.length c2)
     rw [numOf_eq HV6.out, numOf_eq HB.out]
     exact Nat.mod_lt _ (by omega)
end Go.Proofs.YtfhambfgjigneaaGreat

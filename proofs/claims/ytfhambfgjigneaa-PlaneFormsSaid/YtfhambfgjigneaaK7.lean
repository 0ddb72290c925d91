/- Contracts of Go functions that the statement reaches, proved by walking their text, and plain laws over them (texts put together). -/
import Derived.Test.YtfhambfgjigneaaK6
import Derived.Test.YtfhambfgjigneaaK2
import Derived.Test.YtfhambfgjigneaaK3
import Derived.Test.YtfhambfgjigneaaK4
set_option linter.unusedVariables false
set_option linter.unusedSimpArgs false
namespace Go.Proofs.Ytfhambfgjigneaa
open Go.RowKit
set_option maxHeartbeats 8000000 in
set_option maxRecDepth 100000 in
theorem rshift_calls (w : World) (v : Value) (m n : Nat) (h : RN w v m) (hm : wlen m ≤ 100000000000) (hn : n < 32) :
    Calls Try.prog 140 #[v, .int .u64 n] w fun e w' => ShiftPost w m n (wlen m) e w' := by
  obtain ⟨A, c, xs, rfl, hc, HX, HR⟩ := h.opened
  clear h
  have hlx : xs.length ≤ 100000000000 := by rw [HX.out]; exact hm
  have HVX : Hid (valN xs = m) := by unfold Hid; rw [HX.out, valN_dg]
  have HLX : Hid (wlen m = xs.length) := by unfold Hid; rw [HX.out]; rfl
  clear HX hm
  go_enter Try.func140, Try.ntmps140
  obtain ⟨N, hN⟩ : ∃ N : Nat, xs.length + 1 = N := ⟨_, rfl⟩
  have wl : IntKind.i64.wrap ((xs.length : Int) + 1) = ((N : Nat) : Int) := by rw [IntWalk.i64_in _ (by omega)]; omega
  have hmk := make_words 38 Try.underlying38 N (by omega)
  go_wp2_with fail
  clear hmk wl
  have hw0 := gb_alloc (gb_refl w none) (zw N)
  have ha0 := zw_arr w N
  generalize w.alloc (zw N) = W0 at *
  go_loopw [6] (fun vi wr => ∃ (i t : Nat) (d : List Nat), i ≤ xs.length ∧ vi = .int .i64 (i : Int) ∧ t < 2 ^ n ∧ d.length = i ∧ Wd d ∧
      valN d + t * 4294967296 ^ i = valN (xs.take i) * 2 ^ n ∧ Arr .u32 wr w.heap.size 103 (ints (d ++ t :: List.replicate (xs.length - i) 0)) ∧ w.grownBy wr none) (fun vi _ => xs.length - (intOf vi).toNat)
  case atStart => exact ⟨0, 0, [], by omega, rfl, Nat.pow_pos (by decide), rfl, (fun x hx => (by cases hx)), by simp [valN], by rw [List.nil_append, Nat.sub_zero, ← List.replicate_succ, hN]; exact ha0, hw0⟩
  case round =>
    obtain ⟨i, t, d, hi, rfl, ht, hdl, hdw, hval, harr, hgb⟩ := hrel
    have HD := Lib.hid hdw
    have HV := Lib.hid hval
    have HA := Lib.hid harr
    have HG := Lib.hid hgb
    have HL := Lib.hid hdl
    clear hdw hval harr hdl
    by_cases hlx2 : i < xs.length
    · have HRr := Lib.hid (HR.out.gb hgb)
      clear hgb
      obtain ⟨g, o, rfl, hg, hcell⟩ := HRr.out.cell (j := i) hlx2
      have n1 : (i : Int) < (xs.length : Int) := by omega
      have n3 : (i : Int).toNat = i := by omega
      have n4 : (0 : Int) ≤ (i : Int) := by omega
      have n0 : (0 : Int) ≤ (n : Int) := by omega
      have nn : (n : Int).toNat = n := by omega
      have n5 : (i : Int) < (N : Int) := by omega
      have n6 : i < N := by omega
      have hx := nat_lt HR.out.wd i
      obtain ⟨x, hxx⟩ : ∃ x, x = nat xs i := ⟨_, rfl⟩
      rw [← hxx] at hx hcell
      have HXX := Lib.hid hxx
      clear hxx
      have f0 : IntKind.u64.wrap (x : Int) = (x : Int) := IntWalk.u64_in _ (by omega)
      obtain ⟨y, lo, hi2, hy, hs, hl0, hll, hh⟩ := shift_word hx hn
      have hh31 : hi2 < 4294967296 := by
        have : 2 ^ n ≤ 2 ^ 31 := Nat.pow_le_pow_right (by decide) (by omega)
        omega
      have f1 := wrap_shift hx hn hy
      have hlo : lo < 4294967296 := by
        have : 0 < 2 ^ n := Nat.pow_pos (by decide)
        omega
      have f2 : bits .and .u64 (y : Int) 4294967295 = (lo : Int) := mask_any (by omega) hlo hh31
      have f20 : IntKind.u32.wrap (lo : Int) = (lo : Int) := by rw [IntKind.wrap_u32]; omega
      have hor0 := or_zero hh31
      have f3 : (y : Int) / 4294967296 = (hi2 : Int) := by
        have : 0 < 2 ^ n := Nat.pow_pos (by decide)
        omega
      have f4 : IntKind.u32.wrap (hi2 : Int) = (hi2 : Int) := by rw [IntKind.wrap_u32]; omega
      have hor := or_shift hn ht hl0 hll
      obtain ⟨s, hss⟩ : ∃ s, s = lo + t := ⟨_, rfl⟩
      have hs32 : s < 4294967296 := by omega
      rw [← hss] at hor
      have hz : List.replicate (xs.length - i) 0 = 0 :: List.replicate (xs.length - (i + 1)) 0 := by rw [← List.replicate_succ]; congr 1; omega
      have HA2 : Hid (Arr .u32 wr w.heap.size 103 (ints (d ++ t :: 0 :: List.replicate (xs.length - (i + 1)) 0))) := by have := HA.out; rw [hz] at this; exact this
      clear HA hz
      have hlen : (ints (d ++ t :: 0 :: List.replicate (xs.length - (i + 1)) 0)).length = N := by rw [ints_length]; simp [HL.out] <;> omega
      have hco : wr.cell? ⟨w.heap.size, i, none⟩ = some (.int .u32 (t : Int)) := by
        have h1 := HA2.out.cell i (by rw [hlen]; omega)
        have h2 := nth_ints (d ++ t :: 0 :: List.replicate (xs.length - (i + 1)) 0) i
        unfold nth at h2
        rw [h1, h2, nat_append_right (by rw [HL.out]; exact Nat.le_refl _), HL.out, Nat.sub_self]
        rfl
      have HA3 : Hid (Arr .u32 (wr.setCell ⟨w.heap.size, i, none⟩ (.int .u32 (s : Int))) w.heap.size 103 (ints (d ++ [s] ++ 0 :: List.replicate (xs.length - (i + 1)) 0))) := by
        have := HA2.out.set i (s : Int)
        rw [ints_set, set_two _ _ _ _ _ HL.out] at this
        exact this
      have hfr := HA2.out.frozen i
      have hco2 : (wr.setCell ⟨w.heap.size, i, none⟩ (.int .u32 (s : Int))).cell? ⟨w.heap.size, i + 1, none⟩ = some (.int .u32 ((0 : Nat) : Int)) := by
        have h1 := HA3.out.cell (i + 1) (by rw [ints_length]; simp [HL.out])
        have h2 := nth_ints (d ++ [s] ++ 0 :: List.replicate (xs.length - (i + 1)) 0) (i + 1)
        unfold nth at h2
        rw [h1, h2, nat_append_right (by simp [HL.out]), List.length_append, HL.out]
        simp [nat]
      have hfr2 := HA3.out.frozen (i + 1)
      have k1 : IntKind.i64.wrap ((i : Int) + 1) = (i : Int) + 1 := IntWalk.i64_in _ (by omega)
      have k2 : (i : Int) + 1 < (N : Int) := by omega
      have k3 : ((i : Int) + 1).toNat = i + 1 := by omega
      have k4 : i + 1 < N := by omega
      have k5 : 0 ≤ (i : Int) + 1 := by omega
      have HY := Lib.hid hy
      have HS := Lib.hid hs
      have HSS := Lib.hid hss
      have HLL := Lib.hid hll
      clear hy hs hss hl0 hll
      go_wp2_with fail
      go_roundw
      case rel =>
        refine ⟨i + 1, hi2, d ++ [s], by omega, by go_num, hh, by simp [HL.out], HD.out.snoc hs32, ?_, ?_, gb_set (gb_set HG.out (.inl (Nat.le_refl _)) _) (.inl (Nat.le_refl _)) _⟩
        · rw [valN_snoc, HL.out, valN_take_succ _ _ hlx2, ← HXX.out, Nat.pow_succ, HSS.out]
          exact shift_step HV.out (by rw [← HY.out]; exact HS.out)
        · have := HA3.out.set (i + 1) (hi2 : Int)
          rw [ints_set, List.set_append_right _ _ (by simp [HL.out])] at this
          simp only [List.length_append, HL.out, List.length_cons, List.length_nil, Nat.zero_add, Nat.sub_self, List.set_cons_zero] at this
          exact this
      case measure => simp [intOf]; omega
    · obtain rfl : i = xs.length := by omega
      go_wp2_with fail
      go_ret
      have ht32 : t < 4294967296 := by
        have : 2 ^ n ≤ 2 ^ 31 := Nat.pow_le_pow_right (by decide) (by omega)
        omega
      rw [HLX.out]
      refine ⟨w.heap.size, d ++ [t], by rw [hN]; rfl, Nat.le_refl _, by simp [HL.out], HD.out.snoc ht32, ?_, ?_, gb_to_below HG.out⟩
      · have := HV.out
        rw [List.take_length, HVX.out] at this
        rw [valN_snoc, HL.out, ← this, Nat.mul_comm]
      · have := HA.out
        rw [Nat.sub_self, List.replicate_zero] at this
        exact this
end Go.Proofs.Ytfhambfgjigneaa
set_option linter.unusedVariables false
set_option linter.unusedSimpArgs false
namespace Go.Proofs.Ytfhambfgjigneaa
open Go.RowKit
theorem pow_parts {n : Nat} (hn : n < 32) : ∃ p q, p = 2 ^ n ∧ q = 2 ^ (32 - n) ∧ p * q = 4294967296 ∧ 0 < p ∧ 0 < q := ⟨_, _, rfl, rfl, pow_split hn, Nat.pow_pos (by decide), Nat.pow_pos (by decide)⟩
theorem back_low {x y p q : Nat} (hp : 0 < p) (hpq : p * q = 4294967296) (hx : x < 4294967296) : ∃ hi, (x + 4294967296 * y) / p = (x / p + q * (y % p)) + 4294967296 * hi ∧ hi = y / p ∧ x / p + q * (y % p) < 4294967296 := by
  have hxq : x / p < q := by rw [Nat.div_lt_iff_lt_mul hp, Nat.mul_comm, hpq]; exact hx
  have hr : y % p < p := Nat.mod_lt _ hp
  refine ⟨y / p, ?_, rfl, ?_⟩
  · have e1 : x + 4294967296 * y = x + p * (q * y) := by rw [← Nat.mul_assoc, hpq]
    have e2 : q * y = 4294967296 * (y / p) + q * (y % p) := by
      have := Nat.div_add_mod y p
      calc q * y = q * (p * (y / p) + y % p) := by rw [this]
        _ = 4294967296 * (y / p) + q * (y % p) := by rw [Nat.mul_add, ← Nat.mul_assoc, Nat.mul_comm q p, hpq]
    rw [e1, Nat.add_mul_div_left _ _ hp, e2]
    omega
  · have h1 : q * (y % p) ≤ q * (p - 1) := Nat.mul_le_mul_left q (by omega)
    have h2 : q * (p - 1) + q = 4294967296 := by rw [← Nat.mul_succ, Nat.succ_eq_add_one, Nat.sub_add_cancel hp, Nat.mul_comm, hpq]
    omega
theorem rback_step {x y z p q : Nat} (hp : 0 < p) (hpq : p * q = 4294967296) (hx : x < 4294967296) : (x + 4294967296 * (y + 4294967296 * z)) / p = (x / p + q * (y % p)) + 4294967296 * ((y + 4294967296 * z) / p) := by
  obtain ⟨hi, h1, h2, _⟩ := back_low (y := y + 4294967296 * z) hp hpq hx
  rw [h1, h2]
  have : (y + 4294967296 * z) % p = y % p := by
    rw [← hpq, Nat.mul_assoc, Nat.add_mul_mod_self_left]
  rw [this]
theorem or_hi {x y : Nat} (hx : x < 4294967296) (hy : y < 4294967296) : bits .or .u64 (x : Int) ((y : Int) * 4294967296) = ((x + 4294967296 * y : Nat) : Int) := by
  rw [bits_or_comm, or_word y x hy hx]
  omega
theorem div_pow {z n k : Nat} (h : z / 2 ^ n = k) : (z : Int) / 2 ^ n = (k : Int) := by
  have e : (2 : Int) ^ n = ((2 ^ n : Nat) : Int) := by push_cast; rfl
  rw [e, ← Int.natCast_ediv, h]
set_option maxHeartbeats 8000000 in
set_option maxRecDepth 100000 in
theorem rback_calls (w : World) (A : Option Addr) (c : Nat) (xs : List Nat) (n : Nat) (h : Rd w (.slice A xs.length c) xs) (hlx : xs.length ≤ 100000000000) (hn : n < 32) :
    Calls Try.prog 141 #[.slice A xs.length c, .int .u64 n] w fun e w' => WPost w (valN xs / 2 ^ n) e w' := by
  have HR := Lib.hid h
  clear h
  obtain ⟨p, q, hp, hq, hpq, hp0, hq0⟩ := pow_parts hn
  rw [← hp]
  have HP := Lib.hid hp
  have HPQ := Lib.hid hpq
  clear hp hq hpq
  go_enter Try.func141, Try.ntmps141
  have hmk := make_words 38 Try.underlying38 xs.length (by omega)
  go_wp2_with fail
  clear hmk
  have hw0 := gb_alloc (gb_refl w none) (zw xs.length)
  have ha0 := zw_arr w xs.length
  generalize w.alloc (zw xs.length) = W0 at *
  go_loopw [6] (fun vi wr => ∃ (i : Nat) (d : List Nat), i ≤ xs.length ∧ vi = .int .i64 (i : Int) ∧ d.length = i ∧ Wd d ∧
      valN xs / p = valN d + 4294967296 ^ i * (valN (xs.drop i) / p) ∧ Arr .u32 wr w.heap.size 103 (ints (d ++ (List.replicate xs.length 0).drop i)) ∧ w.grownBy wr none) (fun vi _ => xs.length - (intOf vi).toNat)
  case atStart => exact ⟨0, [], by omega, rfl, rfl, (fun x hx => (by cases hx)), by simp [valN], ha0, hw0⟩
  case round =>
    obtain ⟨i, d, hi, rfl, hdl, hdw, hval, harr, hgb⟩ := hrel
    have HD := Lib.hid hdw
    have HV := Lib.hid hval
    have HA := Lib.hid harr
    have HG := Lib.hid hgb
    have HL := Lib.hid hdl
    clear hdw hval harr hdl
    by_cases hlx2 : i < xs.length
    · have HRr := Lib.hid (HR.out.gb hgb)
      clear hgb
      obtain ⟨g, o, rfl, hg, hcell⟩ := HRr.out.cell (j := i) hlx2
      have n1 : (i : Int) < (xs.length : Int) := by omega
      have n3 : (i : Int).toNat = i := by omega
      have n4 : (0 : Int) ≤ (i : Int) := by omega
      have n0 : (0 : Int) ≤ (n : Int) := by omega
      have nn : (n : Int).toNat = n := by omega
      have hx := nat_lt HR.out.wd i
      obtain ⟨x, hxx⟩ : ∃ x, x = nat xs i := ⟨_, rfl⟩
      rw [← hxx] at hx hcell
      have HXX := Lib.hid hxx
      clear hxx
      have f0 : IntKind.u64.wrap (x : Int) = (x : Int) := IntWalk.u64_in _ (by omega)
      have k1 : IntKind.i64.wrap ((i : Int) + 1) = (i : Int) + 1 := IntWalk.i64_in _ (by omega)
      have hlen : (ints (d ++ (List.replicate xs.length 0).drop i)).length = xs.length := by rw [ints_length]; simp [HL.out]; omega
      have hco := HA.out.cell i (by rw [hlen]; omega)
      have hfr := HA.out.frozen i
      obtain ⟨old, hold⟩ : ∃ old, old = (ints (d ++ (List.replicate xs.length 0).drop i)).getD i 0 := ⟨_, rfl⟩
      rw [← hold] at hco
      clear hold
      have fin : ∀ lo : Nat, lo < 4294967296 → valN (xs.drop i) / p = lo + 4294967296 * (valN (xs.drop (i + 1)) / p) → (∃ (i' : Nat) (d' : List Nat), i' ≤ xs.length ∧ Value.int .i64 ((i : Int) + 1) = .int .i64 (i' : Int) ∧ d'.length = i' ∧ Wd d' ∧ valN xs / p = valN d' + 4294967296 ^ i' * (valN (xs.drop i') / p) ∧ Arr .u32 (wr.setCell ⟨w.heap.size, i, none⟩ (.int .u32 (lo : Int))) w.heap.size 103 (ints (d' ++ (List.replicate xs.length 0).drop i')) ∧ w.grownBy (wr.setCell ⟨w.heap.size, i, none⟩ (.int .u32 (lo : Int))) none) := fun lo hlo hst => by
        refine ⟨i + 1, d ++ [lo], by omega, by go_num, by simp [HL.out], HD.out.snoc hlo, ?_, ?_, gb_set HG.out (.inl (Nat.le_refl _)) _⟩
        · rw [valN_snoc, HL.out, HV.out, hst, Nat.pow_succ, Nat.mul_add, Nat.mul_assoc, Nat.add_assoc]
        · have := HA.out.set i (lo : Int)
          rw [ints_set, set_pass _ _ _ _ HL.out (by simp; omega)] at this
          exact this
      have HF := Lib.hid fin
      clear fin
      by_cases hl2 : i + 1 < xs.length
      · obtain ⟨g2, o2, e2, hg2, hcell2⟩ := HRr.out.cell (j := i + 1) hl2
        injection e2 with e2
        injection e2 with e21 e22
        subst e21 e22
        have hy := nat_lt HR.out.wd (i + 1)
        obtain ⟨y, hyy⟩ : ∃ y, y = nat xs (i + 1) := ⟨_, rfl⟩
        rw [← hyy] at hy hcell2
        have HYY := Lib.hid hyy
        clear hyy
        have m1 : (i : Int) + 1 < (xs.length : Int) := by omega
        have m2 : ((i : Int) + 1).toNat = i + 1 := by omega
        have m3 : 0 ≤ (i : Int) + 1 := by omega
        have g0 : IntKind.u64.wrap (y : Int) = (y : Int) := IntWalk.u64_in _ (by omega)
        have g1 : IntKind.u64.wrap ((y : Int) * 4294967296) = (y : Int) * 4294967296 := IntWalk.u64_in _ (by omega)
        have g2' := or_hi hx hy
        obtain ⟨z, hz⟩ : ∃ z, z = x + 4294967296 * y := ⟨_, rfl⟩
        rw [← hz] at g2'
        obtain ⟨hi2, h1, h2, h3⟩ := back_low (y := y) hp0 HPQ.out hx
        obtain ⟨lo, hlo⟩ : ∃ lo, lo = x / p + q * (y % p) := ⟨_, rfl⟩
        rw [← hlo] at h1 h3
        rw [← hz] at h1
        obtain ⟨k, hk⟩ : ∃ k, k = z / p := ⟨_, rfl⟩
        have g3 : (z : Int) / 2 ^ n = (k : Int) := div_pow (by rw [← HP.out, hk])
        have hyp : hi2 ≤ y := by rw [h2]; exact Nat.div_le_self _ _
        have g4 : bits .and .u64 (k : Int) 4294967295 = (lo : Int) := mask_any (hi := hi2) (by rw [hk, h1]; omega) h3 (by omega)
        have g5 : IntKind.u32.wrap (lo : Int) = (lo : Int) := by rw [IntKind.wrap_u32]; omega
        have HST : Hid (valN (xs.drop i) / p = lo + 4294967296 * (valN (xs.drop (i + 1)) / p)) := by
          unfold Hid
          rw [valN_drop _ _ hlx2, valN_drop _ _ hl2, ← HXX.out, ← HYY.out, rback_step hp0 HPQ.out hx, ← hlo]
        have H3 := Lib.hid h3
        clear hz hlo hk h1 h2 h3 hyp
        go_wp2_with fail
        go_roundw
        case rel => exact HF.out lo H3.out HST.out
        case measure => simp [intOf]; omega
      · have m1 : ¬ (i : Int) + 1 < (xs.length : Int) := by omega
        obtain ⟨hi2, h1, h2, h3⟩ := back_low (y := 0) hp0 HPQ.out hx
        obtain ⟨lo, hlo⟩ : ∃ lo, lo = x / p := ⟨_, rfl⟩
        rw [Nat.zero_mod, Nat.mul_zero, Nat.add_zero, ← hlo] at h1 h3
        rw [Nat.zero_div] at h2
        have g3 : (x : Int) / 2 ^ n = (lo : Int) := div_pow (by rw [← HP.out, hlo])
        have g4 : bits .and .u64 (lo : Int) 4294967295 = (lo : Int) := mask_word h3
        have g5 : IntKind.u32.wrap (lo : Int) = (lo : Int) := by rw [IntKind.wrap_u32]; omega
        have HST : Hid (valN (xs.drop i) / p = lo + 4294967296 * (valN (xs.drop (i + 1)) / p)) := by
          unfold Hid
          rw [valN_drop _ _ hlx2, List.drop_of_length_le (show xs.length ≤ i + 1 by omega), ← HXX.out, hlo]
          simp [valN]
        have H3 := Lib.hid h3
        clear hlo h1 h2 h3
        go_wp2_with fail
        go_roundw
        case rel => exact HF.out lo H3.out HST.out
        case measure => simp [intOf]; omega
    · obtain rfl : i = xs.length := by omega
      clear hgb
      go_wp2_with fail
      have ha2 := HA.out
      rw [List.drop_of_length_le (by simp), List.append_nil] at ha2
      have hrd := Rd.of_arr ha2 HD.out
      rw [HL.out] at hrd
      have hrd2 : Rd wr (.slice (some ⟨w.heap.size, 0, none⟩) d.length xs.length) d := by rw [HL.out]; exact hrd
      have htr := rtrim_rn hrd2 (by rw [HL.out]; omega)
      rw [HL.out] at htr
      refine htr.mono ?_
      rintro e w' ⟨v, rfl, hv, hb⟩
      have hval : valN d = valN xs / p := by
        have h1 := HV.out
        rw [List.drop_length] at h1
        simpa [valN] using h1.symm
      rw [hval] at hv
      have HBB := Lib.hid (gb_to_below (gb_below HG.out hb))
      go_wp2_with fail
      go_ret
      exact ⟨_, rfl, hv, HBB.out⟩
end Go.Proofs.Ytfhambfgjigneaa
set_option linter.unusedVariables false
set_option linter.unusedSimpArgs false
namespace Go.Proofs.Ytfhambfgjigneaa
open Go.RowKit
theorem info140 : (Try.prog.info? 140).map (·.size) = some 2 := by kernel_rfl
def PartsPost (w : World) (m n : Nat) (e : Ending) (w' : World) : Prop := ∃ v v2, e = .returned (.agg #[v, v2]) ∧ RN w' v (m / n) ∧ RN w' v2 (m % n) ∧ Below w.heap.size w w'
theorem ret140 {fn : Func} {p : Tmp} {Post : Ending → World → Prop} {tmps : Array Value} {w : World} {g : Nat} {a b : Value} (hres : fn.results = #[.cell p 140]) (hp : tmps.getD p undef = .pointer (some ⟨g, 0, none⟩)) (hb : Blk w g 140 #[a, b])
    (hP : Post (.returned (.agg #[a, b])) w) : bodyPost Try.prog fn Post Exit.ret { tmps := tmps, defers := [] } w :=
  bodyPost_ret (v := .agg #[a, b]) (results_cell_row hres _ _ g 140 #[a, b] (0, 0) _ hp hb Try.underlying140 rfl info140) rfl hP
theorem ni140 : ∀ x ∈ #[Value.slice none 0 0, .slice none 0 0], notInt x = true := by simp [notInt]
theorem RN.put2 {w : World} {v : Value} {n g t : Nat} {a b : Value} (h : RN w v n) (hb : Blk w g t #[a, b]) (hni : ∀ x ∈ #[a, b], notInt x = true) (x y : Value) : RN ((w.setCell ⟨g, 0, none⟩ x).setCell ⟨g, 1, none⟩ y) v n :=
  Rd.apart h hb hni (by simp [World.setCell]) fun k _ hkg => by
    rw [Below.heap_setCell _ _ _ k hkg, Below.heap_setCell _ _ _ k hkg]
theorem end140 {fn : Func} {p : Tmp} {tmps : Array Value} {w W : World} {g : Nat} {x y : Value} {m n : Nat} (hres : fn.results = #[.cell p 140]) (hp : tmps.getD p undef = .pointer (some ⟨g, 0, none⟩)) (hb : Blk W g 140 #[.slice none 0 0, .slice none 0 0])
    (h1 : RN W x (m / n)) (h2 : RN W y (m % n)) (hg : w.heap.size ≤ g) (hbl : Below w.heap.size w W) : bodyPost Try.prog fn (fun e w' => PartsPost w m n e w') Exit.ret { tmps := tmps, defers := [] } ((W.setCell ⟨g, 0, none⟩ x).setCell ⟨g, 1, none⟩ y) :=
  ret140 hres hp ((hb.put 0 x).put 1 y) ⟨_, _, rfl, h1.put2 hb ni140 x y, h2.put2 hb ni140 x y, Below.setCell (Below.setCell hbl (p := ⟨g, 0, none⟩) hg x) (p := ⟨g, 1, none⟩) hg y⟩
theorem cmpI_lt {m n : Nat} (h : m < n) : cmpI m n = -1 := by unfold cmpI; rw [if_neg (by omega), if_pos h]
theorem cmpI_ge {m n : Nat} (h : n ≤ m) : decide (cmpI m n < 0) = false := by
  refine decide_eq_false ?_
  unfold cmpI
  split
  · omega
  · rw [if_neg (by omega)]; omega
theorem parts_end0 {D g V S : Nat} (h : D + g * V = S) (hq : S / V ≤ g) (hV : 0 < V) : g = S / V ∧ D = S % V := by
  have h1 : g ≤ S / V := by rw [Nat.le_div_iff_mul_le hV]; omega
  have h2 : g = S / V := by omega
  refine ⟨h2, ?_⟩
  have := Nat.div_add_mod S V
  rw [← h2, Nat.mul_comm] at this
  omega
theorem parts_end1 {D g V S L : Nat} (h : D + g * V = S + L) (hD : D < L) (hlt : g * V < S + V) (hq : S / V ≤ g) (hV : 0 < V) : 0 < g ∧ g - 1 = S / V ∧ D + V = S % V + L := by
  have hg : S / V < g := by rw [Nat.div_lt_iff_lt_mul hV]; omega
  have hgp : 0 < g := Nat.lt_of_le_of_lt (Nat.zero_le _) hg
  have h1 : (g - 1) * V ≤ S := by
    have : (g - 1) * V + V = g * V := by rw [← Nat.succ_mul]; congr 1; omega
    omega
  have h2 : g - 1 ≤ S / V := by rw [Nat.le_div_iff_mul_le hV]; exact h1
  have h3 : g - 1 = S / V := by omega
  refine ⟨by omega, h3, ?_⟩
  have := Nat.div_add_mod S V
  rw [← h3, Nat.mul_comm] at this
  have h4 : (g - 1) * V + V = g * V := by rw [← Nat.succ_mul]; congr 1; omega
  omega
theorem top_bit {z : Nat} (h : z < 4294967296) : bits .and .u32 (z : Int) 2147483648 = if z < 2147483648 then 0 else 2147483648 := by
  show IntKind.u32.wrap ((BitVec.ofInt 32 (z : Int) &&& BitVec.ofInt 32 2147483648).toNat : Int) = _
  rw [BitVec.toNat_and, BitVec.ofInt_natCast, BitVec.toNat_ofNat, Nat.mod_eq_of_lt (by omega), show (BitVec.ofInt 32 2147483648).toNat = 2 ^ 31 from rfl]
  by_cases hz : z < 2147483648
  · have e : z &&& 2 ^ 31 = 0 := by
      refine Nat.eq_of_testBit_eq fun i => ?_
      rw [Nat.testBit_and, Nat.testBit_two_pow, Nat.zero_testBit]
      by_cases h31 : 31 = i
      · subst h31; rw [Nat.testBit_lt_two_pow (by omega)]; rfl
      · simp [h31]
    rw [if_pos hz, e]
    rfl
  · have e : z &&& 2 ^ 31 = 2 ^ 31 := by
      refine Nat.eq_of_testBit_eq fun i => ?_
      rw [Nat.testBit_and, Nat.testBit_two_pow]
      by_cases h31 : 31 = i
      · subst h31
        have : z.testBit 31 = true := by
          rw [Nat.testBit_eq_decide_div_mod_eq]
          exact decide_eq_true (by omega)
        rw [this]; rfl
      · simp [h31]
    rw [if_neg hz, e]
    rfl
set_option maxHeartbeats 40000000 in
set_option maxRecDepth 100000 in
theorem rparts_calls (w : World) (v v2 : Value) (m n : Nat) (h : RN w v m) (h2 : RN w v2 n) (hm : wlen m ≤ 10000000000) (hn : wlen n ≤ 10000000000) (hn0 : n ≠ 0) :
    Calls Try.prog 129 #[v, v2] w fun e w' => PartsPost w m n e w' := by
  have HRN := Lib.hid h
  have HRN2 := Lib.hid h2
  obtain ⟨A, c, xs, rfl, hc, HX, _⟩ := h.opened
  obtain ⟨A2, c2, ys, rfl, hc2, HY, _⟩ := h2.opened
  clear h h2
  go_enter Try.func129, Try.ntmps129
  go_wp2_with fail
  have H0 := Lib.hid (HS.one (w := w) #[.slice none 0 0, .slice none 0 0] 140)
  generalize w.alloc (.cells #[.slice none 0 0, .slice none 0 0] 140) = W0 at *
  refine (rorder_calls W0 _ _ m n (HRN.out.of_below H0.out.2) (HRN2.out.of_below H0.out.2) (by omega) (by omega)).mono ?_
  rintro e w1 ⟨rfl, hb⟩
  have H1 := Lib.hid (H0.out.step hb)
  clear hb
  have HRN_1 := Lib.hid (HRN.out.of_below H1.out.2)
  have HRN2_1 := Lib.hid (HRN2.out.of_below H1.out.2)
  by_cases hlt : m < n
  · have t0 : decide (cmpI m n < 0) = true := by rw [cmpI_lt hlt]; rfl
    have e0 := (H1.out.blk 0 rfl).cell (j := 0) rfl
    have e1 := (H1.out.blk 0 rfl).cell (j := 1) rfl
    have f0 := (H1.out.blk 0 rfl).frozen 0
    have f1 := (H1.out.blk 0 rfl).frozen 1
    have HLT := Lib.hid hlt
    clear hlt
    go_wp2_with fail
    exact end140 Try.results129 rfl (H1.out.blk 0 rfl) (by rw [Nat.div_eq_of_lt HLT.out]; exact Rd.nil _) (by rw [Nat.mod_eq_of_lt HLT.out]; exact HRN_1.out) (Nat.le_refl _) H1.out.2
  have hle : n ≤ m := by omega
  have t0 := cmpI_ge hle
  have hyl : 0 < ys.length := by rw [HY.out]; exact wlen_pos.2 hn0
  have hRy : Rd w1 (.slice A2 ys.length c2) ys := by have := HRN2_1.out; unfold RN at this; rw [← HY.out] at this; exact this
  by_cases hy1 : ys.length = 1
  · have q1 : ((ys.length : Int) == 1) = true := by rw [hy1]; rfl
    obtain ⟨g, o, rfl, hg, hcell⟩ := hRy.cell (j := 0) (by omega)
    rw [Nat.add_zero] at hcell
    have l2 : (0 : Int) < (ys.length : Int) := by omega
    obtain ⟨d, hd⟩ : ∃ d, d = nat ys 0 := ⟨_, rfl⟩
    rw [← hd] at hcell
    have hdn : d = n := by
      rw [hd, ← valN_dg n, ← HY.out]
      match ys, hy1 with
      | [y], _ => simp [nat, valN]
    have hd32 : d < 4294967296 := by rw [hd]; exact nat_lt hRy.wd 0
    have HDN := Lib.hid hdn
    clear hd hRy hdn hlt
    go_wp2_with fail
    refine (rhalves_calls _ _ m d HRN_1.out (by omega) (by have := HDN.out; omega) hd32).mono ?_
    rintro e w3 ⟨v3, rfl, hv3, hb3⟩
    have H3 := Lib.hid (H1.out.step hb3)
    have HV3 := Lib.hid hv3
    obtain ⟨r, hr⟩ : ∃ r, r = m % d := ⟨_, rfl⟩
    rw [← hr]
    have hrl : r < 4294967296 := by
      rw [hr]
      exact Nat.lt_trans (Nat.mod_lt _ (by have := HDN.out; omega)) hd32
    have HRr := Lib.hid hr
    obtain ⟨A5, c5, l5, rfl, _, _, _⟩ := hv3.opened
    clear hr hb3 hv3
    go_wp2_with fail
    have hone : Rd (w3.alloc (.cells #[.int .u32 (r : Int)] 103)) (.slice (some ⟨w3.heap.size, 0, none⟩) 1 1) [r] := Rd.of_arr (xs := [r]) (e := 103) (by show (World.alloc _ _).heap[w3.heap.size]? = _; rw [heap_alloc_new]; rfl) (fun x hx => by simp at hx; omega)
    refine (rtrim_rn hone (by simp)).mono ?_
    rintro e w4 ⟨v4, rfl, hv4, hb4⟩
    rw [show valN [r] = r by simp [valN]] at hv4
    have hbx := below_next (below_new w3 (.cells #[.int .u32 (r : Int)] 103)) hb4
    have HV34 := Lib.hid (Rd.below HV3.out hbx)
    have H4 := Lib.hid (H3.out.step hbx)
    have HV4 := Lib.hid hv4
    obtain ⟨A6, c6, l6, rfl, _, _, _⟩ := hv4.opened
    clear hbx hb4 hv4
    have e0 := (H4.out.blk 0 rfl).cell (j := 0) rfl
    have e1 := (H4.out.blk 0 rfl).cell (j := 1) rfl
    have f0 := (H4.out.blk 0 rfl).frozen 0
    have f1 := (H4.out.blk 0 rfl).frozen 1
    go_wp2_with fail
    exact end140 Try.results129 rfl (H4.out.blk 0 rfl) (by have := HV34.out; rw [HDN.out] at this; exact this) (by have := HV4.out; rw [HRr.out, HDN.out] at this; exact this) (Nat.le_refl _) H4.out.2
  have q1 : ((ys.length : Int) == 1) = false := by
    have : (ys.length : Int) ≠ 1 := by omega
    simpa using this
  obtain ⟨g, o, rfl, hg, hcell⟩ := hRy.cell (j := ys.length - 1) (by omega)
  obtain ⟨d, hd⟩ : ∃ d, d = nat ys (ys.length - 1) := ⟨_, rfl⟩
  rw [← hd] at hcell
  have hd32 : d < 4294967296 := by rw [hd]; exact nat_lt hRy.wd _
  have hd0 : d ≠ 0 := by rw [hd, HY.out]; exact dg_top n hn0
  have HD := Lib.hid hd
  have hyb : ys.length ≤ 10000000000 := by rw [HY.out]; exact hn
  obtain ⟨s, hs, _, hs1, hs2⟩ := zeros_norm hd0 hd32
  have k1 : IntKind.i64.wrap ((ys.length : Int) - 1) = (ys.length : Int) - 1 := IntWalk.i64_in _ (by omega)
  have k2 : (ys.length : Int) - 1 < (ys.length : Int) := by omega
  have k3 : ((ys.length : Int) - 1).toNat = ys.length - 1 := by omega
  have k4 : 0 ≤ (ys.length : Int) - 1 := by omega
  have k5 : (1 : Int) ≤ (ys.length : Int) := by omega
  have k6 : 1 ≤ ys.length := by omega
  have HS1 := Lib.hid hs1
  have HS2 := Lib.hid hs2
  clear hd hRy hlt hs1 hs2
  go_wp2_with fail
  go_loop [7] (fun v => ∃ k : Nat, k ≤ s ∧ v = .int .u64 (k : Int)) (fun v => s - (intOf v).toNat)
  case atStart => exact ⟨0, Nat.zero_le _, rfl⟩
  case round =>
    obtain ⟨k, hk, rfl⟩ := hrel
    have p1 : (0 : Int) ≤ (k : Int) := by omega
    have p2 : (k : Int).toNat = k := by omega
    obtain ⟨z, hz⟩ : ∃ z, z = d * 2 ^ k := ⟨_, rfl⟩
    have hzs : z * 2 ^ (s - k) = d * 2 ^ s := by rw [hz, Nat.mul_assoc, ← Nat.pow_add, Nat.add_sub_cancel' hk]
    have hz32 : z < 4294967296 := by
      have h1 : z * 1 ≤ z * 2 ^ (s - k) := Nat.mul_le_mul_left z (Nat.pow_pos (by decide))
      have := HS2.out
      omega
    have p3 : IntKind.u32.wrap ((d : Int) * 2 ^ k) = (z : Int) := by
      have e : (d : Int) * 2 ^ k = (z : Int) := by rw [hz]; push_cast; rfl
      rw [e, IntKind.wrap_u32]; omega
    have p4 := top_bit hz32
    by_cases hks : k < s
    · have hzb : z < 2147483648 := by
        have h1 : z * 2 ≤ z * 2 ^ (s - k) := Nat.mul_le_mul_left z (by have := Nat.pow_le_pow_right (n := 2) (by decide) (show 1 ≤ s - k by omega); simpa using this)
        have := HS2.out
        omega
      rw [if_pos hzb] at p4
      have p5 : ((0 : Int) == 0) = true := rfl
      have p6 : IntKind.u64.wrap ((k : Int) + 1) = (k : Int) + 1 := IntWalk.u64_in _ (by omega)
      clear hz hzs
      go_wp2_with fail
      go_round
      case rel => exact ⟨k + 1, by omega, by go_num⟩
      case measure => simp [intOf]; omega
    · obtain rfl : k = s := by omega
      have hzb : ¬ z < 2147483648 := by rw [hz]; have := HS1.out; omega
      rw [if_neg hzb] at p4
      have p5 : ((2147483648 : Int) == 0) = false := rfl
      clear hz hzs
      have w0 : (ys.length : Int) ≤ (ys.length : Int) + 1 := by omega
      go_wp2_with fail
      refine (rshift_calls _ _ n k HRN2_1.out (by omega) hs).mono ?_
      rintro e w5 ⟨BV, vr, rfl, hBV, hvl, hvw, hvv, hva, hb5⟩
      have H5 := Lib.hid (H1.out.step hb5)
      have HRN_5 := Lib.hid (HRN_1.out.of_below hb5)
      have hlw : wlen n = ys.length := by rw [HY.out]; rfl
      rw [hlw] at hvl ⊢
      have hBV5 := hva.lt
      have hrv := Rd.of_arr hva hvw
      rw [hvl] at hrv
      have hrv2 := Rd.takeC (c := ys.length + 1) (xs := vr) (by rw [hvl]; exact hrv) ys.length (by omega)
      obtain ⟨hsl, hst⟩ := shift_norm hn0 hs (by rw [← HY.out, ← HD.out]; exact HS1.out) (by rw [← HY.out, ← HD.out]; exact HS2.out)
      have htk : vr.take ys.length = dg (n * 2 ^ k) := by
        have hlt := lt_dg_len (n * 2 ^ k)
        rw [hsl, ← HY.out] at hlt
        have h0 : valN vr = valN (vr.take ys.length) + 4294967296 ^ ys.length * valN (vr.drop ys.length) := valN_split vr _ (by omega)
        rw [hvv] at h0
        have hd0 : valN (vr.drop ys.length) = 0 := by
          rcases Nat.eq_zero_or_pos (valN (vr.drop ys.length)) with h | h
          · exact h
          · have : 4294967296 ^ ys.length * 1 ≤ 4294967296 ^ ys.length * valN (vr.drop ys.length) := Nat.mul_le_mul_left _ h
            omega
        rw [hd0, Nat.mul_zero, Nat.add_zero] at h0
        have hw' := hvw.take ys.length
        have hl' : (vr.take ys.length).length = ys.length := by rw [List.length_take]; omega
        rw [h0]
        refine canon hw' (.inr fun hz => ?_)
        have h1 := valN_lt ((vr.take ys.length).take (ys.length - 1)) (hw'.take _)
        have h2 : valN (vr.take ys.length) = valN ((vr.take ys.length).take (ys.length - 1)) + 4294967296 ^ (ys.length - 1) * nat (vr.take ys.length) (ys.length - 1) := by
          have := valN_take_succ (vr.take ys.length) (ys.length - 1) (by omega)
          rw [Nat.sub_add_cancel (by omega), List.take_take, Nat.min_self] at this
          exact this
        rw [hl'] at hz
        rw [hz, Nat.mul_zero, Nat.add_zero] at h2
        rw [List.length_take, hl', Nat.min_eq_left (by omega), ← h2, ← h0] at h1
        have h3 := wlen_lower (n := n * 2 ^ k) (Nat.mul_ne_zero hn0 (Nat.ne_of_gt (Nat.pow_pos (by decide))))
        have h4 : wlen (n * 2 ^ k) = ys.length := by unfold wlen; rw [hsl, HY.out]
        rw [h4] at h3
        omega
      rw [htk] at hrv2
      obtain ⟨vs, hvs⟩ : ∃ vs, vs = dg (n * 2 ^ k) := ⟨_, rfl⟩
      rw [← hvs] at hrv2 hsl hst
      rw [← HY.out] at hsl hst
      have HVS := Lib.hid hvs
      have HRV5 := Lib.hid hrv2
      have hVv : valN vs = n * 2 ^ k := by rw [hvs, valN_dg]
      have HVv := Lib.hid hVv
      have HST := Lib.hid hst
      have HSL := Lib.hid hsl
      have HBV := Lib.hid hBV
      clear hb5 hva hrv hrv2 hvs hVv hst hsl htk hvl hvw hvv hlw hBV
      go_wp2_with fail
      refine (rshift_calls _ _ m k HRN_5.out (by omega) hs).mono ?_
      rintro e w6 ⟨BU, us, rfl, hBU, hul, huw, huv, hua, hb6⟩
      have H6 := Lib.hid (H5.out.step hb6)
      have HRV6 := Lib.hid (HRV5.out.below hb6)
      have HUV := Lib.hid huv
      have HUL := Lib.hid hul
      have HUW := Lib.hid huw
      have HUA6 := Lib.hid hua
      have hlm : wlen m = xs.length := by rw [HX.out]; rfl
      have hBUV : BU ≠ BV := by omega
      have hBV6 : BV < w6.heap.size := Nat.lt_of_lt_of_le hBV5 hb6.size
      have hBU6 := hua.lt
      have hly2 : 2 ≤ ys.length := by omega
      have hlxy : ys.length ≤ xs.length := by rw [HX.out, HY.out]; exact wlen_mono hle
      have hlx : xs.length ≤ 10000000000 := by rw [HX.out]; exact hm
      have hBU0 : w.heap.size < BU := by have := (H5.out.blk 0 rfl).lt; omega
      have hBV0 : w.heap.size < BV := by have := (H1.out.blk 0 rfl).lt; have := HBV.out; omega
      rw [hlm] at HUL ⊢
      clear hb6 huv hul huw hua hlm
      obtain ⟨L, hL⟩ : ∃ L, L = xs.length + 1 := ⟨_, rfl⟩
      obtain ⟨K, hK⟩ : ∃ K, K + ys.length = L := ⟨L - ys.length, by omega⟩
      rw [← hL] at HUL ⊢
      have wl0 : IntKind.i64.wrap ((xs.length : Int) - (ys.length : Int)) = (K : Int) - 1 := by rw [IntWalk.i64_in _ (by omega)]; omega
      have wl : IntKind.i64.wrap ((K : Int) - 1 + 1) = (K : Int) := by rw [IntWalk.i64_in _ (by omega)]; omega
      have hmk := make_words 38 Try.underlying38 K (by omega)
      have HLL := Lib.hid hL
      have hLb : L ≤ 10000000001 := by omega
      clear hL
      go_wp2_with fail
      clear hmk wl
      have hw7 := gb_alloc (gb_refl w6 none) (zw K)
      have hq7 := zw_arr w6 K
      generalize w6.alloc (zw K) = W7 at *
      obtain ⟨V, hV⟩ : ∃ V, V = valN vs := ⟨_, rfl⟩
      have HV := Lib.hid hV
      have hV0 : V = n * 2 ^ k := by rw [hV]; exact HVv.out
      have HV0 := Lib.hid hV0
      have hVlt : V < 4294967296 ^ ys.length := by
        have := valN_lt vs HRV6.out.wd
        rwa [← hV, HSL.out] at this
      have HVLT := Lib.hid hVlt
      have hVpos : 0 < V := by rw [hV0]; exact Nat.mul_pos (by omega) (Nat.pow_pos (by decide))
      have hVge : 2147483648 * 4294967296 ^ (ys.length - 1) ≤ V := by
        have := top_ge (V := V) (lb := ys.length - 1) (by rw [hV0, ← HVS.out, HSL.out]; omega) (by rw [hV0, ← HVS.out]; exact HST.out)
        exact this
      have hm0 : m * 2 ^ k < V * 4294967296 ^ K := shift_first hs hVge K xs.length (by have := lt_dg_len m; rw [← HX.out] at this; exact this) (by have := HLL.out; omega)
      have HM0 := Lib.hid hm0
      have hBUQ : BU ≠ w6.heap.size := by omega
      have hBVQ : BV ≠ w6.heap.size := by omega
      have hBRQ : w.heap.size < w6.heap.size := by omega
      clear hV hV0 hVlt hVge hm0 hle hyl hy1 q1 t0 hg hcell hd32 hd0 k1 k2 k3 k4 k5 k6 p1 p2 p3 p4 p5 hzb wl0 w0
      have HB7 : Hid (w.grownBy W7 none) := gb_trans (grown_of_below H6.out.2 none) hw7
      have hbk7 : Blk W7 w.heap.size 140 #[.slice none 0 0, .slice none 0 0] := (hw7.block _ (H6.out.blk 0 rfl).lt (by simp)).trans (H6.out.blk 0 rfl)
      go_loopg [12] K (fun gk vi wr => ∃ (U qs : List Nat), gk ≤ K ∧ vi = .int .i64 ((gk : Int) - 1) ∧ U.length = L ∧ Wd U ∧ qs.length = K - gk ∧ Wd qs ∧ valN U < V * 4294967296 ^ gk ∧ m * 2 ^ k = valN U + V * 4294967296 ^ gk * valN qs ∧ Arr .u32 wr BU 103 (ints U) ∧ Arr .u32 wr w6.heap.size 103 (ints (List.replicate gk 0 ++ qs)) ∧ Rd wr (.slice (some ⟨BV, 0, none⟩) ys.length (ys.length + 1)) vs ∧ Blk wr w.heap.size 140 #[.slice none 0 0, .slice none 0 0] ∧ w.grownBy wr none)
      case atStart =>
        exact ⟨us, [], Nat.le_refl _, by go_num, HUL.out, HUW.out, by simp, (fun x hx => (by cases hx)), by rw [HUV.out]; exact HM0.out, by rw [HUV.out]; simp [valN], HUA6.out.grown hw7 (by simp), by rw [List.append_nil]; exact hq7, HRV6.out.gb hw7, hbk7, HB7.out⟩
      case round =>
        obtain ⟨U, qs, hk', rfl, hUl, hUw, hql, hqw, hUlt, hM, hua, hqa, hrv, hbk, hgb⟩ := hrel
        have HUl := Lib.hid hUl
        have HUw := Lib.hid hUw
        have HQl := Lib.hid hql
        have HQw := Lib.hid hqw
        have HUlt := Lib.hid hUlt
        have HM := Lib.hid hM
        have HUA7 := Lib.hid hua
        have HQA7 := Lib.hid hqa
        have HRV7 := Lib.hid hrv
        have HBK7 := Lib.hid hbk
        have HG7 := Lib.hid hgb
        clear hUl hUw hql hqw hUlt hM hua hqa hrv hbk hgb hbk7 hw7 hq7
        obtain ⟨wo, rfl⟩ : ∃ wo : World, wo = wr := ⟨_, rfl⟩
        by_cases h0 : 0 < gk
        · obtain ⟨j, rfl⟩ : ∃ j, gk = j + 1 := ⟨gk - 1, by omega⟩
          rw [show ((j + 1 : Nat) : Int) - 1 = (j : Int) by omega]
          have hjl : j + (ys.length + 1) ≤ U.length := by rw [HUl.out]; omega
          obtain ⟨c1, c2', c3⟩ := div_cut HUw.out hjl HUlt.out HVLT.out
          obtain ⟨P, hP⟩ : ∃ P, P = U.take j := ⟨_, rfl⟩
          obtain ⟨seg, hsg⟩ : ∃ seg, seg = (U.drop j).take (ys.length + 1) := ⟨_, rfl⟩
          obtain ⟨Z, hZ⟩ : ∃ Z, Z = U.drop (j + (ys.length + 1)) := ⟨_, rfl⟩
          have hU : U = P ++ seg ++ Z := by
            rw [hP, hsg, hZ, ← List.drop_drop, List.append_assoc, List.take_append_drop, List.take_append_drop]
          have hPl : P.length = j := by rw [hP, List.length_take]; omega
          have hsl : seg.length = ys.length + 1 := by rw [hsg, List.length_take, List.length_drop]; omega
          have hPw : Wd P := by rw [hP]; exact HUw.out.take _
          have hsw : Wd seg := by rw [hsg]; exact (HUw.out.drop _).take _
          have hZw : Wd Z := by rw [hZ]; exact HUw.out.drop _
          rw [← hsg] at c1 c2'
          rw [← hP] at c2'
          rw [← hZ] at c3
          obtain ⟨S, hS⟩ : ∃ S, S = valN seg := ⟨_, rfl⟩
          rw [← hS] at c1 c2'
          have HUA8 : Hid (Arr .u32 wo BU 103 (ints (P ++ seg ++ Z))) := by have := HUA7.out; rw [hU] at this; exact this
          obtain ⟨lowV, hlv, hVe⟩ := valN_top2 (v := vs) HRV6.out.wd (by rw [HSL.out]; exact hly2)
          obtain ⟨lowS, hls, hSe⟩ := valN_top3 hsw ys.length hly2 hsl
          rw [HSL.out] at hlv hVe
          rw [← HV.out] at hVe
          rw [← hS] at hSe
          obtain ⟨v1, hv1⟩ : ∃ v1, v1 = nat vs (ys.length - 1) := ⟨_, rfl⟩
          obtain ⟨v2, hv2⟩ : ∃ v2, v2 = nat vs (ys.length - 2) := ⟨_, rfl⟩
          obtain ⟨s0, hs0⟩ : ∃ s0, s0 = nat seg (ys.length - 2) := ⟨_, rfl⟩
          obtain ⟨s1, hs1⟩ : ∃ s1, s1 = nat seg (ys.length - 1) := ⟨_, rfl⟩
          obtain ⟨s2, hs2⟩ : ∃ s2, s2 = nat seg ys.length := ⟨_, rfl⟩
          have b1 : v1 < 4294967296 := by rw [hv1]; exact nat_lt HRV6.out.wd _
          have b2 : v2 < 4294967296 := by rw [hv2]; exact nat_lt HRV6.out.wd _
          have b3 : s0 < 4294967296 := by rw [hs0]; exact nat_lt hsw _
          have b4 : s1 < 4294967296 := by rw [hs1]; exact nat_lt hsw _
          have b5 : s2 < 4294967296 := by rw [hs2]; exact nat_lt hsw _
          have htop : 2147483648 ≤ v1 := by rw [hv1]; exact HST.out
          rw [← hv1, ← hv2] at hVe
          rw [← hs0, ← hs1, ← hs2] at hSe
          obtain ⟨top, htp⟩ : ∃ top, top = s2 * 4294967296 + s1 := ⟨_, rfl⟩
          rw [← htp] at hSe
          have hs2v : s2 ≤ v1 := head_le hVe hlv b2 (by rw [hSe, htp]) c1
          have htop64 : top < 18446744073709551616 := by omega
          have cu2 : wo.cell? ⟨BU, j + ys.length, none⟩ = some (.int .u32 (s2 : Int)) := by rw [hs2]; exact arr_cell HUA8.out hPl (by omega)
          have cu1 : wo.cell? ⟨BU, j + (ys.length - 1), none⟩ = some (.int .u32 (s1 : Int)) := by rw [hs1]; exact arr_cell HUA8.out hPl (by omega)
          have cv1 : wo.cell? ⟨BV, ys.length - 1, none⟩ = some (.int .u32 (v1 : Int)) := by
            have := Rd.cell' (c := ys.length + 1) (by rw [HSL.out]; exact HRV7.out) rfl (show ys.length - 1 < vs.length by rw [HSL.out]; omega)
            rw [Nat.zero_add, ← hv1] at this
            exact this
          obtain ⟨g0, r0, hg0, hr0⟩ : ∃ g0 r0, top / v1 = g0 ∧ top % v1 = r0 := ⟨_, _, rfl, rfl⟩
          have hgr0 : g0 * v1 + r0 = top := by rw [← hg0, ← hr0, Nat.mul_comm]; exact Nat.div_add_mod top v1
          have hr0v : r0 < v1 := by rw [← hr0]; exact Nat.mod_lt _ (by omega)
          have hq0 : S / V ≤ g0 := quot_first hVe hSe hls b3 hgr0 hr0v
          obtain ⟨⟨df1, df2⟩, df3, df4⟩ := div_facts hg0 hr0
          have hgl0 : g0 ≤ top := by rw [← hg0]; exact Nat.div_le_self _ _
          have hor := or_word s2 s1 b5 b4
          rw [← htp] at hor
          have HC1 := Lib.hid c1
          have HC2 := Lib.hid c2'
          have HC3 := Lib.hid c3
          have HSGL := Lib.hid hsl
          have HPl := Lib.hid hPl
          have HPw := Lib.hid hPw
          have HZw := Lib.hid hZw
          have HSW := Lib.hid hsw
          have HS := Lib.hid hS
          have HVE := Lib.hid hVe
          have HSE := Lib.hid hSe
          have HTP := Lib.hid htp
          have HV1 := Lib.hid hv1
          have HV2 := Lib.hid hv2
          have HS0 := Lib.hid hs0
          have HS2 := Lib.hid hs2
          have HGR := Lib.hid hgr0
          have HQ0 := Lib.hid hq0
          have HLV := Lib.hid hlv
          have HLS := Lib.hid hls
          clear c1 c2' c3 hP hsg hZ hU hPl hsl hPw hsw hZw hjl hS hVe hSe htp hv1 hv2 hs0 hs1 hs2 hgr0 hq0 hlv hls hg0 hr0
          have n1 : (j : Int) ≥ 0 := by omega
          have n2 : (j : Int).toNat = j := by omega
          have i1 : IntKind.i64.wrap ((j : Int) + (ys.length : Int)) = (j : Int) + (ys.length : Int) := IntWalk.i64_in _ (by omega)
          have i2 : IntKind.i64.wrap ((j : Int) + (ys.length : Int) - 1) = (j : Int) + (ys.length : Int) - 1 := IntWalk.i64_in _ (by omega)
          have i3 : ((j : Int) + (ys.length : Int)).toNat = j + ys.length := by omega
          have i4 : ((j : Int) + (ys.length : Int) - 1).toNat = j + (ys.length - 1) := by omega
          have i5 : (0 : Int) ≤ (j : Int) + (ys.length : Int) := by omega
          have i6 : (0 : Int) ≤ (j : Int) + (ys.length : Int) - 1 := by omega
          have i7 : (j : Int) + (ys.length : Int) < (L : Int) := by omega
          have i8 : (j : Int) + (ys.length : Int) - 1 < (L : Int) := by omega
          have i9 : IntKind.i64.wrap ((ys.length : Int) - 1) = (ys.length : Int) - 1 := IntWalk.i64_in _ (by omega)
          have i10 : ((ys.length : Int) - 1).toNat = ys.length - 1 := by omega
          have i11 : (0 : Int) ≤ (ys.length : Int) - 1 := by omega
          have i12 : (ys.length : Int) - 1 < (ys.length : Int) := by omega
          have i13 : (1 : Int) ≤ (j : Int) + (ys.length : Int) := by omega
          have i14 : (1 : Int) ≤ (ys.length : Int) := by omega
          have i15 : j + ys.length < L := by omega
          have i16 : 1 ≤ ys.length := by omega
          have w1' : IntKind.u64.wrap (s2 : Int) = (s2 : Int) := IntWalk.u64_in _ (by omega)
          have w2 : IntKind.u64.wrap (s1 : Int) = (s1 : Int) := IntWalk.u64_in _ (by omega)
          have w3 : IntKind.u64.wrap ((s2 : Int) * 4294967296) = (s2 : Int) * 4294967296 := IntWalk.u64_in _ (by omega)
          have w4 : IntKind.u64.wrap (v1 : Int) = (v1 : Int) := IntWalk.u64_in _ (by omega)
          have w5 : IntKind.u64.wrap (g0 : Int) = (g0 : Int) := IntWalk.u64_in _ (by omega)
          have w6' : IntKind.u64.wrap (r0 : Int) = (r0 : Int) := IntWalk.u64_in _ (by omega)
          have d0 : ((v1 : Int) == 0) = false := by
            have : (v1 : Int) ≠ 0 := by omega
            simpa using this
          have d1 : (v1 : Int) ≠ 0 := by omega
          go_wp2_with fail
          go_quiet (fail)
          go_upto_block 4 with (fail)
          clear cu2 cu1 cv1 i1 i2 i3 i4 i5 i6 i7 i8 i9 i10 i11 i12 i13 i14 i15 i16 w1' w2 w3 hor df1 df2 df3 df4
          go_cut [14] (fun vg wc => ∃ gu : Nat, vg = .int .u64 (gu : Int) ∧ gu < 4294967296 ∧ Hid (S / V ≤ gu) ∧ Hid (gu * V < S + V) ∧ wo.grownBy wc none)
          case first =>
            go_wp2_with fail
            go_loopw [14, 15] (fun vg vr wz => ∃ (gu r : Nat), vg = .int .u64 (gu : Int) ∧ vr = .int .u64 (r : Int) ∧ gu * v1 + r = top ∧ S / V ≤ gu ∧ r < 4294967296 ∧ wo.grownBy wz none) (fun vg _ _ => (intOf vg).toNat)
            case atStart => exact ⟨g0, r0, rfl, rfl, HGR.out, HQ0.out, by omega, gb_drewN (gb_refl wo none) _⟩
            case round =>
              obtain ⟨gu, r, rfl, rfl, hgr, hq, hrb, hgb⟩ := hrel
              have HUX := Lib.hid (HUA8.out.grown hgb (by simp))
              have HGX := Lib.hid hgb
              have cu0 : wr.cell? ⟨BU, j + (ys.length - 2), none⟩ = some (.int .u32 (s0 : Int)) := by rw [HS0.out]; exact arr_cell HUX.out HPl.out (by rw [HSGL.out]; omega)
              have hcv := HRV7.out.gb hgb
              have cv2 : wr.cell? ⟨BV, ys.length - 2, none⟩ = some (.int .u32 (v2 : Int)) := by
                have := Rd.cell' (c := ys.length + 1) (by rw [HSL.out]; exact hcv) rfl (show ys.length - 2 < vs.length by rw [HSL.out]; omega)
                rw [Nat.zero_add, ← HV2.out] at this
                exact this
              have cv1 : wr.cell? ⟨BV, ys.length - 1, none⟩ = some (.int .u32 (v1 : Int)) := by
                have := Rd.cell' (c := ys.length + 1) (by rw [HSL.out]; exact hcv) rfl (show ys.length - 1 < vs.length by rw [HSL.out]; omega)
                rw [Nat.zero_add, ← HV1.out] at this
                exact this
              have hgul : gu ≤ top := by
                have : gu * 1 ≤ gu * v1 := Nat.mul_le_mul_left gu (by omega)
                omega
              have i1 : IntKind.i64.wrap ((j : Int) + (ys.length : Int)) = (j : Int) + (ys.length : Int) := IntWalk.i64_in _ (by omega)
              have i2 : IntKind.i64.wrap ((j : Int) + (ys.length : Int) - 2) = (j : Int) + (ys.length : Int) - 2 := IntWalk.i64_in _ (by omega)
              have i4 : ((j : Int) + (ys.length : Int) - 2).toNat = j + (ys.length - 2) := by omega
              have i6 : (0 : Int) ≤ (j : Int) + (ys.length : Int) - 2 := by omega
              have i8 : (j : Int) + (ys.length : Int) - 2 < (L : Int) := by omega
              have i9 : IntKind.i64.wrap ((ys.length : Int) - 1) = (ys.length : Int) - 1 := IntWalk.i64_in _ (by omega)
              have i10 : ((ys.length : Int) - 1).toNat = ys.length - 1 := by omega
              have i11 : (0 : Int) ≤ (ys.length : Int) - 1 := by omega
              have i12 : (ys.length : Int) - 1 < (ys.length : Int) := by omega
              have i14 : (1 : Int) ≤ (ys.length : Int) := by omega
              have j9 : IntKind.i64.wrap ((ys.length : Int) - 2) = (ys.length : Int) - 2 := IntWalk.i64_in _ (by omega)
              have j10 : ((ys.length : Int) - 2).toNat = ys.length - 2 := by omega
              have j11 : (0 : Int) ≤ (ys.length : Int) - 2 := by omega
              have j12 : (ys.length : Int) - 2 < (ys.length : Int) := by omega
              have j14 : (2 : Int) ≤ (ys.length : Int) := by omega
              have j13 : (2 : Int) ≤ (j : Int) + (ys.length : Int) := by omega
              have w7 : IntKind.u64.wrap (v2 : Int) = (v2 : Int) := IntWalk.u64_in _ (by omega)
              have w8 : IntKind.u64.wrap (s0 : Int) = (s0 : Int) := IntWalk.u64_in _ (by omega)
              have e1 : IntKind.u64.wrap ((r : Int) * 4294967296) = (r : Int) * 4294967296 := IntWalk.u64_in _ (by omega)
              have hor2 := or_word r s0 hrb b3
              obtain ⟨z, hz⟩ : ∃ z, z = r * 4294967296 + s0 := ⟨_, rfl⟩
              rw [← hz] at hor2
              obtain ⟨r2, hr2⟩ : ∃ r2, r2 = r + v1 := ⟨_, rfl⟩
              have e2 : IntKind.u64.wrap ((r : Int) + (v1 : Int)) = (r2 : Int) := by rw [IntWalk.u64_in _ (by omega)]; omega
              have HZ := Lib.hid hz
              have HGRR := Lib.hid hgr
              have HQQ0 := Lib.hid hq
              have down : ∀ g1, gu = g1 + 1 → S / V ≤ g1 → (4294967296 ≤ r2 → g1 < 4294967296 ∧ g1 * V < S + V) ∧ g1 * v1 + r2 = top := fun g1 hg1 hq1 => by
                have hgr1 : g1 * v1 + r2 = top := by
                  have : gu * v1 = g1 * v1 + v1 := by rw [hg1]; exact Nat.succ_mul g1 v1
                  omega
                refine ⟨fun hr2b => ?_, hgr1⟩
                have hgq : g1 < 4294967296 := guess_small hgr1 HTP.out b4 hs2v hr2b
                exact ⟨hgq, guess_pass HVE.out HLV.out HSE.out (by omega) hgr1 hgq (by
                  have := Nat.mul_le_mul (show g1 ≤ 4294967295 by omega) (show v2 ≤ 4294967295 by omega)
                  omega)⟩
              have HDN := Lib.hid down
              clear hz hgb hcv down
              by_cases hbig : 4294967295 < gu
              · have t1 : decide ((gu : Int) > 4294967295) = true := decide_eq_true (by omega)
                obtain ⟨g1, hg1⟩ : ∃ g1, gu = g1 + 1 := ⟨gu - 1, by omega⟩
                have e3 : IntKind.u64.wrap ((gu : Int) - 1) = (g1 : Int) := by rw [IntWalk.u64_in _ (by omega)]; omega
                have hq1 : S / V ≤ g1 := by
                  have := quot_small HC1.out
                  omega
                obtain ⟨h1, h2⟩ := HDN.out g1 hg1 hq1
                have HH1 := Lib.hid h1
                have HH2 := Lib.hid h2
                have HQ1 := Lib.hid hq1
                have hglt : g1 < gu := by omega
                clear hgr hq hr2 hg1 h1 h2 hq1
                by_cases hr2b : 4294967295 < r2
                · have t3 : decide ((r2 : Int) > 4294967295) = true := decide_eq_true (by omega)
                  go_wp2_with fail
                  go_quiet (fail)
                  go_wp2_with fail
                  go_meet
                  case rel => exact ⟨g1, rfl, (HH1.out (by omega)).1, HQ1.out, (HH1.out (by omega)).2, gb_drewN HGX.out _⟩
                · have t3 : decide ((r2 : Int) > 4294967295) = false := decide_eq_false (by omega)
                  go_wp2_with fail
                  go_quiet (fail)
                  go_wp2_with fail
                  go_roundw
                  case rel => exact ⟨g1, r2, rfl, rfl, HH2.out, HQ1.out, by omega, gb_drewN HGX.out _⟩
                  case measure => simp [intOf]; omega
              · have t1 : decide ((gu : Int) > 4294967295) = false := decide_eq_false (by omega)
                obtain ⟨p, hp⟩ : ∃ p, p = gu * v2 := ⟨_, rfl⟩
                have e4 : IntKind.u64.wrap ((gu : Int) * (v2 : Int)) = (p : Int) := mul_wrap (by omega) b2 hp
                by_cases hmz : z < p
                · have t2 : decide ((p : Int) > (z : Int)) = true := decide_eq_true (by omega)
                  have hmpos : 0 < gu := by
                    rcases Nat.eq_zero_or_pos gu with h | h
                    · rw [h, Nat.zero_mul] at hp; omega
                    · exact h
                  obtain ⟨g1, hg1⟩ : ∃ g1, gu = g1 + 1 := ⟨gu - 1, by omega⟩
                  have e3 : IntKind.u64.wrap ((gu : Int) - 1) = (g1 : Int) := by rw [IntWalk.u64_in _ (by omega)]; omega
                  have hq1 : S / V ≤ g1 := by
                    have h1 := guess_down HVE.out HSE.out HLS.out HGRR.out (by rw [← hp, ← HZ.out]; exact hmz)
                    have h2 : S / V < gu := Nat.div_lt_of_lt_mul (by rw [Nat.mul_comm]; exact h1)
                    omega
                  obtain ⟨h1, h2⟩ := HDN.out g1 hg1 hq1
                  have HH1 := Lib.hid h1
                  have HH2 := Lib.hid h2
                  have HQ1 := Lib.hid hq1
                  have hglt : g1 < gu := by omega
                  clear hgr hq hr2 hg1 h1 h2 hq1 hp
                  by_cases hr2b : 4294967295 < r2
                  · have t3 : decide ((r2 : Int) > 4294967295) = true := decide_eq_true (by omega)
                    go_wp2_with fail
                    go_quiet (fail)
                    go_wp2_with fail
                    go_meet
                    case rel => exact ⟨g1, rfl, (HH1.out (by omega)).1, HQ1.out, (HH1.out (by omega)).2, gb_drewN HGX.out _⟩
                  · have t3 : decide ((r2 : Int) > 4294967295) = false := decide_eq_false (by omega)
                    go_wp2_with fail
                    go_quiet (fail)
                    go_wp2_with fail
                    go_roundw
                    case rel => exact ⟨g1, r2, rfl, rfl, HH2.out, HQ1.out, by omega, gb_drewN HGX.out _⟩
                    case measure => simp [intOf]; omega
                · have t2 : decide ((p : Int) > (z : Int)) = false := decide_eq_false (by omega)
                  have HQ2 : Hid (gu * V < S + V) := guess_pass HVE.out HLV.out HSE.out (by omega) HGRR.out (by omega) (by rw [← hp, ← HZ.out]; omega)
                  have hgq : gu < 4294967296 := by omega
                  clear hp hgr hq hr2
                  go_wp2_with fail
                  go_quiet (fail)
                  go_wp2_with fail
                  go_meet
                  case rel => exact ⟨gu, rfl, hgq, HQQ0.out, HQ2.out, gb_drewN HGX.out _⟩
          case rest =>
            obtain ⟨gu, rfl, hgu, HQ0', HQ1', hgb⟩ := hcut
            have HUX := Lib.hid (HUA8.out.grown hgb (by simp))
            have HVX := Lib.hid (HRV7.out.gb hgb)
            have HGX := Lib.hid hgb
            have hNE : ∀ g' : Nat, (Value.slice (some ⟨BV, 0, none⟩) ys.length (ys.length + 1)).ownBlock = some g' → some g' ≠ some BU := fun g' he e => by
              simp [Value.ownBlock] at he
              injection e with e
              omega
            have HNE := Lib.hid hNE
            have FIN : ∀ (seg' : List Nat) (wz : World), seg'.length = ys.length + 1 → Wd seg' → valN seg' = S % V → Arr .u32 wz BU 103 (ints (P ++ seg' ++ Z)) → wo.grownBy wz (some BU) →
                (∃ old, wz.cell? ⟨w6.heap.size, j, none⟩ = some (.int .u32 old) ∧ wz.frozen? ⟨w6.heap.size, j, none⟩ = false) ∧ ∀ qd : Nat, qd = S / V →
                  (∃ (U' qs' : List Nat), j ≤ K ∧ Value.int .i64 ((j : Int) - 1) = .int .i64 ((j : Int) - 1) ∧ U'.length = L ∧ Wd U' ∧ qs'.length = K - j ∧ Wd qs' ∧ valN U' < V * 4294967296 ^ j ∧ m * 2 ^ k = valN U' + V * 4294967296 ^ j * valN qs' ∧ Arr .u32 (wz.setCell ⟨w6.heap.size, j, none⟩ (.int .u32 (qd : Int))) BU 103 (ints U') ∧ Arr .u32 (wz.setCell ⟨w6.heap.size, j, none⟩ (.int .u32 (qd : Int))) w6.heap.size 103 (ints (List.replicate j 0 ++ qs')) ∧ Rd (wz.setCell ⟨w6.heap.size, j, none⟩ (.int .u32 (qd : Int))) (.slice (some ⟨BV, 0, none⟩) ys.length (ys.length + 1)) vs ∧ Blk (wz.setCell ⟨w6.heap.size, j, none⟩ (.int .u32 (qd : Int))) w.heap.size 140 #[.slice none 0 0, .slice none 0 0] ∧ w.grownBy (wz.setCell ⟨w6.heap.size, j, none⟩ (.int .u32 (qd : Int))) none) := by
              intro seg' wz hsl' hsw' hsv' hua' hgb'
              have hqa8 := HQA7.out.grown hgb' (by intro e; injection e with e; omega)
              have hrep : List.replicate (j + 1) 0 ++ qs = List.replicate j 0 ++ 0 :: qs := by rw [List.replicate_succ', List.append_assoc]; rfl
              rw [hrep] at hqa8
              refine ⟨⟨_, hqa8.cell j (by rw [ints_length]; simp), hqa8.frozen j⟩, fun qd hqd => ?_⟩
              have hqdb : qd < 4294967296 := by rw [hqd]; exact quot_small HC1.out
              have hsv : S = V * qd + valN seg' := by rw [hsv', hqd]; exact (Nat.div_add_mod _ _).symm
              have hvU : valN (P ++ seg' ++ Z) = valN P + 4294967296 ^ j * valN seg' := by
                rw [valN_append, HC3.out, Nat.mul_zero, Nat.add_zero, valN_append, HPl.out]
              have hsl : valN seg' < V := by rw [hsv']; exact Nat.mod_lt _ hVpos
              refine ⟨P ++ seg' ++ Z, qd :: qs, by omega, rfl, ?_, (HPw.out.append hsw').append HZw.out, by rw [List.length_cons, HQl.out]; omega, ?_, ?_, ?_, hua'.other (by simpa using hBUQ) _, ?_, ?_, ?_, gb_set (gb_row HG7.out hgb' (Nat.le_of_lt hBU0)) (.inl (Nat.le_of_lt hBRQ)) _⟩
              · have h0 := HUl.out
                rw [show U.length = (P ++ seg ++ Z).length by
                  have h1 := HUA7.out
                  have h2 := HUA8.out
                  have e := h1.symm.trans h2
                  injection e with e
                  injection e with e
                  have e3 := congrArg Array.size e
                  simpa [nums, ints] using e3] at h0
                simp only [List.length_append] at h0 ⊢
                have h2 := HSGL.out
                omega
              · intro y hy
                rcases List.mem_cons.1 hy with rfl | hy
                · exact hqdb
                · exact HQw.out y hy
              · rw [hvU]
                have hP0 := valN_lt P HPw.out
                rw [HPl.out] at hP0
                exact div_less hP0 hsl
              · rw [hvU, valN]
                have := HM.out
                rw [HC2.out] at this
                exact div_round this hsv
              · have := hqa8.set j (qd : Int)
                rw [ints_set, List.set_append_right _ _ (by simp)] at this
                simp only [List.length_replicate, Nat.sub_self, List.set_cons_zero] at this
                exact this
              · refine (HRV7.out.grown hgb' HNE.out).move (by simp [World.setCell]) fun b hb _ => ?_
                simp [Value.ownBlock] at hb
                exact Below.heap_setCell wz _ _ b (by intro e; simp at e; omega)
              · exact Blk.other ((hgb'.block _ HBK7.out.lt (by intro e; injection e with e; omega)).trans HBK7.out) (by simp; omega) _
            have HFIN := Lib.hid FIN
            have hwk : IntKind.i64.wrap ((j : Int) - 1) = (j : Int) - 1 := IntWalk.i64_in _ (by omega)
            have hjK : (j : Int) < (K : Int) := by omega
            have hjK2 : j < K := by omega
            have gw : IntKind.u64.wrap (gu : Int) = (gu : Int) := IntWalk.u64_in _ (by omega)
            clear hgb hNE FIN
            go_wp2_with fail
            go_loopw [16, 17, 18] (fun vc vb vi wr => ∃ (i b cy : Nat) (dn : List Nat), i ≤ ys.length + 1 ∧ vi = .int .i64 (i : Int) ∧ vb = .int .u64 (b : Int) ∧ vc = .int .u64 (cy : Int) ∧ b ≤ 1 ∧ cy < 4294967296 ∧ (i = ys.length + 1 → cy = 0) ∧ dn.length = i ∧ Wd dn ∧
                valN dn + gu * valN (vs.take i) = valN (seg.take i) + (cy + b) * 4294967296 ^ i ∧ Arr .u32 wr BU 103 (ints (P ++ (dn ++ seg.drop i) ++ Z)) ∧ wo.grownBy wr (some BU)) (fun _ _ vi _ => ys.length + 1 - (intOf vi).toNat)
            case atStart => exact ⟨0, 0, 0, [], by omega, rfl, rfl, rfl, by omega, by omega, by omega, rfl, (fun x hx => (by cases hx)), by simp [valN], by rw [List.nil_append, List.drop_zero]; exact HUX.out, gb_none HGX.out⟩
            case round =>
              obtain ⟨i, b, cy, dn, hi, rfl, rfl, rfl, hb, hcy, hcy0, hdl, hdw, hval, harr, hgb⟩ := hrel
              have HD := Lib.hid hdw
              have HVA := Lib.hid hval
              have HA := Lib.hid harr
              have HG := Lib.hid hgb
              have HL := Lib.hid hdl
              have HCY0 := Lib.hid hcy0
              have hml : (dn ++ seg.drop i).length = ys.length + 1 := by rw [List.length_append, List.length_drop, HL.out, HSGL.out]; omega
              clear hdw hval harr hdl hcy0
              by_cases hin : i ≤ ys.length
              · have hcv := (HRV7.out.grown hgb HNE.out)
                clear hgb
                obtain ⟨x, hx⟩ : ∃ x, x = nat seg i := ⟨_, rfl⟩
                have hxb : x < 4294967296 := by rw [hx]; exact nat_lt HSW.out _
                have cu : wr.cell? ⟨BU, j + i, none⟩ = some (.int .u32 (x : Int)) := by
                  have := arr_cell HA.out HPl.out (k := i) (by rw [hml]; omega)
                  rw [nat_pass _ _ _ HL.out, ← hx] at this
                  exact this
                have fu := HA.out.frozen (j + i)
                have HX' := Lib.hid hx
                clear hx
                have n1 : (i : Int) ≤ (ys.length : Int) := by omega
                have n2 : (i : Int).toNat = i := by omega
                have n3 : (0 : Int) ≤ (i : Int) := by omega
                have o1 : IntKind.i64.wrap ((j : Int) + (i : Int)) = (j : Int) + (i : Int) := IntWalk.i64_in _ (by omega)
                have o2 : ((j : Int) + (i : Int)).toNat = j + i := by omega
                have o3 : (0 : Int) ≤ (j : Int) + (i : Int) := by omega
                have o4 : (j : Int) + (i : Int) < (L : Int) := by omega
                have o5 : j + i < L := by omega
                have f3 : IntKind.u64.wrap (x : Int) = (x : Int) := IntWalk.u64_in _ (by omega)
                have wi : IntKind.i64.wrap ((i : Int) + 1) = (i : Int) + 1 := IntWalk.i64_in _ (by omega)
                have step : ∀ (y lo cy2 b' nx : Nat), cy + gu * y = lo + 4294967296 * cy2 → x + b' * 4294967296 = nx + (lo + b) → nx < 4294967296 → cy2 < 4294967296 → b' ≤ 1 → (i = ys.length → cy2 = 0) → valN (vs.take (i + 1)) = valN (vs.take i) + 4294967296 ^ i * y →
                    (∃ (i' b'' cy' : Nat) (dn' : List Nat), i' ≤ ys.length + 1 ∧ Value.int .i64 ((i : Int) + 1) = .int .i64 (i' : Int) ∧ Value.int .u64 (b' : Int) = .int .u64 (b'' : Int) ∧ Value.int .u64 (cy2 : Int) = .int .u64 (cy' : Int) ∧ b'' ≤ 1 ∧ cy' < 4294967296 ∧ (i' = ys.length + 1 → cy' = 0) ∧ dn'.length = i' ∧ Wd dn' ∧
                      valN dn' + gu * valN (vs.take i') = valN (seg.take i') + (cy' + b'') * 4294967296 ^ i' ∧ Arr .u32 (wr.setCell ⟨BU, j + i, none⟩ (.int .u32 (nx : Int))) BU 103 (ints (P ++ (dn' ++ seg.drop i') ++ Z)) ∧ wo.grownBy (wr.setCell ⟨BU, j + i, none⟩ (.int .u32 (nx : Int))) (some BU)) := by
                  intro y lo cy2 b' nx h1 h2 h3 h4 h5 h6 h7
                  refine ⟨i + 1, b', cy2, dn ++ [nx], by omega, by go_num, rfl, rfl, h5, h4, fun h => h6 (by omega), by simp [HL.out], HD.out.snoc h3, ?_, ?_, gb_set HG.out (.inr rfl) _⟩
                  · rw [valN_snoc, HL.out, h7, valN_take_succ _ _ (by rw [HSGL.out]; omega), ← HX'.out, Nat.pow_succ]
                    exact take_step HVA.out h1 h2
                  · have := arr_set (x := nx) HA.out HPl.out (k := i) (by rw [hml]; omega)
                    rw [set_pass _ _ _ _ HL.out (by rw [HSGL.out]; omega)] at this
                    exact this
                have HST' := Lib.hid step
                clear step
                by_cases hil : i < ys.length
                · obtain ⟨y, hy⟩ : ∃ y, y = nat vs i := ⟨_, rfl⟩
                  have hyb : y < 4294967296 := by rw [hy]; exact nat_lt HRV6.out.wd _
                  have cv : wr.cell? ⟨BV, i, none⟩ = some (.int .u32 (y : Int)) := by
                    have := Rd.cell' (c := ys.length + 1) (by rw [HSL.out]; exact hcv) rfl (show i < vs.length by rw [HSL.out]; exact hil)
                    rw [Nat.zero_add, ← hy] at this
                    exact this
                  have HY' : Hid (valN (vs.take (i + 1)) = valN (vs.take i) + 4294967296 ^ i * y) := by unfold Hid; rw [valN_take_succ _ _ (by rw [HSL.out]; exact hil), ← hy]
                  clear hy hcv
                  obtain ⟨p, hp⟩ : ∃ p, p = gu * y := ⟨_, rfl⟩
                  have hple : p ≤ 18446744065119617025 := by rw [hp]; exact mul_le_word hgu hyb
                  have f1 : IntKind.u64.wrap ((gu : Int) * (y : Int)) = (p : Int) := mul_wrap hgu hyb hp
                  have HPP := Lib.hid hp
                  clear hp
                  obtain ⟨lo, cy2, hs', hlo⟩ := split_word (cy + p)
                  have hcy2 : cy2 < 4294967296 := by omega
                  have m1 : (i : Int) < (ys.length : Int) := by omega
                  have f2 : IntKind.u64.wrap (y : Int) = (y : Int) := IntWalk.u64_in _ (by omega)
                  have f4 : IntKind.u64.wrap ((cy : Int) + (p : Int)) = (cy : Int) + (p : Int) := IntWalk.u64_in _ (by omega)
                  have f5 : bits .and .u64 ((cy : Int) + (p : Int)) 4294967295 = (lo : Int) := mask_any (hi := cy2) (by omega) hlo hcy2
                  have f6 : ((cy : Int) + (p : Int)) / 4294967296 = (cy2 : Int) := by omega
                  have f8 : IntKind.u64.wrap ((lo : Int) + (b : Int)) = (lo : Int) + (b : Int) := IntWalk.u64_in _ (by omega)
                  have HSW' : Hid (cy + gu * y = lo + 4294967296 * cy2) := by unfold Hid; rw [← HPP.out]; exact hs'
                  have hine : ¬ i = ys.length := by omega
                  have HINE := Lib.hid hine
                  clear hs' hine
                  by_cases hxt : x < lo + b
                  · skip
                    have q1 : decide ((x : Int) < (lo : Int) + (b : Int)) = true := decide_eq_true (by omega)
                    obtain ⟨nx, hnx⟩ : ∃ nx, x + 1 * 4294967296 = nx + (lo + b) := ⟨x + 1 * 4294967296 - (lo + b), by omega⟩
                    have hnxb : nx < 4294967296 := by omega
                    have f9 : IntKind.u64.wrap ((x : Int) + 4294967296) = (x : Int) + 4294967296 := IntWalk.u64_in _ (by omega)
                    have f10 : IntKind.u64.wrap ((x : Int) + 4294967296 - ((lo : Int) + (b : Int))) = (nx : Int) := by rw [IntWalk.u64_in _ (by omega)]; omega
                    have f11 := mask_word hnxb
                    have f12 : IntKind.u32.wrap (nx : Int) = (nx : Int) := by rw [IntKind.wrap_u32]; omega
                    have HNX := Lib.hid hnx
                    clear hnx
                    go_wp2_with fail
                    go_roundw
                    case rel => exact HST'.out y lo cy2 1 nx HSW'.out HNX.out hnxb hcy2 (by omega) (fun h => absurd h HINE.out) HY'.out
                    case measure => simp [intOf] <;> omega
                  · skip
                    have q1 : decide ((x : Int) < (lo : Int) + (b : Int)) = false := decide_eq_false (by omega)
                    obtain ⟨nx, hnx⟩ : ∃ nx, x + 0 * 4294967296 = nx + (lo + b) := ⟨x + 0 * 4294967296 - (lo + b), by omega⟩
                    have hnxb : nx < 4294967296 := by omega
                    have f10 : IntKind.u64.wrap ((x : Int) - ((lo : Int) + (b : Int))) = (nx : Int) := by rw [IntWalk.u64_in _ (by omega)]; omega
                    have f11 := mask_word hnxb
                    have f12 : IntKind.u32.wrap (nx : Int) = (nx : Int) := by rw [IntKind.wrap_u32]; omega
                    have HNX := Lib.hid hnx
                    clear hnx
                    go_wp2_with fail
                    go_roundw
                    case rel => exact HST'.out y lo cy2 0 nx HSW'.out HNX.out hnxb hcy2 (by omega) (fun h => absurd h HINE.out) HY'.out
                    case measure => simp [intOf] <;> omega
                · obtain rfl : i = ys.length := by omega
                  have m1 : ¬ (ys.length : Int) < (ys.length : Int) := by omega
                  obtain ⟨lo, hlo'⟩ : ∃ lo, lo = cy := ⟨_, rfl⟩
                  have hlo : lo < 4294967296 := by omega
                  have f5 : bits .and .u64 (cy : Int) 4294967295 = (lo : Int) := by rw [hlo']; exact mask_word hcy
                  have f6 : (cy : Int) / 4294967296 = ((0 : Nat) : Int) := by omega
                  have f8 : IntKind.u64.wrap ((lo : Int) + (b : Int)) = (lo : Int) + (b : Int) := IntWalk.u64_in _ (by omega)
                  have HSW' : Hid (cy + gu * 0 = lo + 4294967296 * 0) := by unfold Hid; omega
                  have HY' : Hid (valN (vs.take (ys.length + 1)) = valN (vs.take ys.length) + 4294967296 ^ ys.length * 0) := by unfold Hid; rw [take_all HSL.out, List.take_of_length_le (by rw [HSL.out]; omega)]; rfl
                  have hz0 : (0 : Nat) < 4294967296 := by omega
                  clear hlo' hcv
                  by_cases hxt : x < lo + b
                  · skip
                    have q1 : decide ((x : Int) < (lo : Int) + (b : Int)) = true := decide_eq_true (by omega)
                    obtain ⟨nx, hnx⟩ : ∃ nx, x + 1 * 4294967296 = nx + (lo + b) := ⟨x + 1 * 4294967296 - (lo + b), by omega⟩
                    have hnxb : nx < 4294967296 := by omega
                    have f9 : IntKind.u64.wrap ((x : Int) + 4294967296) = (x : Int) + 4294967296 := IntWalk.u64_in _ (by omega)
                    have f10 : IntKind.u64.wrap ((x : Int) + 4294967296 - ((lo : Int) + (b : Int))) = (nx : Int) := by rw [IntWalk.u64_in _ (by omega)]; omega
                    have f11 := mask_word hnxb
                    have f12 : IntKind.u32.wrap (nx : Int) = (nx : Int) := by rw [IntKind.wrap_u32]; omega
                    have HNX := Lib.hid hnx
                    clear hnx
                    go_wp2_with fail
                    go_roundw
                    case rel => exact HST'.out 0 lo 0 1 nx HSW'.out HNX.out hnxb hz0 (by omega) (fun _ => rfl) HY'.out
                    case measure => simp [intOf] <;> omega
                  · skip
                    have q1 : decide ((x : Int) < (lo : Int) + (b : Int)) = false := decide_eq_false (by omega)
                    obtain ⟨nx, hnx⟩ : ∃ nx, x + 0 * 4294967296 = nx + (lo + b) := ⟨x + 0 * 4294967296 - (lo + b), by omega⟩
                    have hnxb : nx < 4294967296 := by omega
                    have f10 : IntKind.u64.wrap ((x : Int) - ((lo : Int) + (b : Int))) = (nx : Int) := by rw [IntWalk.u64_in _ (by omega)]; omega
                    have f11 := mask_word hnxb
                    have f12 : IntKind.u32.wrap (nx : Int) = (nx : Int) := by rw [IntKind.wrap_u32]; omega
                    have HNX := Lib.hid hnx
                    clear hnx
                    go_wp2_with fail
                    go_roundw
                    case rel => exact HST'.out 0 lo 0 0 nx HSW'.out HNX.out hnxb hz0 (by omega) (fun _ => rfl) HY'.out
                    case measure => simp [intOf] <;> omega
              · obtain rfl : i = ys.length + 1 := by omega
                have hc0 := HCY0.out rfl
                subst hc0
                have n1 : ¬ ((ys.length + 1 : Nat) : Int) ≤ (ys.length : Int) := by omega
                have hsgd : seg.drop (ys.length + 1) = [] := List.drop_of_length_le (by rw [HSGL.out]; exact Nat.le_refl _)
                have HA2 : Hid (Arr .u32 wr BU 103 (ints (P ++ dn ++ Z))) := by have := HA.out; rw [hsgd, List.append_nil] at this; exact this
                have HE : Hid (valN dn + gu * V = S + b * 4294967296 ^ (ys.length + 1)) := by
                  have := HVA.out
                  rw [List.take_of_length_le (by rw [HSL.out]; omega), List.take_of_length_le (by rw [HSGL.out]; exact Nat.le_refl _), ← HV.out, ← HS.out, Nat.zero_add] at this
                  exact this
                clear hsgd hgb
                have hDL : valN dn < 4294967296 ^ (ys.length + 1) := by
                  have := valN_lt dn HD.out
                  rwa [HL.out] at this
                have HDL := Lib.hid hDL
                clear hDL
                have v3 : IntKind.u32.wrap (gu : Int) = (gu : Int) := by rw [IntKind.wrap_u32]; omega
                by_cases hb0 : b = 0
                · subst hb0
                  have u1 : ((0 : Int) == 1) = false := rfl
                  obtain ⟨e1, e2⟩ := parts_end0 (by have := HE.out; rw [Nat.zero_mul, Nat.add_zero] at this; exact this) HQ0'.out hVpos
                  obtain ⟨⟨old, hcq, hfq⟩, hend⟩ := HFIN.out dn wr HL.out HD.out e2 HA2.out HG.out
                  have HEND := Lib.hid (hend gu e1)
                  clear hend e1 e2
                  go_wp2_with fail
                  go_roundg j
                  case measure => omega
                  case rel =>
                    obtain ⟨U', qs', h1, _, h3⟩ := HEND.out
                    exact ⟨U', qs', h1, by go_num, h3⟩
                · obtain rfl : b = 1 := by omega
                  have u1 : ((1 : Int) == 1) = true := rfl
                  obtain ⟨hgp, e1, e2⟩ := parts_end1 (by have := HE.out; rw [Nat.one_mul] at this; exact this) HDL.out HQ1'.out HQ0'.out hVpos
                  obtain ⟨g1, hg1⟩ : ∃ g1, gu = g1 + 1 := ⟨gu - 1, by omega⟩
                  rw [hg1, Nat.add_sub_cancel] at e1
                  have v4 : IntKind.u64.wrap ((gu : Int) - 1) = (g1 : Int) := by rw [IntWalk.u64_in _ (by omega)]; omega
                  have v5 : IntKind.u32.wrap (g1 : Int) = (g1 : Int) := by rw [IntKind.wrap_u32]; omega
                  have HE1 := Lib.hid e1
                  have HE2 := Lib.hid e2
                  clear hg1 e1 e2
                  obtain ⟨wc2, rfl⟩ : ∃ w_ : World, w_ = wr := ⟨_, rfl⟩
                  go_wp2_with fail
                  go_loopw [22, 23] (fun vc vi wz => ∃ (i cy : Nat) (d2 : List Nat), i ≤ ys.length + 1 ∧ vi = .int .i64 (i : Int) ∧ vc = .int .u64 (cy : Int) ∧ cy ≤ 1 ∧ d2.length = i ∧ Wd d2 ∧
                      valN d2 + cy * 4294967296 ^ i = valN (dn.take i) + valN (vs.take i) ∧ Arr .u32 wz BU 103 (ints (P ++ (d2 ++ dn.drop i) ++ Z)) ∧ wo.grownBy wz (some BU)) (fun _ vi _ => ys.length + 1 - (intOf vi).toNat)
                  case atStart => exact ⟨0, 0, [], by omega, rfl, rfl, by omega, rfl, (fun x hx => (by cases hx)), by simp [valN], by rw [List.nil_append, List.drop_zero]; exact HA2.out, HG.out⟩
                  case round =>
                    obtain ⟨wr_w, rfl⟩ : ∃ w_ : World, w_ = wr := ⟨_, rfl⟩
                    obtain ⟨i, cy, d2, hi2, rfl, rfl, hcy2, hdl2, hdw2, hval2, harr2, hgb2⟩ := hrel
                    have HD2 := Lib.hid hdw2
                    have HVA2 := Lib.hid hval2
                    have HA3 := Lib.hid harr2
                    have HG2 := Lib.hid hgb2
                    have HL2 := Lib.hid hdl2
                    have hml2 : (d2 ++ dn.drop i).length = ys.length + 1 := by rw [List.length_append, List.length_drop, HL2.out, HL.out]; omega
                    clear hdw2 hval2 harr2 hdl2
                    by_cases hin2 : i ≤ ys.length
                    · have hcv := (HRV7.out.grown hgb2 HNE.out)
                      clear hgb2
                      obtain ⟨x, hx⟩ : ∃ x, x = nat dn i := ⟨_, rfl⟩
                      have hxb : x < 4294967296 := by rw [hx]; exact nat_lt HD.out _
                      have cu : wr_w.cell? ⟨BU, j + i, none⟩ = some (.int .u32 (x : Int)) := by
                        have := arr_cell HA3.out HPl.out (k := i) (by rw [hml2]; omega)
                        rw [nat_pass _ _ _ HL2.out, ← hx] at this
                        exact this
                      have fu := HA3.out.frozen (j + i)
                      have HX' := Lib.hid hx
                      clear hx
                      have n1' : (i : Int) ≤ (ys.length : Int) := by omega
                      have n2' : (i : Int).toNat = i := by omega
                      have n3' : (0 : Int) ≤ (i : Int) := by omega
                      have o1 : IntKind.i64.wrap ((j : Int) + (i : Int)) = (j : Int) + (i : Int) := IntWalk.i64_in _ (by omega)
                      have o2 : ((j : Int) + (i : Int)).toNat = j + i := by omega
                      have o3 : (0 : Int) ≤ (j : Int) + (i : Int) := by omega
                      have o4 : (j : Int) + (i : Int) < (L : Int) := by omega
                      have o5 : j + i < L := by omega
                      have f3 : IntKind.u64.wrap (x : Int) = (x : Int) := IntWalk.u64_in _ (by omega)
                      have f4 : IntKind.u64.wrap ((x : Int) + (cy : Int)) = (x : Int) + (cy : Int) := IntWalk.u64_in _ (by omega)
                      have wi : IntKind.i64.wrap ((i : Int) + 1) = (i : Int) + 1 := IntWalk.i64_in _ (by omega)
                      have step : ∀ (y lo cy' : Nat), x + cy + y = lo + 4294967296 * cy' → lo < 4294967296 → cy' ≤ 1 → valN (vs.take (i + 1)) = valN (vs.take i) + 4294967296 ^ i * y →
                          (∃ (i' cy'' : Nat) (d' : List Nat), i' ≤ ys.length + 1 ∧ Value.int .i64 ((i : Int) + 1) = .int .i64 (i' : Int) ∧ Value.int .u64 (cy' : Int) = .int .u64 (cy'' : Int) ∧ cy'' ≤ 1 ∧ d'.length = i' ∧ Wd d' ∧
                            valN d' + cy'' * 4294967296 ^ i' = valN (dn.take i') + valN (vs.take i') ∧ Arr .u32 (wr_w.setCell ⟨BU, j + i, none⟩ (.int .u32 (lo : Int))) BU 103 (ints (P ++ (d' ++ dn.drop i') ++ Z)) ∧ wo.grownBy (wr_w.setCell ⟨BU, j + i, none⟩ (.int .u32 (lo : Int))) (some BU)) := by
                        intro y lo cy' h1 h2 h3 h4
                        refine ⟨i + 1, cy', d2 ++ [lo], by omega, by go_num, rfl, h3, by simp [HL2.out], HD2.out.snoc h2, ?_, ?_, gb_set HG2.out (.inr rfl) _⟩
                        · rw [valN_snoc, HL2.out, h4, valN_take_succ _ _ (by rw [HL.out]; omega), ← HX'.out, Nat.pow_succ]
                          exact add_step HVA2.out h1
                        · have := arr_set (x := lo) HA3.out HPl.out (k := i) (by rw [hml2]; omega)
                          rw [set_pass _ _ _ _ HL2.out (by rw [HL.out]; omega)] at this
                          exact this
                      have HST' := Lib.hid step
                      clear step
                      by_cases hil : i < ys.length
                      · obtain ⟨y, hy⟩ : ∃ y, y = nat vs i := ⟨_, rfl⟩
                        have hyb : y < 4294967296 := by rw [hy]; exact nat_lt HRV6.out.wd _
                        have cv : wr_w.cell? ⟨BV, i, none⟩ = some (.int .u32 (y : Int)) := by
                          have := Rd.cell' (c := ys.length + 1) (by rw [HSL.out]; exact hcv) rfl (show i < vs.length by rw [HSL.out]; exact hil)
                          rw [Nat.zero_add, ← hy] at this
                          exact this
                        have HY' : Hid (valN (vs.take (i + 1)) = valN (vs.take i) + 4294967296 ^ i * y) := by unfold Hid; rw [valN_take_succ _ _ (by rw [HSL.out]; exact hil), ← hy]
                        clear hy hcv
                        obtain ⟨lo, cy', hs', hlo⟩ := split_word (x + cy + y)
                        have hcy' : cy' ≤ 1 := by omega
                        have m1 : (i : Int) < (ys.length : Int) := by omega
                        have f2 : IntKind.u64.wrap (y : Int) = (y : Int) := IntWalk.u64_in _ (by omega)
                        have f5 : IntKind.u64.wrap ((x : Int) + (cy : Int) + (y : Int)) = (x : Int) + (cy : Int) + (y : Int) := IntWalk.u64_in _ (by omega)
                        have f6 : bits .and .u64 ((x : Int) + (cy : Int) + (y : Int)) 4294967295 = (lo : Int) := mask_any (hi := cy') (by omega) hlo (by omega)
                        have f7 : IntKind.u32.wrap (lo : Int) = (lo : Int) := by rw [IntKind.wrap_u32]; omega
                        have f8 : ((x : Int) + (cy : Int) + (y : Int)) / 4294967296 = (cy' : Int) := by omega
                        have HSS' := Lib.hid hs'
                        clear hs'
                        go_wp2_with fail
                        go_roundw
                        case rel => exact HST'.out y lo cy' HSS'.out hlo hcy' HY'.out
                        case measure => simp [intOf] <;> omega
                      · obtain rfl : i = ys.length := by omega
                        have m1 : ¬ (ys.length : Int) < (ys.length : Int) := by omega
                        obtain ⟨lo, cy', hs', hlo⟩ := split_word (x + cy + 0)
                        have hcy' : cy' ≤ 1 := by omega
                        have f6 : bits .and .u64 ((x : Int) + (cy : Int)) 4294967295 = (lo : Int) := mask_any (hi := cy') (by omega) hlo (by omega)
                        have f7 : IntKind.u32.wrap (lo : Int) = (lo : Int) := by rw [IntKind.wrap_u32]; omega
                        have f8 : ((x : Int) + (cy : Int)) / 4294967296 = (cy' : Int) := by omega
                        have HY' : Hid (valN (vs.take (ys.length + 1)) = valN (vs.take ys.length) + 4294967296 ^ ys.length * 0) := by unfold Hid; rw [take_all HSL.out, List.take_of_length_le (by rw [HSL.out]; omega)]; rfl
                        have HSS' := Lib.hid hs'
                        clear hs' hcv
                        go_wp2_with fail
                        go_roundw
                        case rel => exact HST'.out 0 lo cy' HSS'.out hlo hcy' HY'.out
                        case measure => simp [intOf] <;> omega
                    · obtain rfl : i = ys.length + 1 := by omega
                      have n1' : ¬ ((ys.length + 1 : Nat) : Int) ≤ (ys.length : Int) := by omega
                      have hdd : dn.drop (ys.length + 1) = [] := List.drop_of_length_le (by rw [HL.out]; exact Nat.le_refl _)
                      have HA4 : Hid (Arr .u32 wr_w BU 103 (ints (P ++ d2 ++ Z))) := by have := HA3.out; rw [hdd, List.append_nil] at this; exact this
                      have hfin2 : valN d2 = S % V := by
                        have h1 := HVA2.out
                        rw [List.take_of_length_le (by rw [HL.out]; exact Nat.le_refl _), List.take_of_length_le (by rw [HSL.out]; omega), ← HV.out, HE2.out] at h1
                        have h2 := valN_lt d2 HD2.out
                        rw [HL2.out] at h2
                        have h3 : S % V < 4294967296 ^ (ys.length + 1) := Nat.lt_of_lt_of_le (Nat.mod_lt _ hVpos) (Nat.le_trans (Nat.le_of_lt HVLT.out) (Nat.pow_le_pow_right (by decide) (by omega)))
                        rcases Nat.le_one_iff_eq_zero_or_eq_one.1 hcy2 with rfl | rfl
                        · omega
                        · omega
                      obtain ⟨⟨old, hcq, hfq⟩, hend⟩ := HFIN.out d2 wr_w HL2.out HD2.out hfin2 HA4.out HG2.out
                      have HEND := Lib.hid (hend g1 HE1.out)
                      clear hend hdd hfin2 hgb2
                      go_wp2_with fail
                      go_roundg j
                      case measure => omega
                      case rel =>
                        obtain ⟨U', qs', h1, _, h3⟩ := HEND.out
                        exact ⟨U', qs', h1, by go_num, h3⟩
        · obtain rfl : gk = 0 := by omega
          have HQA9 : Hid (Arr .u32 wo w6.heap.size 103 (ints qs)) := by have := HQA7.out; rw [List.replicate_zero, List.nil_append] at this; exact this
          have hqrd := Rd.of_arr HQA9.out HQw.out
          have hql : qs.length = K := by have := HQl.out; omega
          have HQRD := Lib.hid (show Rd wo (.slice (some ⟨w6.heap.size, 0, none⟩) qs.length K) qs by rw [hql] at hqrd ⊢; exact hqrd)
          have HUlt0 : Hid (valN U < V) := by have := HUlt.out; rw [Nat.pow_zero, Nat.mul_one] at this; exact this
          have HM0' : Hid (m * 2 ^ k = valN U + V * valN qs) := by have := HM.out; rw [Nat.pow_zero, Nat.mul_one] at this; exact this
          have htr := rtrim_rn HQRD.out (by omega)
          rw [hql] at htr
          have HTR := Lib.hid htr
          clear hqrd hql htr
          go_wp2_with fail
          refine HTR.out.mono ?_
          rintro e w8 ⟨v8, rfl, hv8, hb8⟩
          have HV8 := Lib.hid hv8
          have HUA9 := Lib.hid (HUA7.out.below hb8 HUA7.out.lt)
          have HBK8 := Lib.hid (HBK7.out.below hb8 HBK7.out.lt)
          have HG8 : Hid (w.grownBy w8 none) := gb_below HG7.out hb8
          obtain ⟨A8, c8, x8, rfl, _, _, _⟩ := RN.opened hv8
          clear hv8 hb8
          have hurd := Rd.of_arr HUA9.out HUw.out
          rw [HUl.out] at hurd
          have hun := rback_calls w8 (some ⟨BU, 0, none⟩) L U k (by rw [HUl.out]; exact hurd) (by rw [HUl.out]; omega) hs
          rw [HUl.out] at hun
          have HUN := Lib.hid hun
          clear hurd hun
          go_wp2_with fail
          refine HUN.out.mono ?_
          rintro e w9 ⟨v9, rfl, hv9, hb9⟩
          have HV89 := Lib.hid (Rd.below HV8.out hb9)
          have HV9 := Lib.hid hv9
          have HBK9 := Lib.hid (HBK8.out.below hb9 HBK8.out.lt)
          have HG9 : Hid (w.grownBy w9 none) := gb_below HG8.out hb9
          obtain ⟨A9, c9, x9, rfl, _, _, _⟩ := RN.opened hv9
          clear hv9 hb9
          have e0 := HBK9.out.cell (j := 0) rfl
          have e1 := HBK9.out.cell (j := 1) rfl
          have f0 := HBK9.out.frozen 0
          have f1 := HBK9.out.frozen 1
          go_wp2_with fail
          obtain ⟨hq1', hr1'⟩ := div_end (m := m) (n := n) (s := k) (U := valN U) (q := valN qs) (Nat.pos_of_ne_zero hn0) (by rw [← HV0.out]; exact HM0'.out) (by rw [← HV0.out]; exact HUlt0.out)
          exact end140 Try.results129 rfl HBK9.out (by rw [← hq1']; exact HV89.out) (by rw [← hr1']; exact HV9.out) (Nat.le_refl _) (gb_to_below HG9.out)
end Go.Proofs.Ytfhambfgjigneaa
set_option linter.unusedVariables false
set_option linter.unusedSimpArgs false
namespace Go.Proofs.Ytfhambfgjigneaa
open Go.RowKit
set_option maxHeartbeats 8000000 in
set_option maxRecDepth 100000 in
theorem rsmall_calls (w : World) (v : Value) (m : Nat) (h : RN w v m) (hm : wlen m ≤ 2) : Calls Try.prog 130 #[v] w fun e w' => e = .returned (.int .u64 (m : Int)) ∧ Below w.heap.size w w' := by
  obtain ⟨A, c, xs, rfl, hc, HX, HR⟩ := h.opened
  clear h
  have hl : xs.length ≤ 2 := by rw [HX.out]; exact hm
  have HV : Hid (valN xs = m) := by unfold Hid; rw [HX.out, valN_dg]
  clear HX hm
  go_enter Try.func130, Try.ntmps130
  have w0 : IntKind.i64.wrap ((xs.length : Int) - 1) = (xs.length : Int) - 1 := IntWalk.i64_in _ (by omega)
  go_wp2_with fail
  go_loop [3, 4] (fun va vi => ∃ k : Nat, k ≤ xs.length ∧ vi = .int .i64 ((k : Int) - 1) ∧ va = .int .u64 ((valN (xs.drop k) : Nat) : Int)) (fun _ vi => (intOf vi + 1).toNat)
  case atStart => exact ⟨xs.length, Nat.le_refl _, rfl, by rw [List.drop_length]; rfl⟩
  case round =>
    obtain ⟨k, hk, rfl, rfl⟩ := hrel
    by_cases h0 : 0 < k
    · obtain ⟨g, o, rfl, hg, hcell⟩ := HR.out.cell (j := k - 1) (by omega)
      have n1 : (k : Int) - 1 ≥ 0 := by omega
      have n2 : ((k : Int) - 1).toNat = k - 1 := by omega
      have n3 : (k : Int) - 1 < (xs.length : Int) := by omega
      have wk : IntKind.i64.wrap ((k : Int) - 1 - 1) = (k : Int) - 1 - 1 := IntWalk.i64_in _ (by omega)
      have hx := nat_lt HR.out.wd (k - 1)
      obtain ⟨x, hxx⟩ : ∃ x, x = nat xs (k - 1) := ⟨_, rfl⟩
      have hd := valN_drop xs (k - 1) (by omega)
      rw [Nat.sub_add_cancel h0, ← hxx] at hd
      rw [← hxx] at hx hcell
      obtain ⟨acc, hacc⟩ : ∃ acc, acc = valN (xs.drop k) := ⟨_, rfl⟩
      have hab : acc < 4294967296 := by
        have h1 := valN_lt (xs.drop k) (HR.out.wd.drop k)
        rw [List.length_drop] at h1
        have h2 : 4294967296 ^ (xs.length - k) ≤ 4294967296 ^ 1 := Nat.pow_le_pow_right (by decide) (by omega)
        omega
      rw [← hacc] at hd ⊢
      have f0 : IntKind.u64.wrap ((acc : Int) * 4294967296) = (acc : Int) * 4294967296 := IntWalk.u64_in _ (by omega)
      have f1 : IntKind.u64.wrap (x : Int) = (x : Int) := IntWalk.u64_in _ (by omega)
      have hor := or_word acc x hab hx
      obtain ⟨z, hz⟩ : ∃ z, z = acc * 4294967296 + x := ⟨_, rfl⟩
      rw [← hz] at hor
      have HZ : Hid (valN (xs.drop (k - 1)) = z) := by unfold Hid; rw [hd, hz]; omega
      clear hz hd hacc hxx
      go_wp2_with fail
      go_round
      case rel => exact ⟨k - 1, by omega, by go_num, by rw [HZ.out]⟩
      case measure => simp [intOf]; omega
    · obtain rfl : k = 0 := by omega
      rw [List.drop_zero, HV.out]
      go_wp2_with fail
      go_ret
      exact ⟨rfl, Below.refl _ _⟩
set_option maxHeartbeats 8000000 in
set_option maxRecDepth 100000 in
theorem rwide_calls (w : World) (n : Nat) (hn : n < 18446744073709551616) :
    Calls Try.prog 131 #[.int .u64 n] w fun e w' => WPost w n e w' := by
  have c0 := mask_low n hn
  have c1 : IntKind.u32.wrap ((n % 4294967296 : Nat) : Int) = ((n % 4294967296 : Nat) : Int) := by rw [IntKind.wrap_u32]; omega
  have c2 : IntKind.u32.wrap ((n : Int) / 4294967296) = ((n / 4294967296 : Nat) : Int) := by rw [IntKind.wrap_u32]; omega
  obtain ⟨a, ha⟩ : ∃ a, a = n % 4294967296 := ⟨_, rfl⟩
  obtain ⟨b, hb⟩ : ∃ b, b = n / 4294967296 := ⟨_, rfl⟩
  rw [← ha] at c0 c1
  rw [← hb] at c2
  have hr := rd_two w a b (by omega) (by omega)
  have hval : valN [a, b] = n := by simp only [valN]; omega
  have HR := Lib.hid hr
  have HV := Lib.hid hval
  clear ha hb hr hval
  go_enter Try.func131, Try.ntmps131
  go_wp2_with fail
  refine (rtrim_rn HR.out (by simp)).mono ?_
  rintro e w' ⟨v, rfl, hv, hb⟩
  rw [HV.out] at hv
  go_wp2_with fail
  go_ret
  exact ⟨_, rfl, hv, below_next (below_new w _) hb⟩
end Go.Proofs.Ytfhambfgjigneaa
set_option linter.unusedVariables false
set_option linter.unusedSimpArgs false
namespace Go.Proofs.Ytfhambfgjigneaa
open Go.RowKit
theorem RN.two {w : World} {v : Value} {n : Nat} (h : RN w v n) : wlen n ≤ 2 ↔ n < 18446744073709551616 := dg_len_two
set_option maxHeartbeats 16000000 in
set_option maxRecDepth 100000 in
theorem rcommon_calls (w : World) (v v2 : Value) (m n : Nat) (h : RN w v m) (h2 : RN w v2 n) (hm : wlen m ≤ 10000000000) (hn : wlen n ≤ 10000000000) :
    Calls Try.prog 116 #[v, v2] w fun e w' => WPost w (Nat.gcd m n) e w' := by
  have HRN := Lib.hid h
  have HRN2 := Lib.hid h2
  clear h h2
  go_enter Try.func116, Try.ntmps116
  go_wp2_with fail
  go_loopw [0, 1] (fun va vb wr => ∃ a b : Nat, RN wr va a ∧ RN wr vb b ∧ Nat.gcd a b = Nat.gcd m n ∧ wlen a ≤ 10000000000 ∧ wlen b ≤ 10000000000 ∧ Below w.heap.size w wr) (fun va vb wr => numOf wr vb)
  case atStart => exact ⟨m, n, HRN.out, HRN2.out, rfl, hm, hn, Below.refl _ _⟩
  case round =>
    obtain ⟨a, b, ha, hb, hg, hal, hbl, hbr⟩ := hrel
    have HA := Lib.hid ha
    have HB := Lib.hid hb
    have HGC := Lib.hid hg
    have HW := Lib.hid hbr
    clear ha hb hg hbr
    obtain ⟨A1, c1, xs, e1, hc1, HX, HR⟩ := HA.out.opened
    obtain ⟨A2, c2, ys, e2, hc2, HY, HR2⟩ := HB.out.opened
    subst e1
    subst e2
    have hxl : xs.length = wlen a := by rw [HX.out]; rfl
    have hyl : ys.length = wlen b := by rw [HY.out]; rfl
    have go : b ≠ 0 → ∀ (P : Prop), P → P := fun _ P h => h
    clear go
    by_cases hlong : 2 < ys.length ∨ (2 < xs.length ∧ 0 < ys.length)
    · have hb0 : b ≠ 0 := wlen_pos.1 (by omega)
      have t : decide ((ys.length : Int) > 2) = true ∨ (decide ((ys.length : Int) > 2) = false ∧ decide ((xs.length : Int) > 2) = true ∧ (ys.length : Int) > 0) := by
        by_cases h : 2 < ys.length
        · exact .inl (decide_eq_true (by omega))
        · exact .inr ⟨decide_eq_false (by omega), decide_eq_true (by omega), (by omega)⟩
      have HB0 := Lib.hid hb0
      clear hxl hyl hlong hb0
      rcases t with t1 | ⟨t1, t2, t3⟩
      all_goals
        go_wp2_with fail
        refine (rparts_calls _ _ _ a b HA.out HB.out hal hbl HB0.out).mono ?_
        rintro e w2 ⟨vq, vr, rfl, hq, hr, hb2⟩
        have HR' := Lib.hid hr
        have HB' := Lib.hid (HB.out.of_below hb2)
        have HW2 := Lib.hid (below_next HW.out hb2)
        obtain ⟨A5, d5, l5, rfl, _, _, _⟩ := hq.opened
        obtain ⟨A6, d6, l6, rfl, _, _, _⟩ := RN.opened hr
        clear hq hr hb2
        go_wp2_with fail
        go_quiet (fail)
        go_wp2_with fail
        go_roundw
        case rel =>
          have hbz := pw_drewN (below_new w2 (.cells #[.slice A5 l5.length d5, .slice A6 l6.length d6] 140)) nq
          refine ⟨b, a % b, HB'.out.of_below hbz, HR'.out.of_below hbz, ?_, hbl, ?_, below_next HW2.out hbz⟩
          · rw [← HGC.out, Nat.gcd_comm b, ← Nat.gcd_rec, Nat.gcd_comm]
          · exact Nat.le_trans (wlen_mono (Nat.mod_le _ _)) hal
        case measure =>
          have hbz := pw_drewN (below_new w2 (.cells #[.slice A5 l5.length d5, .slice A6 l6.length d6] 140)) nq
          have e1 := numOf_eq (HR'.out.of_below hbz)
          have e2 := numOf_eq HB.out
          simp only [e1, e2] at *
          exact Nat.mod_lt _ (Nat.pos_of_ne_zero HB0.out)
    · have t1 : decide ((ys.length : Int) > 2) = false := decide_eq_false (by omega)
      have t : decide ((xs.length : Int) > 2) = false ∨ (decide ((xs.length : Int) > 2) = true ∧ ¬ (ys.length : Int) > 0) := by
        by_cases h : 2 < xs.length
        · exact .inr ⟨decide_eq_true (by omega), (by omega)⟩
        · exact .inl (decide_eq_false (by omega))
      by_cases h0 : b = 0
      · have q0 : ((ys.length : Int) == 0) = true := eqb0 (by rw [hyl, h0]; rfl)
        have HGA : Hid (Nat.gcd m n = a) := by unfold Hid; rw [← HGC.out, h0, Nat.gcd_zero_right]
        clear hlong hxl hyl h0
        rcases t with t2 | ⟨t2, t3⟩
        all_goals
          go_wp2_with fail
          go_ret
          exact ⟨_, rfl, by rw [HGA.out]; exact HA.out, HW.out⟩
      · have hyp : 0 < ys.length := by rw [hyl]; exact wlen_pos.2 h0
        have q0 : ((ys.length : Int) == 0) = false := neb0 (by omega)
        have t2 : decide ((xs.length : Int) > 2) = false := decide_eq_false (by omega)
        have ha2 : wlen a ≤ 2 := by omega
        have hb2 : wlen b ≤ 2 := by omega
        have ha64 := dg_len_two.1 ha2
        have hb64 := dg_len_two.1 hb2
        clear hlong hxl hyl h0 t
        go_wp2_with fail
        refine (rsmall_calls _ _ a HA.out ha2).mono ?_
        rintro e w2 ⟨rfl, hbz⟩
        have HW2 := Lib.hid (below_next HW.out hbz)
        have HB' := Lib.hid (HB.out.of_below hbz)
        clear hbz
        go_wp2_with fail
        refine (rsmall_calls _ _ b HB'.out hb2).mono ?_
        rintro e w3 ⟨rfl, hbz⟩
        have HW3 := Lib.hid (below_next HW2.out hbz)
        clear hbz
        go_wp2_with fail
        go_loopw [6, 7] (fun vx vy wr => ∃ p q : Nat, vx = .int .u64 (p : Int) ∧ vy = .int .u64 (q : Int) ∧ Nat.gcd p q = Nat.gcd m n ∧ p < 18446744073709551616 ∧ q < 18446744073709551616 ∧ Below w.heap.size w wr) (fun _ vy _ => (intOf vy).toNat)
        case atStart => exact ⟨_, _, rfl, rfl, HGC.out, ha64, hb64, HW3.out⟩
        case round =>
          obtain ⟨p, q, rfl, rfl, hpq, hp, hq, hbr⟩ := hrel
          have HPQ := Lib.hid hpq
          have HWr := Lib.hid hbr
          clear hpq hbr
          by_cases hq0 : q = 0
          · have t1' : ¬ (q : Int) > 0 := by omega
            have HG : Hid (Nat.gcd m n = p) := by unfold Hid; rw [← HPQ.out, hq0, Nat.gcd_zero_right]
            clear hq0
            go_wp2_with fail
            refine (rwide_calls _ p hp).mono ?_
            rintro e w5 ⟨v5, rfl, hv5, hb5⟩
            have HV5 := Lib.hid hv5
            have HW5 := Lib.hid (below_next HWr.out hb5)
            clear hv5 hb5
            go_wp2_with fail
            go_ret
            exact ⟨_, rfl, by rw [HG.out]; exact HV5.out, HW5.out⟩
          · have t1' : (q : Int) > 0 := by omega
            obtain ⟨r, hr⟩ : ∃ r, r = p % q := ⟨_, rfl⟩
            obtain ⟨⟨df1, df2⟩, df3, df4⟩ := div_facts (z := p) (d := q) rfl rfl
            rw [← hr] at df2 df4
            have hrq : r < q := by rw [hr]; exact Nat.mod_lt _ (Nat.pos_of_ne_zero hq0)
            have f1 : IntKind.u64.wrap (r : Int) = (r : Int) := IntWalk.u64_in _ (by omega)
            have d0 : ((q : Int) == 0) = false := neb0 hq0
            have d1 : (q : Int) ≠ 0 := by omega
            have HGN : Hid (Nat.gcd q r = Nat.gcd m n) := by unfold Hid; rw [← HPQ.out, hr, Nat.gcd_comm q, ← Nat.gcd_rec, Nat.gcd_comm]
            clear hr hq0
            go_wp2_with fail
            go_quiet (fail)
            go_wp2_with fail
            go_roundw
            case rel => exact ⟨q, r, rfl, rfl, HGN.out, hq, by omega, pw_drewN HWr.out _⟩
            case measure => simp [intOf]; omega
end Go.Proofs.Ytfhambfgjigneaa

/- Contracts of Go functions that the statement reaches, proved by walking their text, and plain laws over them (texts put together). -/
import Derived.Test.YtfhambfgjigneaaGreatKT1
set_option linter.unusedVariables false
set_option linter.unusedSimpArgs false
namespace Go.Proofs.YtfhambfgjigneaaGreat
open Go.RowKit
theorem Rd.takeC {w : World} {A : Option Addr} {c : Nat} {xs : List Nat} (h : Rd w (.slice A xs.length c) xs) (n : Nat) (hn : n ≤ xs.length) : Rd w (.slice A n c) (xs.take n) := by
 obtain ⟨hw, A', c', e, hc, hr⟩ := h
 injection e with e1 e2 e3
 subst e1 e3
 have hl : (xs.take n).length = n := by rw [List.length_take, Nat.min_eq_left hn]
 refine ⟨hw.take n, A, c, by rw [hl], by rw [hl]; omega, fun hp => ?_⟩
 rw [hl] at hp ⊢
 obtain ⟨g, o, rfl, hg, hj⟩ := hr (by omega)
 exact ⟨g, o, rfl, hg, fun j hjl => by rw [hj j (by omega), nat_take hjl]⟩
def RTrimPost (w : World) (A : Option Addr) (c : Nat) (xs : List Nat) (e : Ending) (w' : World) : Prop := ∃ n, n ≤ xs.length ∧ e = .returned (.slice A n c) ∧ xs.take n = dg (valN xs) ∧ Below w.heap.size w w'
set_option maxHeartbeats 8000000 in
set_option maxRecDepth 100000 in
theorem rtrim_calls (w : World) (A : Option Addr) (c : Nat) (xs : List Nat) (h : Rd w (.slice A xs.length c) xs) (hl : xs.length ≤ 1000000000000) (hc : xs.length ≤ c) :
  Calls Tryz.prog 122 #[.slice A xs.length c] w fun e w' => RTrimPost w A c xs e w' := by
 have HR := Hd h
 clear h
 go_enter Tryz.func122, Tryz.ntmps122
 go_wp2
 go_loop [3] (fun v => ∃ n : Nat, n ≤ xs.length ∧ v = .int .i64 n ∧ ∀ j, n ≤ j → j < xs.length → nat xs j = 0) (fun v => (intOf v).toNat)
 case atStart => exact ⟨xs.length, Nat.le_refl _, rfl, fun j h1 h2 => by omega⟩
 case round =>
  obtain ⟨n, hn, rfl, hz⟩ := hrel
  have HZ := Hd hz
  clear hz
  by_cases hp : 0 < n
  ·obtain ⟨g, o, rfl, hg, hcell⟩ := HR.out.cell (j := n - 1) (by omega)
   have n1 : (n : Int) > 0 := by omega
   have n2 : ((n : Int) - 1).toNat = n - 1 := by omega
   have n3 : 0 ≤ (n : Int) - 1 := by omega
   have n4 : (n : Int) - 1 < (xs.length : Int) := by omega
   have nw : IntKind.i64.wrap ((n : Int) - 1) = (n : Int) - 1 := IntWalk.i64_in _ (by omega)
   by_cases hx : nat xs (n - 1) = 0
   ·rw [hx] at hcell
    have hcell0 : w.cell? ⟨g, o + (n - 1), none⟩ = some (.int .u32 0) := hcell
    clear hcell
    have hz0 : ((0 : Int) == 0) = true := rfl
    go_wp2_with fail
    go_round
    case rel =>
     refine ⟨n - 1, by omega, by rw [show ((n - 1 : Nat) : Int) = (n : Int) - 1 by omega], fun j h1 h2 => ?_⟩
     by_cases hj : j = n - 1
     ·rw [hj]; exact hx
     ·exact HZ.out j (by omega) h2
    case measure => simp [intOf]; omega
   ·have hz0 : ((nat xs (n - 1) : Int) == 0) = false := by
     have : (nat xs (n - 1) : Int) ≠ 0 := by omega
     simpa using this
    have hcap : (n : Int) ≤ (c : Int) := by omega
    go_wp2_with fail
    go_ret
    exact ⟨n, hn, rfl, canon_take HR.out.wd hn HZ.out (.inr hx), Below.refl _ _⟩
  ·obtain rfl : n = 0 := by omega
   go_wp2_with fail
   go_ret
   exact ⟨0, hn, rfl, canon_take HR.out.wd hn HZ.out (.inl rfl), Below.refl _ _⟩
theorem rtrim_rn {w : World} {A : Option Addr} {c : Nat} {xs : List Nat} (h : Rd w (.slice A xs.length c) xs) (hl : xs.length ≤ 1000000000000) :
  Calls Tryz.prog 122 #[.slice A xs.length c] w fun e w' => WPost w (valN xs) e w' := by
 have hc : xs.length ≤ c := by
  obtain ⟨A', c', e, hc⟩ := h.slice
  injection e with e1 e2 e3
  omega
 refine (rtrim_calls w A c xs h hl hc).mono ?_
 rintro e w' ⟨n, hn, rfl, ht, hb⟩
 refine ⟨_, rfl, ?_, hb⟩
 have := (h.takeC n hn).below hb
 rw [ht] at this
 exact this
set_option maxHeartbeats 8000000 in
set_option maxRecDepth 100000 in
theorem rorder_calls (w : World) (v v2 : Value) (m n : Nat) (h : RN w v m) (h2 : RN w v2 n) (hm : wlen m ≤ 1000000000000) (hn : wlen n ≤ 1000000000000) :
  Calls Tryz.prog 71 #[v, v2] w fun e w' => e = .returned (.int .i64 (cmpI m n)) ∧ Below w.heap.size w w' := by
 obtain ⟨A, c, xs, rfl, hc, HX, HR⟩ := h.opened
 obtain ⟨A2, c2, ys, rfl, hc2, HY, HR2⟩ := h2.opened
 clear h h2
 have hlx : xs.length ≤ 1000000000000 := by rw [HX.out]; exact hm
 have hly : ys.length ≤ 1000000000000 := by rw [HY.out]; exact hn
 have HVX : Hid (valN xs = m) := by unfold Hid; rw [HX.out, valN_dg]
 have HVY : Hid (valN ys = n) := by unfold Hid; rw [HY.out, valN_dg]
 go_enter Tryz.func71, Tryz.ntmps71
 by_cases hne : xs.length = ys.length
 ·have t0 : ((xs.length : Int) != (ys.length : Int)) = false := by rw [hne]; simp
  go_wp2_with fail
  go_loopw [5] (fun vi wr => ∃ k : Nat, k ≤ xs.length ∧ vi = .int .i64 ((k : Int) - 1) ∧ Below w.heap.size w wr ∧ ∀ j, k ≤ j → j < xs.length → nat xs j = nat ys j) (fun vi _ => (intOf vi + 1).toNat)
  case atStart => exact ⟨xs.length, Nat.le_refl _, by go_num, Below.refl _ _, fun j h1 h2 => by omega⟩
  case round =>
   obtain ⟨k, hk, rfl, hbr, heq⟩ := hrel
   have HE := Hd heq
   have HB := Hd hbr
   clear heq
   by_cases h0 : 0 < k
   ·have HRr := Hd (HR.out.below hbr)
    have HRr2 := Hd (HR2.out.below hbr)
    clear hbr
    obtain ⟨g, o, rfl, hg, hcell⟩ := HRr.out.cell (j := k - 1) (by omega)
    obtain ⟨g2, o2, rfl, hg2, hcell2⟩ := HRr2.out.cell (j := k - 1) (by omega)
    have n1 : (k : Int) - 1 ≥ 0 := by omega
    have n2 : ((k : Int) - 1).toNat = k - 1 := by omega
    have n4 : (k : Int) - 1 < (xs.length : Int) := by omega
    have n5 : (k : Int) - 1 < (ys.length : Int) := by omega
    obtain ⟨x, hx⟩ : ∃ x, x = nat xs (k - 1) := ⟨_, rfl⟩
    obtain ⟨y, hy⟩ : ∃ y, y = nat ys (k - 1) := ⟨_, rfl⟩
    rw [← hx] at hcell
    rw [← hy] at hcell2
    have HXX := Hd hx
    have HYY := Hd hy
    clear hx hy
    by_cases hxy : x = y
    ·have t1 : ((x : Int) != (y : Int)) = false := by rw [hxy]; simp
     have nw : IntKind.i64.wrap ((k : Int) - 1 - 1) = (k : Int) - 1 - 1 := IntWalk.i64_in _ (by omega)
     go_wp2_with fail
     go_quiet (fail)
     go_wp2_with fail
     go_roundw
     case rel =>
      refine ⟨k - 1, by omega, by go_num, pw_drewN HB.out _, fun j h1 h2 => ?_⟩
      by_cases hj : j = k - 1
      ·rw [hj, ← HXX.out, ← HYY.out, hxy]
      ·exact HE.out j (by omega) h2
     case measure => simp [intOf]; omega
    ·have t1 : ((x : Int) != (y : Int)) = true := by
      have : (x : Int) ≠ (y : Int) := by omega
      simpa using this
     by_cases hlt : x < y
     ·have t2 : decide ((x : Int) < (y : Int)) = true := decide_eq_true (by omega)
      go_wp2_with fail
      go_quiet (fail)
      go_wp2_with fail
      go_quiet (fail)
      go_wp2_with fail
      go_ret
      refine ⟨?_, pw_drewN (pw_drewN HB.out _) _⟩
      have : m < n := by
       rw [← HVX.out, ← HVY.out]
       exact cmp_top HR.out.wd HR2.out.wd hne (k - 1) (by omega) (fun j h1 h2 => HE.out j (by omega) h2) (by rw [← HXX.out, ← HYY.out]; exact hlt)
      rw [show cmpI m n = -1 by unfold cmpI; rw [if_neg (by omega), if_pos this]]
      rfl
     ·have t2 : decide ((x : Int) < (y : Int)) = false := decide_eq_false (by omega)
      go_wp2_with fail
      go_quiet (fail)
      go_wp2_with fail
      go_quiet (fail)
      go_wp2_with fail
      go_ret
      refine ⟨?_, pw_drewN (pw_drewN HB.out _) _⟩
      have : n < m := by
       rw [← HVX.out, ← HVY.out]
       exact cmp_top HR2.out.wd HR.out.wd hne.symm (k - 1) (by omega) (fun j h1 h2 => (HE.out j (by omega) (by omega)).symm) (by rw [← HXX.out, ← HYY.out]; omega)
      rw [show cmpI m n = 1 by unfold cmpI; rw [if_neg (by omega), if_neg (by omega)]]
      rfl
   ·obtain rfl : k = 0 := by omega
    go_wp2_with fail
    go_ret
    refine ⟨?_, HB.out⟩
    have : m = n := by
     rw [← HVX.out, ← HVY.out]
     congr 1
     apply List.ext_getElem hne
     intro j h1 h2
     have := HE.out j (by omega) h1
     simpa [nat, List.getD_eq_getElem?_getD, List.getElem?_eq_getElem h1, List.getElem?_eq_getElem h2] using this
    rw [show cmpI m n = 0 by unfold cmpI; rw [if_pos this]]
    rfl
 ·have t0 : ((xs.length : Int) != (ys.length : Int)) = true := by
   have : (xs.length : Int) ≠ (ys.length : Int) := by omega
   simpa using this
  by_cases hlt : xs.length < ys.length
  ·have t1 : (xs.length : Int) < (ys.length : Int) := by omega
   go_wp2_with fail
   go_ret
   refine ⟨?_, Below.refl _ _⟩
   have : m < n := valN_lt_len (by rw [← HX.out, ← HY.out]; exact hlt)
   rw [show cmpI m n = -1 by unfold cmpI; rw [if_neg (by omega), if_pos this]]
   rfl
  ·have t1 : ¬ (xs.length : Int) < (ys.length : Int) := by omega
   go_wp2_with fail
   go_ret
   refine ⟨?_, Below.refl _ _⟩
   have : n < m := valN_lt_len (by rw [← HX.out, ← HY.out]; omega)
   rw [show cmpI m n = 1 by unfold cmpI; rw [if_neg (by omega), if_neg (by omega)]]
   rfl
theorem valN_take_zero (ys : List Nat) (i : Nat) (h : ys.length ≤ i) : valN (ys.take (i + 1)) = valN (ys.take i) := by rw [valN_take_more ys (i + 1) (by omega), valN_take_more ys i h]
theorem plus_last {v c L m n : Nat} (h : v + c * L = m + n) (hb : m + n < L) : v = m + n ∧ c = 0 := by
 rcases Nat.eq_zero_or_pos c with rfl | hc
 ·omega
 ·have : L ≤ c * L := Nat.le_mul_of_pos_left L hc
  omega
theorem sum_lt {m n a b N : Nat} (h1 : m < 4294967296 ^ a) (h2 : n < 4294967296 ^ b) (ha : a + 1 ≤ N) (hb : b + 1 ≤ N) : m + n < 4294967296 ^ N := by
 have e1 : 4294967296 ^ a ≤ 4294967296 ^ (N - 1) := Nat.pow_le_pow_right (by decide) (by omega)
 have e2 : 4294967296 ^ b ≤ 4294967296 ^ (N - 1) := Nat.pow_le_pow_right (by decide) (by omega)
 have e3 : 4294967296 ^ N = 4294967296 ^ (N - 1) * 4294967296 := by rw [← Nat.pow_succ]; congr 1; omega
 omega
theorem mask_low (n : Nat) (h : n < 18446744073709551616) : bits .and .u64 (n : Int) 4294967295 = ((n % 4294967296 : Nat) : Int) := by
 have := bits_mask .u64 64 (by decide) (fun n h0 h1 => IntWalk.u64_in n (by omega)) 32 (by decide) (n : Int) (by omega) (by omega)
 rw [show (4294967295 : Int) = 2 ^ 32 - 1 by decide, this]
 omega
set_option maxHeartbeats 16000000 in
set_option maxRecDepth 100000 in
theorem rplus_calls (w : World) (v v2 : Value) (m n : Nat) (h : RN w v m) (h2 : RN w v2 n) (hm : wlen m ≤ 100000000000) (hn : wlen n ≤ 100000000000) :
  Calls Tryz.prog 141 #[v, v2] w fun e w' => WPost w (m + n) e w' := by
 obtain ⟨A, c, xs, rfl, hc, HX, HR⟩ := h.opened
 obtain ⟨A2, c2, ys, rfl, hc2, HY, HR2⟩ := h2.opened
 clear h h2
 have hlx : xs.length ≤ 100000000000 := by rw [HX.out]; exact hm
 have hly : ys.length ≤ 100000000000 := by rw [HY.out]; exact hn
 have HVX : Hid (valN xs = m) := by unfold Hid; rw [HX.out, valN_dg]
 have HVY : Hid (valN ys = n) := by unfold Hid; rw [HY.out, valN_dg]
 clear HX HY hm hn
 go_enter Tryz.func141, Tryz.ntmps141
 by_cases hlt : xs.length < ys.length
 ·obtain ⟨N, hN⟩ : ∃ N : Nat, ys.length + 1 = N := ⟨_, rfl⟩
  have wl : IntKind.i64.wrap ((ys.length : Int) + 1) = ((N : Nat) : Int) := by rw [IntWalk.i64_in _ (by omega)]; omega
  have hmk := make_words 44 Tryz.underlying44 N (by omega)
  have hle : (xs.length : Int) < (ys.length : Int) := by omega
  go_wp2_with fail
  clear hmk wl hle
  have hw0 := gb_alloc (gb_refl w none) (zw N)
  have ha0 := zw_arr w N
  generalize w.alloc (zw N) = W0 at *
  go_loopw [7, 8] (fun vc vi wr => ∃ (i cy : Nat) (d : List Nat), i ≤ N ∧ vi = .int .i64 (i : Int) ∧ vc = .int .u64 (cy : Int) ∧ cy ≤ 1 ∧ d.length = i ∧ Wd d ∧
    valN d + cy * 4294967296 ^ i = valN (xs.take i) + valN (ys.take i) ∧ Arr .u32 wr w.heap.size 103 (ints (d ++ (List.replicate N 0).drop i)) ∧ w.grownBy wr none) (fun _ vi _ => N - (intOf vi).toNat)
  case atStart => exact ⟨0, 0, [], by omega, rfl, rfl, by omega, rfl, (fun x hx => (by cases hx)), by simp [valN], ha0, hw0⟩
  case round =>
   obtain ⟨i, cy, d, hi, rfl, rfl, hcy, hdl, hdw, hval, harr, hgb⟩ := hrel
   have HD := Hd hdw
   have HV := Hd hval
   have HA := Hd harr
   have HG := Hd hgb
   have HL := Hd hdl
   clear hdw hval harr hdl
   by_cases hlN : i < N
   ·have HRr := Hd (HR.out.gb hgb)
    have HRr2 := Hd (HR2.out.gb hgb)
    clear hgb
    have n1 : (i : Int) ≤ (ys.length : Int) := by omega
    have n3 : (i : Int).toNat = i := by omega
    have n4 : (0 : Int) ≤ (i : Int) := by omega
    have n5 : (i : Int) < ((N : Nat) : Int) := by omega
    have hlen : (ints (d ++ (List.replicate N 0).drop i)).length = N := by rw [ints_length]; simp [HL.out]; omega
    have hco := HA.out.cell i (by rw [hlen]; omega)
    have hfr := HA.out.frozen i
    obtain ⟨old, hold⟩ : ∃ old, old = (ints (d ++ (List.replicate N 0).drop i)).getD i 0 := ⟨_, rfl⟩
    rw [← hold] at hco
    clear hold
    have HN := Hd hN
    clear hN
    by_cases hx1 : i < xs.length
    ·by_cases hy1 : i < ys.length
     ·skip
      obtain ⟨g, o, rfl, hg, hcell⟩ := HRr.out.cell (j := i) hx1
      have m1 : (i : Int) < (xs.length : Int) := by omega
      have hx := nat_lt HR.out.wd i
      obtain ⟨x, hxx⟩ : ∃ x, x = nat xs i := ⟨_, rfl⟩
      rw [← hxx] at hx hcell
      have HXX := Hd hxx
      clear hxx
      have f0 : IntKind.u64.wrap (x : Int) = (x : Int) := IntWalk.u64_in _ (by omega)
      have f1 : IntKind.u64.wrap ((cy : Int) + (x : Int)) = (cy : Int) + (x : Int) := IntWalk.u64_in _ (by omega)
      obtain ⟨g2, o2, rfl, hg2, hcell2⟩ := HRr2.out.cell (j := i) hy1
      have m2 : (i : Int) < (ys.length : Int) := by omega
      have hy := nat_lt HR2.out.wd i
      obtain ⟨y, hyy⟩ : ∃ y, y = nat ys i := ⟨_, rfl⟩
      rw [← hyy] at hy hcell2
      have HYY := Hd hyy
      clear hyy
      have f00 : IntKind.u64.wrap (y : Int) = (y : Int) := IntWalk.u64_in _ (by omega)
      have f2 : IntKind.u64.wrap ((cy : Int) + (x : Int) + (y : Int)) = (cy : Int) + (x : Int) + (y : Int) := IntWalk.u64_in _ (by omega)
      obtain ⟨lo, hi2, hs, hlo⟩ := split_word (cy + x + y)
      have HS := Hd hs
      have hhi : hi2 ≤ 1 := by omega
      have hmask : bits .and .u64 ((cy : Int) + (x : Int) + (y : Int)) 4294967295 = (lo : Int) := by
       have := mask_low (cy + x + y) (by omega)
       rw [show ((cy + x + y : Nat) : Int) = (cy : Int) + (x : Int) + (y : Int) by omega] at this
       rw [this]
       omega
      have f3 : IntKind.u32.wrap (lo : Int) = (lo : Int) := by rw [IntKind.wrap_u32]; omega
      have f4 : ((cy : Int) + (x : Int) + (y : Int)) / 4294967296 = (hi2 : Int) := by omega
      clear hs
      go_wp2_with fail
      go_roundw
      case rel =>
       refine ⟨i + 1, hi2, d ++ [lo], by omega, by go_num, rfl, hhi, by simp [HL.out], HD.out.snoc hlo, ?_, ?_, gb_set HG.out (.inl (Nat.le_refl _)) _⟩
       ·rw [valN_snoc, HL.out, valN_take_succ _ _ hx1, valN_take_succ _ _ hy1, ← HXX.out, ← HYY.out, Nat.pow_succ]
        have := add_step (x := x) (y := y) HV.out (by have := HS.out; omega : x + cy + y = lo + 4294967296 * hi2)
        omega
       ·have := HA.out.set i (lo : Int)
        rw [ints_set, set_pass _ _ _ _ HL.out (by simp; omega)] at this
        exact this
      case measure => simp [intOf]; omega
     ·omega
    ·by_cases hy1 : i < ys.length
     ·skip
      have m1 : ¬ (i : Int) < (xs.length : Int) := by omega
      obtain ⟨x, hx0⟩ : ∃ x : Nat, x = 0 := ⟨_, rfl⟩
      have HX0 := Hd hx0
      clear hx0
      obtain ⟨g2, o2, rfl, hg2, hcell2⟩ := HRr2.out.cell (j := i) hy1
      have m2 : (i : Int) < (ys.length : Int) := by omega
      have hy := nat_lt HR2.out.wd i
      obtain ⟨y, hyy⟩ : ∃ y, y = nat ys i := ⟨_, rfl⟩
      rw [← hyy] at hy hcell2
      have HYY := Hd hyy
      clear hyy
      have f00 : IntKind.u64.wrap (y : Int) = (y : Int) := IntWalk.u64_in _ (by omega)
      have f2 : IntKind.u64.wrap ((cy : Int) + (y : Int)) = (cy : Int) + (y : Int) := IntWalk.u64_in _ (by omega)
      obtain ⟨lo, hi2, hs, hlo⟩ := split_word (cy + y)
      have HS := Hd hs
      have hhi : hi2 ≤ 1 := by omega
      have hmask : bits .and .u64 ((cy : Int) + (y : Int)) 4294967295 = (lo : Int) := by
       have := mask_low (cy + y) (by omega)
       rw [show ((cy + y : Nat) : Int) = (cy : Int) + (y : Int) by omega] at this
       rw [this]
       omega
      have f3 : IntKind.u32.wrap (lo : Int) = (lo : Int) := by rw [IntKind.wrap_u32]; omega
      have f4 : ((cy : Int) + (y : Int)) / 4294967296 = (hi2 : Int) := by omega
      clear hs
      go_wp2_with fail
      go_roundw
      case rel =>
       refine ⟨i + 1, hi2, d ++ [lo], by omega, by go_num, rfl, hhi, by simp [HL.out], HD.out.snoc hlo, ?_, ?_, gb_set HG.out (.inl (Nat.le_refl _)) _⟩
       ·rw [valN_snoc, HL.out, valN_take_zero xs i (by omega), valN_take_succ _ _ hy1, ← HYY.out, Nat.pow_succ]
        have := add_step (x := 0) (y := y) HV.out (by have := HS.out; omega : 0 + cy + y = lo + 4294967296 * hi2)
        omega
       ·have := HA.out.set i (lo : Int)
        rw [ints_set, set_pass _ _ _ _ HL.out (by simp; omega)] at this
        exact this
      case measure => simp [intOf]; omega
     ·skip
      have m1 : ¬ (i : Int) < (xs.length : Int) := by omega
      obtain ⟨x, hx0⟩ : ∃ x : Nat, x = 0 := ⟨_, rfl⟩
      have HX0 := Hd hx0
      clear hx0
      have m2 : ¬ (i : Int) < (ys.length : Int) := by omega
      obtain ⟨y, hy0⟩ : ∃ y : Nat, y = 0 := ⟨_, rfl⟩
      have HY0 := Hd hy0
      clear hy0
      obtain ⟨lo, hi2, hs, hlo⟩ := split_word (cy)
      have HS := Hd hs
      have hhi : hi2 ≤ 1 := by omega
      have hmask : bits .and .u64 (cy : Int) 4294967295 = (lo : Int) := by
       have := mask_low (cy) (by omega)
       rw [show ((cy : Nat) : Int) = (cy : Int) by omega] at this
       rw [this]
       omega
      have f3 : IntKind.u32.wrap (lo : Int) = (lo : Int) := by rw [IntKind.wrap_u32]; omega
      have f4 : (cy : Int) / 4294967296 = (hi2 : Int) := by omega
      clear hs
      go_wp2_with fail
      go_roundw
      case rel =>
       refine ⟨i + 1, hi2, d ++ [lo], by omega, by go_num, rfl, hhi, by simp [HL.out], HD.out.snoc hlo, ?_, ?_, gb_set HG.out (.inl (Nat.le_refl _)) _⟩
       ·rw [valN_snoc, HL.out, valN_take_zero xs i (by omega), valN_take_zero ys i (by omega), Nat.pow_succ]
        have := add_step (x := 0) (y := 0) HV.out (by have := HS.out; omega : 0 + cy + 0 = lo + 4294967296 * hi2)
        omega
       ·have := HA.out.set i (lo : Int)
        rw [ints_set, set_pass _ _ _ _ HL.out (by simp; omega)] at this
        exact this
      case measure => simp [intOf]; omega
   ·obtain rfl : i = N := by omega
    have n1 : ¬ (i : Int) ≤ (ys.length : Int) := by omega
    have HN := Hd hN
    clear hgb hN
    go_wp2_with fail
    have ha2 := HA.out
    rw [List.drop_of_length_le (by simp), List.append_nil] at ha2
    have hrd := Rd.of_arr ha2 HD.out
    rw [HL.out] at hrd
    have hrd2 : Rd wr (.slice (some ⟨w.heap.size, 0, none⟩) d.length i) d := by rw [HL.out]; exact hrd
    have htr := rtrim_rn hrd2 (by rw [HL.out]; have := HN.out; omega)
    rw [HL.out] at htr
    refine htr.mono ?_
    rintro e w' ⟨v, rfl, hv, hb⟩
    have hval : valN d = m + n := by
     have h1 := HV.out
     rw [valN_take_more xs i (by have := HN.out; omega), valN_take_more ys i (by have := HN.out; omega), HVX.out, HVY.out] at h1
     exact (plus_last h1 (by
      have := valN_lt xs HR.out.wd
      have h2 := valN_lt ys HR2.out.wd
      rw [HVX.out] at this
      rw [HVY.out] at h2
      exact sum_lt this h2 (by have := HN.out; omega) (by have := HN.out; omega))).1
    rw [hval] at hv
    have HBB := Hd (gb_to_below (gb_below HG.out hb))
    go_wp2_with fail
    go_ret
    exact ⟨_, rfl, hv, HBB.out⟩
 ·obtain ⟨N, hN⟩ : ∃ N : Nat, xs.length + 1 = N := ⟨_, rfl⟩
  have wl : IntKind.i64.wrap ((xs.length : Int) + 1) = ((N : Nat) : Int) := by rw [IntWalk.i64_in _ (by omega)]; omega
  have hmk := make_words 44 Tryz.underlying44 N (by omega)
  have hle : ¬ (xs.length : Int) < (ys.length : Int) := by omega
  go_wp2_with fail
  clear hmk wl hle
  have hw0 := gb_alloc (gb_refl w none) (zw N)
  have ha0 := zw_arr w N
  generalize w.alloc (zw N) = W0 at *
  go_loopw [7, 8] (fun vc vi wr => ∃ (i cy : Nat) (d : List Nat), i ≤ N ∧ vi = .int .i64 (i : Int) ∧ vc = .int .u64 (cy : Int) ∧ cy ≤ 1 ∧ d.length = i ∧ Wd d ∧
    valN d + cy * 4294967296 ^ i = valN (xs.take i) + valN (ys.take i) ∧ Arr .u32 wr w.heap.size 103 (ints (d ++ (List.replicate N 0).drop i)) ∧ w.grownBy wr none) (fun _ vi _ => N - (intOf vi).toNat)
  case atStart => exact ⟨0, 0, [], by omega, rfl, rfl, by omega, rfl, (fun x hx => (by cases hx)), by simp [valN], ha0, hw0⟩
  case round =>
   obtain ⟨i, cy, d, hi, rfl, rfl, hcy, hdl, hdw, hval, harr, hgb⟩ := hrel
   have HD := Hd hdw
   have HV := Hd hval
   have HA := Hd harr
   have HG := Hd hgb
   have HL := Hd hdl
   clear hdw hval harr hdl
   by_cases hlN : i < N
   ·have HRr := Hd (HR.out.gb hgb)
    have HRr2 := Hd (HR2.out.gb hgb)
    clear hgb
    have n1 : (i : Int) ≤ (xs.length : Int) := by omega
    have n3 : (i : Int).toNat = i := by omega
    have n4 : (0 : Int) ≤ (i : Int) := by omega
    have n5 : (i : Int) < ((N : Nat) : Int) := by omega
    have hlen : (ints (d ++ (List.replicate N 0).drop i)).length = N := by rw [ints_length]; simp [HL.out]; omega
    have hco := HA.out.cell i (by rw [hlen]; omega)
    have hfr := HA.out.frozen i
    obtain ⟨old, hold⟩ : ∃ old, old = (ints (d ++ (List.replicate N 0).drop i)).getD i 0 := ⟨_, rfl⟩
    rw [← hold] at hco
    clear hold
    have HN := Hd hN
    clear hN
    by_cases hx1 : i < xs.length
    ·by_cases hy1 : i < ys.length
     ·skip
      obtain ⟨g, o, rfl, hg, hcell⟩ := HRr.out.cell (j := i) hx1
      have m1 : (i : Int) < (xs.length : Int) := by omega
      have hx := nat_lt HR.out.wd i
      obtain ⟨x, hxx⟩ : ∃ x, x = nat xs i := ⟨_, rfl⟩
      rw [← hxx] at hx hcell
      have HXX := Hd hxx
      clear hxx
      have f0 : IntKind.u64.wrap (x : Int) = (x : Int) := IntWalk.u64_in _ (by omega)
      have f1 : IntKind.u64.wrap ((cy : Int) + (x : Int)) = (cy : Int) + (x : Int) := IntWalk.u64_in _ (by omega)
      obtain ⟨g2, o2, rfl, hg2, hcell2⟩ := HRr2.out.cell (j := i) hy1
      have m2 : (i : Int) < (ys.length : Int) := by omega
      have hy := nat_lt HR2.out.wd i
      obtain ⟨y, hyy⟩ : ∃ y, y = nat ys i := ⟨_, rfl⟩
      rw [← hyy] at hy hcell2
      have HYY := Hd hyy
      clear hyy
      have f00 : IntKind.u64.wrap (y : Int) = (y : Int) := IntWalk.u64_in _ (by omega)
      have f2 : IntKind.u64.wrap ((cy : Int) + (x : Int) + (y : Int)) = (cy : Int) + (x : Int) + (y : Int) := IntWalk.u64_in _ (by omega)
      obtain ⟨lo, hi2, hs, hlo⟩ := split_word (cy + x + y)
      have HS := Hd hs
      have hhi : hi2 ≤ 1 := by omega
      have hmask : bits .and .u64 ((cy : Int) + (x : Int) + (y : Int)) 4294967295 = (lo : Int) := by
       have := mask_low (cy + x + y) (by omega)
       rw [show ((cy + x + y : Nat) : Int) = (cy : Int) + (x : Int) + (y : Int) by omega] at this
       rw [this]
       omega
      have f3 : IntKind.u32.wrap (lo : Int) = (lo : Int) := by rw [IntKind.wrap_u32]; omega
      have f4 : ((cy : Int) + (x : Int) + (y : Int)) / 4294967296 = (hi2 : Int) := by omega
      clear hs
      go_wp2_with fail
      go_roundw
      case rel =>
       refine ⟨i + 1, hi2, d ++ [lo], by omega, by go_num, rfl, hhi, by simp [HL.out], HD.out.snoc hlo, ?_, ?_, gb_set HG.out (.inl (Nat.le_refl _)) _⟩
       ·rw [valN_snoc, HL.out, valN_take_succ _ _ hx1, valN_take_succ _ _ hy1, ← HXX.out, ← HYY.out, Nat.pow_succ]
        have := add_step (x := x) (y := y) HV.out (by have := HS.out; omega : x + cy + y = lo + 4294967296 * hi2)
        omega
       ·have := HA.out.set i (lo : Int)
        rw [ints_set, set_pass _ _ _ _ HL.out (by simp; omega)] at this
        exact this
      case measure => simp [intOf]; omega
     ·skip
      obtain ⟨g, o, rfl, hg, hcell⟩ := HRr.out.cell (j := i) hx1
      have m1 : (i : Int) < (xs.length : Int) := by omega
      have hx := nat_lt HR.out.wd i
      obtain ⟨x, hxx⟩ : ∃ x, x = nat xs i := ⟨_, rfl⟩
      rw [← hxx] at hx hcell
      have HXX := Hd hxx
      clear hxx
      have f0 : IntKind.u64.wrap (x : Int) = (x : Int) := IntWalk.u64_in _ (by omega)
      have f1 : IntKind.u64.wrap ((cy : Int) + (x : Int)) = (cy : Int) + (x : Int) := IntWalk.u64_in _ (by omega)
      have m2 : ¬ (i : Int) < (ys.length : Int) := by omega
      obtain ⟨y, hy0⟩ : ∃ y : Nat, y = 0 := ⟨_, rfl⟩
      have HY0 := Hd hy0
      clear hy0
      obtain ⟨lo, hi2, hs, hlo⟩ := split_word (cy + x)
      have HS := Hd hs
      have hhi : hi2 ≤ 1 := by omega
      have hmask : bits .and .u64 ((cy : Int) + (x : Int)) 4294967295 = (lo : Int) := by
       have := mask_low (cy + x) (by omega)
       rw [show ((cy + x : Nat) : Int) = (cy : Int) + (x : Int) by omega] at this
       rw [this]
       omega
      have f3 : IntKind.u32.wrap (lo : Int) = (lo : Int) := by rw [IntKind.wrap_u32]; omega
      have f4 : ((cy : Int) + (x : Int)) / 4294967296 = (hi2 : Int) := by omega
      clear hs
      go_wp2_with fail
      go_roundw
      case rel =>
       refine ⟨i + 1, hi2, d ++ [lo], by omega, by go_num, rfl, hhi, by simp [HL.out], HD.out.snoc hlo, ?_, ?_, gb_set HG.out (.inl (Nat.le_refl _)) _⟩
       ·rw [valN_snoc, HL.out, valN_take_succ _ _ hx1, valN_take_zero ys i (by omega), ← HXX.out, Nat.pow_succ]
        have := add_step (x := x) (y := 0) HV.out (by have := HS.out; omega : x + cy + 0 = lo + 4294967296 * hi2)
        omega
       ·have := HA.out.set i (lo : Int)
        rw [ints_set, set_pass _ _ _ _ HL.out (by simp; omega)] at this
        exact this
      case measure => simp [intOf]; omega
    ·by_cases hy1 : i < ys.length
     ·omega
     ·skip
      have m1 : ¬ (i : Int) < (xs.length : Int) := by omega
      obtain ⟨x, hx0⟩ : ∃ x : Nat, x = 0 := ⟨_, rfl⟩
      have HX0 := Hd hx0
      clear hx0
      have m2 : ¬ (i : Int) < (ys.length : Int) := by omega
      obtain ⟨y, hy0⟩ : ∃ y : Nat, y = 0 := ⟨_, rfl⟩
      have HY0 := Hd hy0
      clear hy0
      obtain ⟨lo, hi2, hs, hlo⟩ := split_word (cy)
      have HS := Hd hs
      have hhi : hi2 ≤ 1 := by omega
      have hmask : bits .and .u64 (cy : Int) 4294967295 = (lo : Int) := by
       have := mask_low (cy) (by omega)
       rw [show ((cy : Nat) : Int) = (cy : Int) by omega] at this
       rw [this]
       omega
      have f3 : IntKind.u32.wrap (lo : Int) = (lo : Int) := by rw [IntKind.wrap_u32]; omega
      have f4 : (cy : Int) / 4294967296 = (hi2 : Int) := by omega
      clear hs
      go_wp2_with fail
      go_roundw
      case rel =>
       refine ⟨i + 1, hi2, d ++ [lo], by omega, by go_num, rfl, hhi, by simp [HL.out], HD.out.snoc hlo, ?_, ?_, gb_set HG.out (.inl (Nat.le_refl _)) _⟩
       ·rw [valN_snoc, HL.out, valN_take_zero xs i (by omega), valN_take_zero ys i (by omega), Nat.pow_succ]
        have := add_step (x := 0) (y := 0) HV.out (by have := HS.out; omega : 0 + cy + 0 = lo + 4294967296 * hi2)
        omega
       ·have := HA.out.set i (lo : Int)
        rw [ints_set, set_pass _ _ _ _ HL.out (by simp; omega)] at this
        exact this
      case measure => simp [intOf]; omega
   ·obtain rfl : i = N := by omega
    have n1 : ¬ (i : Int) ≤ (xs.length : Int) := by omega
    have HN := Hd hN
    clear hgb hN
    go_wp2_with fail
    have ha2 := HA.out
    rw [List.drop_of_length_le (by simp), List.append_nil] at ha2
    have hrd := Rd.of_arr ha2 HD.out
    rw [HL.out] at hrd
    have hrd2 : Rd wr (.slice (some ⟨w.heap.size, 0, none⟩) d.length i) d := by rw [HL.out]; exact hrd
    have htr := rtrim_rn hrd2 (by rw [HL.out]; have := HN.out; omega)
    rw [HL.out] at htr
    refine htr.mono ?_
    rintro e w' ⟨v, rfl, hv, hb⟩
    have hval : valN d = m + n := by
     have h1 := HV.out
     rw [valN_take_more xs i (by have := HN.out; omega), valN_take_more ys i (by have := HN.out; omega), HVX.out, HVY.out] at h1
     exact (plus_last h1 (by
      have := valN_lt xs HR.out.wd
      have h2 := valN_lt ys HR2.out.wd
      rw [HVX.out] at this
      rw [HVY.out] at h2
      exact sum_lt this h2 (by have := HN.out; omega) (by have := HN.out; omega))).1
    rw [hval] at hv
    have HBB := Hd (gb_to_below (gb_below HG.out hb))
    go_wp2_with fail
    go_ret
    exact ⟨_, rfl, hv, HBB.out⟩
set_option maxHeartbeats 8000000 in
set_option maxRecDepth 100000 in
theorem rminus_calls (w : World) (v v2 : Value) (m n : Nat) (h : RN w v m) (h2 : RN w v2 n) (hm : wlen m ≤ 100000000000) (hle : n ≤ m) :
  Calls Tryz.prog 142 #[v, v2] w fun e w' => WPost w (m - n) e w' := by
 obtain ⟨A, c, xs, rfl, hc, HX, HR⟩ := h.opened
 obtain ⟨A2, c2, ys, rfl, hc2, HY, HR2⟩ := h2.opened
 clear h h2
 have hlx : xs.length ≤ 100000000000 := by rw [HX.out]; exact hm
 have hlyx : ys.length ≤ xs.length := by rw [HX.out, HY.out]; exact wlen_mono hle
 have HVX : Hid (valN xs = m) := by unfold Hid; rw [HX.out, valN_dg]
 have HVY : Hid (valN ys = n) := by unfold Hid; rw [HY.out, valN_dg]
 clear HX HY hm
 go_enter Tryz.func142, Tryz.ntmps142
 have hmk := make_words 44 Tryz.underlying44 xs.length (by omega)
 go_wp2_with fail
 clear hmk
 have hw0 := gb_alloc (gb_refl w none) (zw xs.length)
 have ha0 := zw_arr w xs.length
 generalize w.alloc (zw xs.length) = W0 at *
 go_loopw [6, 7] (fun vc vi wr => ∃ (i bw : Nat) (d : List Nat), i ≤ xs.length ∧ vi = .int .i64 (i : Int) ∧ vc = .int .u64 (bw : Int) ∧ bw ≤ 1 ∧ d.length = i ∧ Wd d ∧
   valN (xs.take i) + bw * 4294967296 ^ i = valN d + valN (ys.take i) ∧ Arr .u32 wr w.heap.size 103 (ints (d ++ (List.replicate xs.length 0).drop i)) ∧ w.grownBy wr none) (fun _ vi _ => xs.length - (intOf vi).toNat)
 case atStart => exact ⟨0, 0, [], by omega, rfl, rfl, by omega, rfl, (fun x hx => (by cases hx)), by simp [valN], ha0, hw0⟩
 case round =>
  obtain ⟨i, bw, d, hi, rfl, rfl, hbw, hdl, hdw, hval, harr, hgb⟩ := hrel
  have HD := Hd hdw
  have HV := Hd hval
  have HA := Hd harr
  have HG := Hd hgb
  have HL := Hd hdl
  clear hdw hval harr hdl
  by_cases hlx2 : i < xs.length
  ·have HRr := Hd (HR.out.gb hgb)
   have HRr2 := Hd (HR2.out.gb hgb)
   clear hgb
   obtain ⟨g, o, rfl, hg, hcell⟩ := HRr.out.cell (j := i) hlx2
   have n1 : (i : Int) < (xs.length : Int) := by omega
   have n3 : (i : Int).toNat = i := by omega
   have n4 : (0 : Int) ≤ (i : Int) := by omega
   have hx := nat_lt HR.out.wd i
   obtain ⟨x, hxx⟩ : ∃ x, x = nat xs i := ⟨_, rfl⟩
   rw [← hxx] at hx hcell
   have HXX := Hd hxx
   clear hxx
   have hlen : (ints (d ++ (List.replicate xs.length 0).drop i)).length = xs.length := by rw [ints_length]; simp [HL.out]; omega
   have hco := HA.out.cell i (by rw [hlen]; omega)
   have hfr := HA.out.frozen i
   obtain ⟨old, hold⟩ : ∃ old, old = (ints (d ++ (List.replicate xs.length 0).drop i)).getD i 0 := ⟨_, rfl⟩
   rw [← hold] at hco
   clear hold
   have f0 : IntKind.u64.wrap (x : Int) = (x : Int) := IntWalk.u64_in _ (by omega)
   by_cases hly2 : i < ys.length
   ·obtain ⟨g2, o2, rfl, hg2, hcell2⟩ := HRr2.out.cell (j := i) hly2
    have m1 : (i : Int) < (ys.length : Int) := by omega
    have hy := nat_lt HR2.out.wd i
    obtain ⟨y, hyy⟩ : ∃ y, y = nat ys i := ⟨_, rfl⟩
    rw [← hyy] at hy hcell2
    have HYY := Hd hyy
    clear hyy
    have f00 : IntKind.u64.wrap (y : Int) = (y : Int) := IntWalk.u64_in _ (by omega)
    have f1 : IntKind.u64.wrap ((bw : Int) + (y : Int)) = (bw : Int) + (y : Int) := IntWalk.u64_in _ (by omega)
    by_cases hxt : x < bw + y
    ·skip
     have q1 : decide ((x : Int) < (bw : Int) + (y : Int)) = true := decide_eq_true (by omega)
     obtain ⟨lo, hs⟩ : ∃ lo, x + 1 * 4294967296 = lo + (bw + y) := ⟨x + 1 * 4294967296 - (bw + y), by omega⟩
     have hlo : lo < 4294967296 := by omega
     have HS := Hd hs
     have f5 : IntKind.u64.wrap ((x : Int) + 4294967296) = (x : Int) + 4294967296 := IntWalk.u64_in _ (by omega)
     have f6 : IntKind.u64.wrap ((x : Int) + 4294967296 - ((bw : Int) + (y : Int))) = (lo : Int) := by rw [IntWalk.u64_in _ (by omega)]; omega
     have f7 := mask_word hlo
     have f8 : IntKind.u32.wrap (lo : Int) = (lo : Int) := by rw [IntKind.wrap_u32]; omega
     clear hs
     go_wp2_with fail
     go_roundw
     case rel =>
      refine ⟨i + 1, 1, d ++ [lo], by omega, by go_num, rfl, by omega, by simp [HL.out], HD.out.snoc hlo, ?_, ?_, gb_set HG.out (.inl (Nat.le_refl _)) _⟩
      ·rw [valN_snoc, HL.out, valN_take_succ _ _ hlx2, valN_take_succ _ _ hly2, ← HXX.out, ← HYY.out, Nat.pow_succ]
       exact sub_step HV.out HS.out
      ·have := HA.out.set i (lo : Int)
       rw [ints_set, set_pass _ _ _ _ HL.out (by simp; omega)] at this
       exact this
     case measure => simp [intOf]; omega
    ·skip
     have q1 : decide ((x : Int) < (bw : Int) + (y : Int)) = false := decide_eq_false (by omega)
     obtain ⟨lo, hs⟩ : ∃ lo, x + 0 * 4294967296 = lo + (bw + y) := ⟨x + 0 * 4294967296 - (bw + y), by omega⟩
     have hlo : lo < 4294967296 := by omega
     have HS := Hd hs
     have f6 : IntKind.u64.wrap ((x : Int) - ((bw : Int) + (y : Int))) = (lo : Int) := by rw [IntWalk.u64_in _ (by omega)]; omega
     have f7 := mask_word hlo
     have f8 : IntKind.u32.wrap (lo : Int) = (lo : Int) := by rw [IntKind.wrap_u32]; omega
     clear hs
     go_wp2_with fail
     go_roundw
     case rel =>
      refine ⟨i + 1, 0, d ++ [lo], by omega, by go_num, rfl, by omega, by simp [HL.out], HD.out.snoc hlo, ?_, ?_, gb_set HG.out (.inl (Nat.le_refl _)) _⟩
      ·rw [valN_snoc, HL.out, valN_take_succ _ _ hlx2, valN_take_succ _ _ hly2, ← HXX.out, ← HYY.out, Nat.pow_succ]
       exact sub_step HV.out HS.out
      ·have := HA.out.set i (lo : Int)
       rw [ints_set, set_pass _ _ _ _ HL.out (by simp; omega)] at this
       exact this
     case measure => simp [intOf]; omega
   ·have m1 : ¬ (i : Int) < (ys.length : Int) := by omega
    by_cases hxt : x < bw
    ·skip
     have q1 : decide ((x : Int) < (bw : Int)) = true := decide_eq_true (by omega)
     obtain ⟨lo, hs⟩ : ∃ lo, x + 1 * 4294967296 = lo + (bw + 0) := ⟨x + 1 * 4294967296 - (bw + 0), by omega⟩
     have hlo : lo < 4294967296 := by omega
     have HS := Hd hs
     have f5 : IntKind.u64.wrap ((x : Int) + 4294967296) = (x : Int) + 4294967296 := IntWalk.u64_in _ (by omega)
     have f6 : IntKind.u64.wrap ((x : Int) + 4294967296 - (bw : Int)) = (lo : Int) := by rw [IntWalk.u64_in _ (by omega)]; omega
     have f7 := mask_word hlo
     have f8 : IntKind.u32.wrap (lo : Int) = (lo : Int) := by rw [IntKind.wrap_u32]; omega
     clear hs
     go_wp2_with fail
     go_roundw
     case rel =>
      refine ⟨i + 1, 1, d ++ [lo], by omega, by go_num, rfl, by omega, by simp [HL.out], HD.out.snoc hlo, ?_, ?_, gb_set HG.out (.inl (Nat.le_refl _)) _⟩
      ·have e0 := HV.out
       rw [valN_take_more ys i (by omega)] at e0
       rw [valN_snoc, HL.out, valN_take_succ _ _ hlx2, valN_take_more ys (i + 1) (by omega), ← HXX.out, Nat.pow_succ]
       have := sub_step (y := 0) e0 HS.out
       omega
      ·have := HA.out.set i (lo : Int)
       rw [ints_set, set_pass _ _ _ _ HL.out (by simp; omega)] at this
       exact this
     case measure => simp [intOf]; omega
    ·skip
     have q1 : decide ((x : Int) < (bw : Int)) = false := decide_eq_false (by omega)
     obtain ⟨lo, hs⟩ : ∃ lo, x + 0 * 4294967296 = lo + (bw + 0) := ⟨x + 0 * 4294967296 - (bw + 0), by omega⟩
     have hlo : lo < 4294967296 := by omega
     have HS := Hd hs
     have f6 : IntKind.u64.wrap ((x : Int) - (bw : Int)) = (lo : Int) := by rw [IntWalk.u64_in _ (by omega)]; omega
     have f7 := mask_word hlo
     have f8 : IntKind.u32.wrap (lo : Int) = (lo : Int) := by rw [IntKind.wrap_u32]; omega
     clear hs
     go_wp2_with fail
     go_roundw
     case rel =>
      refine ⟨i + 1, 0, d ++ [lo], by omega, by go_num, rfl, by omega, by simp [HL.out], HD.out.snoc hlo, ?_, ?_, gb_set HG.out (.inl (Nat.le_refl _)) _⟩
      ·have e0 := HV.out
       rw [valN_take_more ys i (by omega)] at e0
       rw [valN_snoc, HL.out, valN_take_succ _ _ hlx2, valN_take_more ys (i + 1) (by omega), ← HXX.out, Nat.pow_succ]
       have := sub_step (y := 0) e0 HS.out
       omega
      ·have := HA.out.set i (lo : Int)
       rw [ints_set, set_pass _ _ _ _ HL.out (by simp; omega)] at this
       exact this
     case measure => simp [intOf]; omega
  ·obtain rfl : i = xs.length := by omega
   go_wp2_with fail
   have ha2 := HA.out
   rw [List.drop_of_length_le (by simp), List.append_nil] at ha2
   have hrd := Rd.of_arr ha2 HD.out
   rw [HL.out] at hrd
   have hrd2 : Rd wr (.slice (some ⟨w.heap.size, 0, none⟩) d.length xs.length) d := by rw [HL.out]; exact hrd
   have htr := rtrim_rn hrd2 (by rw [HL.out]; omega)
   rw [HL.out] at htr
   refine htr.mono ?_
   rintro e w' ⟨v, rfl, hv, hb⟩
   have hval : valN d = m - n := by
    have h1 := HV.out
    have h2 := valN_lt d HD.out
    rw [valN_take_more ys xs.length (by omega), List.take_length, HVX.out, HVY.out] at h1
    rw [HL.out] at h2
    exact sub_end h1 h2 hle hbw
   rw [hval] at hv
   have HBB := Hd (gb_to_below (gb_below HG.out hb))
   go_wp2_with fail
   go_ret
   exact ⟨_, rfl, hv, HBB.out⟩
set_option maxHeartbeats 8000000 in
set_option maxRecDepth 100000 in
theorem rhalves_calls (w : World) (v : Value) (m d : Nat) (h : RN w v m) (hm : wlen m ≤ 100000000000) (hd : 0 < d) (hd2 : d < 4294967296) :
  Calls Tryz.prog 158 #[v, .int .u32 d] w fun e w' => ShortPost w m d e w' := by
 obtain ⟨A, c, xs, rfl, hc, HX, HR⟩ := h.opened
 clear h
 have hlx : xs.length ≤ 100000000000 := by rw [HX.out]; exact hm
 have HVX : Hid (valN xs = m) := by unfold Hid; rw [HX.out, valN_dg]
 clear HX hm
 go_enter Tryz.func158, Tryz.ntmps158
 have hmk := make_words 44 Tryz.underlying44 xs.length (by omega)
 go_wp2_with fail
 clear hmk
 have hw0 := gb_alloc (gb_refl w none) (zw xs.length)
 have ha0 := zw_arr w xs.length
 generalize w.alloc (zw xs.length) = W0 at *
 go_loopw [7, 8] (fun vr vi wr => ∃ (k rest : Nat) (q : List Nat), k ≤ xs.length ∧ vi = .int .i64 ((k : Int) - 1) ∧ vr = .int .u64 (rest : Int) ∧ rest < d ∧ q.length = xs.length - k ∧ Wd q ∧
   valN (xs.drop k) = d * valN q + rest ∧ Arr .u32 wr w.heap.size 103 (ints (List.replicate k 0 ++ q)) ∧ w.grownBy wr none) (fun _ vi _ => (intOf vi + 1).toNat)
 case atStart => exact ⟨xs.length, 0, [], Nat.le_refl _, by go_num, rfl, hd, by simp, (fun x hx => (by cases hx)), by simp [valN], by rw [List.append_nil]; exact ha0, hw0⟩
 case round =>
  obtain ⟨k, rest, q, hk, rfl, rfl, hrest, hql, hqw, hval, harr, hgb⟩ := hrel
  have HD := Hd hqw
  have HV := Hd hval
  have HA := Hd harr
  have HG := Hd hgb
  have HL := Hd hql
  clear hqw hval harr hql
  by_cases h0 : 0 < k
  ·have HRr := Hd (HR.out.gb hgb)
   clear hgb
   obtain ⟨g, o, rfl, hg, hcell⟩ := HRr.out.cell (j := k - 1) (by omega)
   have n1 : (k : Int) - 1 ≥ 0 := by omega
   have n2 : ((k : Int) - 1).toNat = k - 1 := by omega
   have n4 : (k : Int) - 1 < (xs.length : Int) := by omega
   have hx := nat_lt HR.out.wd (k - 1)
   obtain ⟨x, hxx⟩ : ∃ x, x = nat xs (k - 1) := ⟨_, rfl⟩
   rw [← hxx] at hx hcell
   have HXX := Hd hxx
   clear hxx
   have hlen : (ints (List.replicate k 0 ++ q)).length = xs.length := by rw [ints_length]; simp [HL.out]; omega
   have hco := HA.out.cell (k - 1) (by rw [hlen]; omega)
   have hfr := HA.out.frozen (k - 1)
   obtain ⟨old, hold⟩ : ∃ old, old = (ints (List.replicate k 0 ++ q)).getD (k - 1) 0 := ⟨_, rfl⟩
   rw [← hold] at hco
   clear hold
   have f0 : IntKind.u64.wrap (x : Int) = (x : Int) := IntWalk.u64_in _ (by omega)
   have f1 : IntKind.u64.wrap (d : Int) = (d : Int) := IntWalk.u64_in _ (by omega)
   have f2 : IntKind.u64.wrap ((rest : Int) * 4294967296) = (rest : Int) * 4294967296 := IntWalk.u64_in _ (by omega)
   have hor := or_word rest x (by omega) hx
   obtain ⟨z, hz⟩ : ∃ z, z = rest * 4294967296 + x := ⟨_, rfl⟩
   rw [← hz] at hor
   obtain ⟨qq, rr, hqr, hrr, hqq⟩ := short_step hd (show z < d * 4294967296 by have := Nat.mul_le_mul_right 4294967296 (show rest + 1 ≤ d by omega); omega)
   have hz64 : z < 18446744073709551616 := by omega
   have g1 : (z : Int) / (d : Int) = (qq : Int) := by rw [← Int.natCast_ediv, hqr.1]
   have g2 : (z : Int) % (d : Int) = (rr : Int) := by rw [← Int.natCast_emod, hqr.2]
   have g3 : (z : Int).tdiv (d : Int) = (qq : Int) := by rw [Int.tdiv_eq_ediv_of_nonneg (by omega), g1]
   have g4 : (z : Int).tmod (d : Int) = (rr : Int) := by rw [Int.tmod_eq_emod_of_nonneg (by omega), g2]
   have hqr2 : z = d * qq + rr := by rw [← hqr.1, ← hqr.2]; exact (Nat.div_add_mod z d).symm
   have f3 : IntKind.u64.wrap (qq : Int) = (qq : Int) := IntWalk.u64_in _ (by omega)
   have f4 : IntKind.u64.wrap (rr : Int) = (rr : Int) := IntWalk.u64_in _ (by omega)
   have f5 : IntKind.u32.wrap (qq : Int) = (qq : Int) := by rw [IntKind.wrap_u32]; omega
   have d0 : ((d : Int) == 0) = false := by
    have : (d : Int) ≠ 0 := by omega
    simpa using this
   have d1 : (d : Int) ≠ 0 := by omega
   have nw : IntKind.i64.wrap ((k : Int) - 1 - 1) = (k : Int) - 1 - 1 := IntWalk.i64_in _ (by omega)
   have HZ := Hd hz
   have HQR := Hd hqr2
   clear hz hqr hqr2
   go_wp2_with fail
   go_roundw
   case rel =>
    refine ⟨k - 1, rr, qq :: q, by omega, by go_num, rfl, hrr, by rw [List.length_cons, HL.out]; omega, ?_, ?_, ?_, gb_set HG.out (.inl (Nat.le_refl _)) _⟩
    ·intro y hy
     rcases List.mem_cons.1 hy with rfl | hy
     ·exact hqq
     ·exact HD.out y hy
    ·rw [valN_drop _ _ (by omega), show k - 1 + 1 = k by omega, HV.out, valN, ← HXX.out]
     have h1 := HZ.out
     have h2 := HQR.out
     grind
    ·have := HA.out.set (k - 1) (qq : Int)
     rw [ints_set] at this
     rw [show List.replicate k 0 = List.replicate (k - 1) 0 ++ [0] by rw [← List.replicate_succ', show k - 1 + 1 = k by omega], List.append_assoc, List.set_append_right _ _ (by simp)] at this
     simp only [List.length_replicate, Nat.sub_self, List.cons_append, List.nil_append, List.set_cons_zero] at this
     exact this
   case measure => simp [intOf]; omega
  ·obtain rfl : k = 0 := by omega
   have ha2 := HA.out
   rw [List.replicate_zero, List.nil_append] at ha2
   have hql : q.length = xs.length := by have := HL.out; omega
   have hrd := Rd.of_arr ha2 HD.out
   have HRD := Hd (show Rd wr (.slice (some ⟨w.heap.size, 0, none⟩) q.length xs.length) q by rw [hql] at hrd ⊢; exact hrd)
   have HQL := Hd hql
   clear ha2 hrd hql hgb
   have f4 : IntKind.u32.wrap (rest : Int) = (rest : Int) := by rw [IntKind.wrap_u32]; omega
   go_wp2_with fail
   have htr := rtrim_rn HRD.out (by rw [HQL.out]; omega)
   rw [HQL.out] at htr
   refine htr.mono ?_
   rintro e w' ⟨v, rfl, hv, hb⟩
   have hval : m = d * valN q + rest := by
    have := HV.out
    rw [List.drop_zero, HVX.out] at this
    exact this
   have hq : valN q = m / d := by
    rw [hval, Nat.add_comm, Nat.add_mul_div_left _ _ hd, Nat.div_eq_of_lt hrest, Nat.zero_add]
   have hr : rest = m % d := by
    rw [hval, Nat.mul_add_mod, Nat.mod_eq_of_lt hrest]
   rw [hq] at hv
   have HBB := Hd (gb_to_below (gb_below HG.out hb))
   have HRR := Hd hr
   clear hq hr hval
   go_wp2_with fail
   go_ret2
   exact ⟨_, by rw [← HRR.out]; rfl, hv, HBB.out⟩
theorem mask_any {a : Int} {lo hi : Nat} (h : a = (lo : Int) + 4294967296 * (hi : Int)) (hlo : lo < 4294967296) (hhi : hi < 4294967296) : bits .and .u64 a 4294967295 = (lo : Int) := by
 have := mask_low (lo + 4294967296 * hi) (by omega)
 rw [show ((lo + 4294967296 * hi : Nat) : Int) = a by omega] at this
 rw [this]
 omega
set_option maxHeartbeats 8000000 in
set_option maxRecDepth 100000 in
theorem rtimes_calls (w : World) (v v2 : Value) (m n : Nat) (h : RN w v m) (h2 : RN w v2 n) (hm : wlen m ≤ 100000000000) (hn : wlen n ≤ 100000000000) :
  Calls Tryz.prog 72 #[v, v2] w fun e w' => WPost w (m * n) e w' := by
 obtain ⟨A, c, xs, rfl, hc, HX, HR⟩ := h.opened
 obtain ⟨A2, c2, ys, rfl, hc2, HY, HR2⟩ := h2.opened
 clear h h2
 have hlx : xs.length ≤ 100000000000 := by rw [HX.out]; exact hm
 have hly : ys.length ≤ 100000000000 := by rw [HY.out]; exact hn
 have HVX : Hid (valN xs = m) := by unfold Hid; rw [HX.out, valN_dg]
 have HVY : Hid (valN ys = n) := by unfold Hid; rw [HY.out, valN_dg]
 clear hm hn
 obtain ⟨w3, hw3⟩ : ∃ w3, w3 = w := ⟨_, rfl⟩
 rw [← hw3] at HR HR2 ⊢
 have HB3 : Hid (Below w3.heap.size w3 w3) := Below.refl _ _
 clear hw3
 go_enter Tryz.func72, Tryz.ntmps72
 obtain ⟨N, hN⟩ : ∃ N : Nat, xs.length + ys.length = N := ⟨_, rfl⟩
 have wl : IntKind.i64.wrap ((xs.length : Int) + (ys.length : Int)) = ((N : Nat) : Int) := by rw [IntWalk.i64_in _ (by omega)]; omega
 have hmk := make_words 44 Tryz.underlying44 N (by omega)
 go_wp2_with fail
 clear hmk wl
 have hw0 := gb_alloc (gb_refl w3 none) (zw N)
 have ha0 := zw_arr w3 N
 generalize w3.alloc (zw N) = W0 at *
 go_loopw [6] (fun vi wr => ∃ (i : Nat) (d : List Nat), i ≤ xs.length ∧ vi = .int .i64 (i : Int) ∧ d.length = i + ys.length ∧ Wd d ∧
   valN d = valN (xs.take i) * valN ys ∧ Arr .u32 wr w3.heap.size 103 (ints (d ++ List.replicate (xs.length - i) 0)) ∧ w3.grownBy wr none) (fun vi _ => xs.length - (intOf vi).toNat)
 case atStart => exact ⟨0, List.replicate ys.length 0, by omega, rfl, by simp, Wd_zeros _, by simp [valN, valN_zeros], (by rw [List.replicate_append_replicate, show ys.length + (xs.length - 0) = N by omega]; exact ha0), hw0⟩
 case round =>
  obtain ⟨i, d, hi, rfl, hdl, hdw, hval, harr, hgb⟩ := hrel
  have HD := Hd hdw
  have HV := Hd hval
  have HA := Hd harr
  have HG := Hd hgb
  have HL := Hd hdl
  clear hdw hval harr hdl
  by_cases hlx2 : i < xs.length
  ·have HRr := Hd (HR.out.gb hgb)
   clear hgb
   obtain ⟨g, o, rfl, hg, hcell⟩ := HRr.out.cell (j := i) hlx2
   have n1 : (i : Int) < (xs.length : Int) := by omega
   have n3 : (i : Int).toNat = i := by omega
   have n4 : (0 : Int) ≤ (i : Int) := by omega
   have hx := nat_lt HR.out.wd i
   obtain ⟨x, hxx⟩ : ∃ x, x = nat xs i := ⟨_, rfl⟩
   rw [← hxx] at hx hcell
   have HXX := Hd hxx
   clear hxx
   obtain ⟨P, mid, hPm, hPl, hml⟩ : ∃ P mid, d = P ++ mid ∧ P.length = i ∧ mid.length = ys.length := ⟨d.take i, d.drop i, (List.take_append_drop i d).symm, by rw [List.length_take, HL.out]; omega, by rw [List.length_drop, HL.out]; omega⟩
   have HPM := Hd hPm
   have HPL := Hd hPl
   have HML := Hd hml
   have HWP : Hid (Wd P) := (hPm ▸ HD.out).left
   have HWM : Hid (Wd mid) := (hPm ▸ HD.out).right
   have HA2 : Hid (Arr .u32 wr w3.heap.size 103 (ints (P ++ mid ++ List.replicate (xs.length - i) 0))) := by have := HA.out; rw [hPm] at this; exact this
   clear hPm hPl hml HA HL
   have s1 : IntKind.i64.wrap ((i : Int) + (ys.length : Int)) = (i : Int) + (ys.length : Int) := IntWalk.i64_in _ (by omega)
   go_wp2_with fail
   go_loopw [7, 8] (fun vc vk wr => ∃ (k cy : Nat) (dn : List Nat), k ≤ ys.length ∧ vk = .int .i64 (k : Int) ∧ vc = .int .u64 (cy : Int) ∧ cy < 4294967296 ∧ dn.length = k ∧ Wd dn ∧
     valN dn + cy * 4294967296 ^ k = valN (mid.take k) + x * valN (ys.take k) ∧ Arr .u32 wr w3.heap.size 103 (ints (P ++ (dn ++ mid.drop k) ++ List.replicate (xs.length - i) 0)) ∧ w3.grownBy wr none) (fun _ vk _ => ys.length - (intOf vk).toNat)
   case atStart => exact ⟨0, 0, [], by omega, rfl, rfl, by omega, rfl, (fun x hx => (by cases hx)), by simp [valN], HA2.out, HG.out⟩
   case round =>
    obtain ⟨k, cy, dn, hk, rfl, rfl, hcy, hdnl, hdnw, hdval, hkarr, hkgb⟩ := hrel
    have HDN := Hd hdnw
    have HDV := Hd hdval
    have HKA := Hd hkarr
    have HKG := Hd hkgb
    have HDL := Hd hdnl
    have hmlen : (dn ++ mid.drop k).length = ys.length := by rw [List.length_append, List.length_drop, HDL.out, HML.out]; omega
    clear hdnw hdval hkarr hdnl
    by_cases hky : k < ys.length
    ·have HRk2 := Hd (HR2.out.gb hkgb)
     have HRk1 := Hd (HR.out.gb hkgb)
     clear hkgb
     obtain ⟨g2, o2, rfl, hg2, hcell2⟩ := HRk2.out.cell (j := k) hky
     obtain ⟨g3, o3, e3, hg3, hcell3⟩ := HRk1.out.cell (j := i) hlx2
     injection e3 with e3
     injection e3 with e31 e32
     subst e31
     subst e32
     rw [← HXX.out] at hcell3
     have k1 : (k : Int) < (ys.length : Int) := by omega
     have k3 : (k : Int).toNat = k := by omega
     have k4 : (0 : Int) ≤ (k : Int) := by omega
     have hy := nat_lt HR2.out.wd k
     obtain ⟨y, hyy⟩ : ∃ y, y = nat ys k := ⟨_, rfl⟩
     rw [← hyy] at hy hcell2
     have HYY := Hd hyy
     clear hyy
     have hmk := nat_lt HWM.out k
     obtain ⟨mk, hmkk⟩ : ∃ mk, mk = nat mid k := ⟨_, rfl⟩
     rw [← hmkk] at hmk
     have HMK := Hd hmkk
     clear hmkk
     have hco : wr.cell? ⟨w3.heap.size, i + k, none⟩ = some (.int .u32 (mk : Int)) := by
      have h1 := HKA.out.cell (i + k) (by rw [ints_length, List.length_append, List.length_append, hmlen, HPL.out]; simp; omega)
      have h2 := nth_ints (P ++ (dn ++ mid.drop k) ++ List.replicate (xs.length - i) 0) (i + k)
      unfold nth at h2
      rw [h1, h2, ← HPL.out, nat_mid _ _ _ _ (by rw [hmlen]; omega), nat_pass _ _ _ HDL.out, ← HMK.out]
     have hfr := HKA.out.frozen (i + k)
     obtain ⟨p, hp⟩ : ∃ p, p = x * y := ⟨_, rfl⟩
     have hple := mul_le_word hx hy
     have f3 := mul_wrap hx hy hp
     rw [← hp] at hple
     have HP := Hd hp
     clear hp
     obtain ⟨lo, hi2, hs, hlo⟩ := split_word (p + mk + cy)
     have HS := Hd hs
     have hhi : hi2 < 4294967296 := by omega
     have f0 : IntKind.u64.wrap (x : Int) = (x : Int) := IntWalk.u64_in _ (by omega)
     have f1 : IntKind.u64.wrap (y : Int) = (y : Int) := IntWalk.u64_in _ (by omega)
     have f2 : IntKind.u64.wrap (mk : Int) = (mk : Int) := IntWalk.u64_in _ (by omega)
     have f4 : IntKind.u64.wrap ((p : Int) + (mk : Int)) = (p : Int) + (mk : Int) := IntWalk.u64_in _ (by omega)
     have f5 : IntKind.u64.wrap ((p : Int) + (mk : Int) + (cy : Int)) = ((p : Int) + (mk : Int) + (cy : Int)) := IntWalk.u64_in _ (by omega)
     have f7 : ((p : Int) + (mk : Int) + (cy : Int)) / 4294967296 = (hi2 : Int) := by omega
     have f6 : bits .and .u64 ((p : Int) + (mk : Int) + (cy : Int)) 4294967295 = (lo : Int) := mask_any (by omega) hlo hhi
     have f8 : IntKind.u32.wrap (lo : Int) = (lo : Int) := by rw [IntKind.wrap_u32]; omega
     have k5 : IntKind.i64.wrap ((i : Int) + (k : Int)) = (i : Int) + (k : Int) := IntWalk.i64_in _ (by omega)
     have k6 : (i : Int) + (k : Int) < (N : Int) := by omega
     have k7 : ((i : Int) + (k : Int)).toNat = i + k := by omega
     have k8 : i + k < N := by omega
     have k9 : 0 ≤ (i : Int) + (k : Int) := by omega
     clear hs
     go_wp2_with fail
     go_quiet (fail)
     go_wp2_with fail
     go_roundw
     case rel =>
      refine ⟨k + 1, hi2, dn ++ [lo], by omega, by go_num, rfl, hhi, by simp [HDL.out], HDN.out.snoc hlo, ?_, ?_, gb_set (gb_drewN HKG.out _) (.inl (Nat.le_refl _)) _⟩
      ·rw [valN_snoc, HDL.out, valN_take_succ _ _ (by rw [HML.out]; exact hky), valN_take_succ _ _ hky, ← HMK.out, ← HYY.out, Nat.pow_succ]
       exact mul_step (ck := 0) HDV.out (by rw [← HP.out]; exact HS.out)
      ·have := (HKA.out.drewN nq).set (i + k) (lo : Int)
       rw [ints_set, ← HPL.out, set_mid _ _ _ _ _ (by rw [hmlen]; exact hky), set_pass _ _ _ _ HDL.out (by rw [HML.out]; exact hky)] at this
       rw [HPL.out] at this
       exact this
     case measure => simp [intOf]; omega
    ·obtain rfl : k = ys.length := by omega
     clear hkgb
     have hdm : dn ++ mid.drop ys.length = dn := by rw [List.drop_of_length_le (by rw [HML.out]; exact Nat.le_refl _), List.append_nil]
     have HKA2 : Hid (Arr .u32 wr w3.heap.size 103 (ints (P ++ dn ++ List.replicate (xs.length - i) 0))) := by have := HKA.out; rw [hdm] at this; exact this
     clear hdm
     have hco : wr.cell? ⟨w3.heap.size, i + ys.length, none⟩ = some (.int .u32 ((0 : Nat) : Int)) := by
      have h1 := HKA2.out.cell (i + ys.length) (by rw [ints_length, List.length_append, List.length_append, HDL.out, HPL.out]; simp; omega)
      have h2 := nth_ints (P ++ dn ++ List.replicate (xs.length - i) 0) (i + ys.length)
      unfold nth at h2
      rw [h1, h2, nat_append_right (by rw [List.length_append, HPL.out, HDL.out]; exact Nat.le_refl _), List.length_append, HPL.out, HDL.out, Nat.sub_self]
      rw [show nat (List.replicate (xs.length - i) 0) 0 = 0 by unfold nat; rw [List.getD_eq_getElem?_getD]; rw [List.getElem?_replicate]; split <;> rfl]
     have hfr := HKA2.out.frozen (i + ys.length)
     have f6 : IntKind.u32.wrap (cy : Int) = (cy : Int) := by rw [IntKind.wrap_u32]; omega
     have wi : IntKind.i64.wrap ((i : Int) + 1) = (i : Int) + 1 := IntWalk.i64_in _ (by omega)
     have k6 : (i : Int) + (ys.length : Int) < (N : Int) := by omega
     have k7 : ((i : Int) + (ys.length : Int)).toNat = i + ys.length := by omega
     have k8 : i + ys.length < N := by omega
     have k9 : 0 ≤ (i : Int) + (ys.length : Int) := by omega
     go_wp2_with fail
     go_roundw
     case rel =>
      refine ⟨i + 1, P ++ dn ++ [cy], by omega, by go_num, by simp [HPL.out, HDL.out]; omega, (HWP.out.append HDN.out).snoc hcy, ?_, ?_, gb_set HKG.out (.inl (Nat.le_refl _)) _⟩
      ·rw [valN_snoc, valN_append, List.length_append, HPL.out, HDL.out, valN_take_succ _ _ hlx2, ← HXX.out, Nat.pow_add, Nat.mul_assoc, Nat.add_assoc, ← Nat.mul_add]
       have h1 := HDV.out
       rw [List.take_of_length_le (by rw [HML.out]; exact Nat.le_refl _), List.take_length] at h1
       have h2 := HV.out
       rw [HPM.out, valN_append, HPL.out] at h2
       exact mul_row h1 h2
      ·have := HKA2.out.set (i + ys.length) (cy : Int)
       rw [ints_set] at this
       have hz : List.replicate (xs.length - i) 0 = 0 :: List.replicate (xs.length - (i + 1)) 0 := by rw [← List.replicate_succ]; congr 1; omega
       rw [hz, show i + ys.length = (P ++ dn).length by rw [List.length_append, HPL.out, HDL.out]] at this
       rw [List.set_append_right _ _ (Nat.le_refl _), Nat.sub_self, List.set_cons_zero] at this
       rw [show (P ++ dn).length = i + ys.length by rw [List.length_append, HPL.out, HDL.out]] at this
       rw [show P ++ dn ++ [cy] ++ List.replicate (xs.length - (i + 1)) 0 = P ++ dn ++ cy :: List.replicate (xs.length - (i + 1)) 0 by simp]
       exact this
     case measure => simp [intOf]; omega
  ·obtain rfl : i = xs.length := by omega
   clear hgb
   have ha2 := HA.out
   rw [Nat.sub_self, List.replicate_zero, List.append_nil] at ha2
   have hdl2 : d.length = N := by rw [HL.out]; omega
   have hrd := Rd.of_arr ha2 HD.out
   have HRD := Hd (show Rd wr (.slice (some ⟨w3.heap.size, 0, none⟩) d.length N) d by rw [hdl2] at hrd ⊢; exact hrd)
   have HDL2 := Hd hdl2
   clear ha2 hrd hdl2
   go_wp2_with fail
   have htr := rtrim_rn HRD.out (by rw [HDL2.out]; omega)
   rw [HDL2.out] at htr
   refine htr.mono ?_
   rintro e w' ⟨v, rfl, hv, hb⟩
   have hval : valN d = m * n := by
    have := HV.out
    rw [List.take_length, HVX.out, HVY.out] at this
    exact this
   rw [hval] at hv
   have HBB := Hd (HB3.out.trans ((gb_to_below (gb_below HG.out hb)).mono HB3.out.size))
   go_wp2_with fail
   go_ret
   exact ⟨_, rfl, hv, HBB.out⟩
end Go.Proofs.YtfhambfgjigneaaGreat

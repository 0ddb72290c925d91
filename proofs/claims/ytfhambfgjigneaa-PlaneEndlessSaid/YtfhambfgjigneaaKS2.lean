/- Contracts of Go functions that the statement reaches, proved by walking their text, and plain laws over them (texts put together). -/
import Derived.Test.YtfhambfgjigneaaKS1
set_option linter.unusedVariables false
set_option linter.unusedSimpArgs false
set_option maxHeartbeats 64000000
set_option maxRecDepth 100000
namespace Go.Proofs.Ytfhambfgjigneaa
open Go.RowKit
theorem Rd.takeC {w : World} {A : Option Addr} {c : Nat} {xs : List Nat} (h : Rd w (.slice A xs.length c) xs) (n : Nat) (hn : n ≤ xs.length) : Rd w (.slice A n c) (xs.take n) := by
 obtain ⟨hw, A', c', e, hc, hr⟩ := h
 injection e with e1 e2 e3
 subst e1 e3
 have hl : (xs.take n).length = n := by rw [List.length_take, Nat.min_eq_left hn]
 refine ⟨hw.take n, A, c, by rw [hl], by rw [hl]; omega, fun hp => ?_⟩
 rw [hl] at hp ⊢
 obtain ⟨g, o, rfl, hg, hj⟩ := hr (by omega)
 exact ⟨g, o, rfl, hg, fun j hjl => by rw [hj j (by omega), nat_take hjl]⟩
def RTrimPost (w : World) (A : Option Addr) (c : Nat) (xs : List Nat) (e : Ending) (w' : World) : Prop := ∃ n, n ≤ xs.length ∧ e = .returned (.slice A n c) ∧ xs.take n = dg (valN xs) ∧ Below w.heap.size w w'
theorem rtrim_calls (w : World) (A : Option Addr) (c : Nat) (xs : List Nat) (h : Rd w (.slice A xs.length c) xs) (hl : xs.length ≤ 1000000000000) (hc : xs.length ≤ c) :
  Calls Try.prog 89 #[.slice A xs.length c] w fun e w' => RTrimPost w A c xs e w' := by
 have HR := Hd h
 clear h
 go_enter Try.func89, Try.ntmps89
 exact sq17 _
theorem rtrim_rn {w : World} {A : Option Addr} {c : Nat} {xs : List Nat} (h : Rd w (.slice A xs.length c) xs) (hl : xs.length ≤ 1000000000000) :
  Calls Try.prog 89 #[.slice A xs.length c] w fun e w' => WPost w (valN xs) e w' := by
 have hc : xs.length ≤ c := by
  obtain ⟨A', c', e, hc⟩ := h.slice
  injection e with e1 e2 e3
  omega
 refine (rtrim_calls w A c xs h hl hc).mono ?_
 rintro e w' ⟨n, hn, rfl, ht, hb⟩
 refine ⟨_, rfl, ?_, hb⟩
 have := (h.takeC n hn).below hb
 rw [ht] at this
 exact this
theorem mask_low (n : Nat) (h : n < 18446744073709551616) : bits .and .u64 (n : Int) 4294967295 = ((n % 4294967296 : Nat) : Int) := by
 have := bits_mask .u64 64 (by decide) (fun n h0 h1 => IntWalk.u64_in n (by omega)) 32 (by decide) (n : Int) (by omega) (by omega)
 rw [show (4294967295 : Int) = 2 ^ 32 - 1 by decide, this]
 omega
theorem mask_any {a : Int} {lo hi : Nat} (h : a = (lo : Int) + 4294967296 * (hi : Int)) (hlo : lo < 4294967296) (hhi : hi < 4294967296) : bits .and .u64 a 4294967295 = (lo : Int) := by
 have := mask_low (lo + 4294967296 * hi) (by omega)
 rw [show ((lo + 4294967296 * hi : Nat) : Int) = a by omega] at this
 rw [this]
 omega
theorem rtimes_calls (w : World) (v v2 : Value) (m n : Nat) (h : RN w v m) (h2 : RN w v2 n) (hm : wlen m ≤ 100000000000) (hn : wlen n ≤ 100000000000) :
  Calls Try.prog 53 #[v, v2] w fun e w' => WPost w (m * n) e w' := by
 obtain ⟨A, c, xs, rfl, hc, HX, HR⟩ := h.opened
 obtain ⟨A2, c2, ys, rfl, hc2, HY, HR2⟩ := h2.opened
 clear h h2
 have hlx : xs.length ≤ 100000000000 := by rw [HX.out]; exact hm
 have hly : ys.length ≤ 100000000000 := by rw [HY.out]; exact hn
 have HVX : Hid (valN xs = m) := by unfold Hid; rw [HX.out, valN_dg]
 have HVY : Hid (valN ys = n) := by unfold Hid; rw [HY.out, valN_dg]
 clear hm hn
 obtain ⟨w3, hw3⟩ : ∃ w3, w3 = w := ⟨_, rfl⟩
 rw [← hw3] at HR HR2 ⊢
 have HB3 : Hid (Below w3.heap.size w3 w3) := Below.refl _ _
 clear hw3
 go_enter Try.func53, Try.ntmps53
 obtain ⟨N, hN⟩ : ∃ N : Nat, xs.length + ys.length = N := ⟨_, rfl⟩
 have wl : IntKind.i64.wrap ((xs.length : Int) + (ys.length : Int)) = ((N : Nat) : Int) := by rw [IntWalk.i64_in _ (by omega)]; omega
 have hmk := make_words 38 Try.underlying38 N (by omega)
 go_wp2_with fail
 clear hmk wl
 have hw0 := gb_alloc (gb_refl w3 none) (zw N)
 have ha0 := zw_arr w3 N
 generalize w3.alloc (zw N) = W0 at *
 go_loopw [6] (fun vi wr => ∃ (i : Nat) (d : List Nat), i ≤ xs.length ∧ vi = .int .i64 (i : Int) ∧ d.length = i + ys.length ∧ Wd d ∧
   valN d = valN (xs.take i) * valN ys ∧ Arr .u32 wr w3.heap.size 103 (ints (d ++ List.replicate (xs.length - i) 0)) ∧ w3.grownBy wr none) (fun vi _ => xs.length - (intOf vi).toNat)
 case atStart => exact ⟨0, List.replicate ys.length 0, by omega, rfl, by simp, Wd_zeros _, by simp [valN, valN_zeros], (by rw [List.replicate_append_replicate, show ys.length + (xs.length - 0) = N by omega]; exact ha0), hw0⟩
 case round =>
  obtain ⟨i, d, hi, rfl, hdl, hdw, hval, harr, hgb⟩ := hrel
  have HD := Hd hdw
  have HV := Hd hval
  have HA := Hd harr
  have HG := Hd hgb
  have HL := Hd hdl
  clear hdw hval harr hdl
  by_cases hlx2 : i < xs.length
  ·have HRr := Hd (HR.out.gb hgb)
   clear hgb
   obtain ⟨g, o, rfl, hg, hcell⟩ := HRr.out.cell (j := i) hlx2
   have n1 : (i : Int) < (xs.length : Int) := by omega
   have n3 : (i : Int).toNat = i := by omega
   have n4 : (0 : Int) ≤ (i : Int) := by omega
   have hx := nat_lt HR.out.wd i
   obtain ⟨x, hxx⟩ : ∃ x, x = nat xs i := ⟨_, rfl⟩
   rw [← hxx] at hx hcell
   have HXX := Hd hxx
   clear hxx
   obtain ⟨P, mid, hPm, hPl, hml⟩ : ∃ P mid, d = P ++ mid ∧ P.length = i ∧ mid.length = ys.length := ⟨d.take i, d.drop i, (List.take_append_drop i d).symm, by rw [List.length_take, HL.out]; omega, by rw [List.length_drop, HL.out]; omega⟩
   have HPM := Hd hPm
   have HPL := Hd hPl
   have HML := Hd hml
   have HWP : Hid (Wd P) := (hPm ▸ HD.out).left
   have HWM : Hid (Wd mid) := (hPm ▸ HD.out).right
   have HA2 : Hid (Arr .u32 wr w3.heap.size 103 (ints (P ++ mid ++ List.replicate (xs.length - i) 0))) := by have := HA.out; rw [hPm] at this; exact this
   clear hPm hPl hml HA HL
   have s1 : IntKind.i64.wrap ((i : Int) + (ys.length : Int)) = (i : Int) + (ys.length : Int) := IntWalk.i64_in _ (by omega)
   go_wp2_with fail
   go_loopw [7, 8] (fun vc vk wr => ∃ (k cy : Nat) (dn : List Nat), k ≤ ys.length ∧ vk = .int .i64 (k : Int) ∧ vc = .int .u64 (cy : Int) ∧ cy < 4294967296 ∧ dn.length = k ∧ Wd dn ∧
     valN dn + cy * 4294967296 ^ k = valN (mid.take k) + x * valN (ys.take k) ∧ Arr .u32 wr w3.heap.size 103 (ints (P ++ (dn ++ mid.drop k) ++ List.replicate (xs.length - i) 0)) ∧ w3.grownBy wr none) (fun _ vk _ => ys.length - (intOf vk).toNat)
   case atStart => exact ⟨0, 0, [], by omega, rfl, rfl, by omega, rfl, (fun x hx => (by cases hx)), by simp [valN], HA2.out, HG.out⟩
   case round =>
    obtain ⟨k, cy, dn, hk, rfl, rfl, hcy, hdnl, hdnw, hdval, hkarr, hkgb⟩ := hrel
    have HDN := Hd hdnw
    have HDV := Hd hdval
    have HKA := Hd hkarr
    have HKG := Hd hkgb
    have HDL := Hd hdnl
    have hmlen : (dn ++ mid.drop k).length = ys.length := by rw [List.length_append, List.length_drop, HDL.out, HML.out]; omega
    clear hdnw hdval hkarr hdnl
    by_cases hky : k < ys.length
    ·have HRk2 := Hd (HR2.out.gb hkgb)
     have HRk1 := Hd (HR.out.gb hkgb)
     clear hkgb
     obtain ⟨g2, o2, rfl, hg2, hcell2⟩ := HRk2.out.cell (j := k) hky
     obtain ⟨g3, o3, e3, hg3, hcell3⟩ := HRk1.out.cell (j := i) hlx2
     injection e3 with e3
     injection e3 with e31 e32
     subst e31
     subst e32
     rw [← HXX.out] at hcell3
     have k1 : (k : Int) < (ys.length : Int) := by omega
     have k3 : (k : Int).toNat = k := by omega
     have k4 : (0 : Int) ≤ (k : Int) := by omega
     have hy := nat_lt HR2.out.wd k
     obtain ⟨y, hyy⟩ : ∃ y, y = nat ys k := ⟨_, rfl⟩
     rw [← hyy] at hy hcell2
     have HYY := Hd hyy
     clear hyy
     have hmk := nat_lt HWM.out k
     obtain ⟨mk, hmkk⟩ : ∃ mk, mk = nat mid k := ⟨_, rfl⟩
     rw [← hmkk] at hmk
     have HMK := Hd hmkk
     clear hmkk
     have hco : wr.cell? ⟨w3.heap.size, i + k, none⟩ = some (.int .u32 (mk : Int)) := by
      exact sq37 _
     have hfr := HKA.out.frozen (i + k)
     obtain ⟨p, hp⟩ : ∃ p, p = x * y := ⟨_, rfl⟩
     have hple := mul_le_word hx hy
     have f3 := mul_wrap hx hy hp
     rw [← hp] at hple
     have HP := Hd hp
     clear hp
     obtain ⟨lo, hi2, hs, hlo⟩ := split_word (p + mk + cy)
     have HS := Hd hs
     have hhi : hi2 < 4294967296 := by omega
     have f0 : IntKind.u64.wrap (x : Int) = (x : Int) := IntWalk.u64_in _ (by omega)
     have f1 : IntKind.u64.wrap (y : Int) = (y : Int) := IntWalk.u64_in _ (by omega)
     have f2 : IntKind.u64.wrap (mk : Int) = (mk : Int) := IntWalk.u64_in _ (by omega)
     have f4 : IntKind.u64.wrap ((p : Int) + (mk : Int)) = (p : Int) + (mk : Int) := IntWalk.u64_in _ (by omega)
     have f5 : IntKind.u64.wrap ((p : Int) + (mk : Int) + (cy : Int)) = ((p : Int) + (mk : Int) + (cy : Int)) := IntWalk.u64_in _ (by omega)
     have f7 : ((p : Int) + (mk : Int) + (cy : Int)) / 4294967296 = (hi2 : Int) := by omega
     have f6 : bits .and .u64 ((p : Int) + (mk : Int) + (cy : Int)) 4294967295 = (lo : Int) := mask_any (by omega) hlo hhi
     have f8 : IntKind.u32.wrap (lo : Int) = (lo : Int) := by rw [IntKind.wrap_u32]; omega
     have k5 : IntKind.i64.wrap ((i : Int) + (k : Int)) = (i : Int) + (k : Int) := IntWalk.i64_in _ (by omega)
     have k6 : (i : Int) + (k : Int) < (N : Int) := by omega
     have k7 : ((i : Int) + (k : Int)).toNat = i + k := by omega
     have k8 : i + k < N := by omega
     have k9 : 0 ≤ (i : Int) + (k : Int) := by omega
     clear hs
     go_wp2_with fail
     go_quiet (fail)
     go_wp2_with fail
     go_roundw
     case rel =>
      refine ⟨k + 1, hi2, dn ++ [lo], by omega, by go_num, rfl, hhi, by simp [HDL.out], HDN.out.snoc hlo, ?_, ?_, gb_set (gb_drewN HKG.out _) (.inl (Nat.le_refl _)) _⟩
      ·rw [valN_snoc, HDL.out, valN_take_succ _ _ (by rw [HML.out]; exact hky), valN_take_succ _ _ hky, ← HMK.out, ← HYY.out, Nat.pow_succ]
       exact mul_step (ck := 0) HDV.out (by rw [← HP.out]; exact HS.out)
      ·have := (HKA.out.drewN nq).set (i + k) (lo : Int)
       rw [ints_set, ← HPL.out, set_mid _ _ _ _ _ (by rw [hmlen]; exact hky), set_pass _ _ _ _ HDL.out (by rw [HML.out]; exact hky)] at this
       rw [HPL.out] at this
       exact this
     case measure => simp [intOf]; omega
    ·obtain rfl : k = ys.length := by omega
     clear hkgb
     have hdm : dn ++ mid.drop ys.length = dn := by rw [List.drop_of_length_le (by rw [HML.out]; exact Nat.le_refl _), List.append_nil]
     have HKA2 : Hid (Arr .u32 wr w3.heap.size 103 (ints (P ++ dn ++ List.replicate (xs.length - i) 0))) := by have := HKA.out; rw [hdm] at this; exact this
     clear hdm
     have hco : wr.cell? ⟨w3.heap.size, i + ys.length, none⟩ = some (.int .u32 ((0 : Nat) : Int)) := by
      exact sq30 _
     have hfr := HKA2.out.frozen (i + ys.length)
     have f6 : IntKind.u32.wrap (cy : Int) = (cy : Int) := by rw [IntKind.wrap_u32]; omega
     have wi : IntKind.i64.wrap ((i : Int) + 1) = (i : Int) + 1 := IntWalk.i64_in _ (by omega)
     have k6 : (i : Int) + (ys.length : Int) < (N : Int) := by omega
     have k7 : ((i : Int) + (ys.length : Int)).toNat = i + ys.length := by omega
     have k8 : i + ys.length < N := by omega
     have k9 : 0 ≤ (i : Int) + (ys.length : Int) := by omega
     exact sq20 _
  ·obtain rfl : i = xs.length := by omega
   clear hgb
   have ha2 := HA.out
   rw [Nat.sub_self, List.replicate_zero, List.append_nil] at ha2
   have hdl2 : d.length = N := by rw [HL.out]; omega
   have hrd := Rd.of_arr ha2 HD.out
   have HRD := Hd (show Rd wr (.slice (some ⟨w3.heap.size, 0, none⟩) d.length N) d by rw [hdl2] at hrd ⊢; exact hrd)
   have HDL2 := Hd hdl2
   clear ha2 hrd hdl2
   go_wp2_with fail
   have htr := rtrim_rn HRD.out (by rw [HDL2.out]; omega)
   exact sq34 _
end Go.Proofs.Ytfhambfgjigneaa

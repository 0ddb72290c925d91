/- Contracts of Go functions that the statement reaches, proved by walking their text, and plain laws over them (texts put together). -/
import Derived.Test.YthpkoidlpfllaaaDoorKS1
import Derived.Deep.RegionWith
set_option linter.unusedVariables false
set_option linter.unusedSimpArgs false
namespace Go.Proofs.YthpkoidlpfllaaaDoor
open Go.RowKit
theorem arr_cell {w : World} {g e j k : Nat} {P M Z : List Nat} (h : Arr .u32 w g e (ints (P ++ M ++ Z))) (hP : P.length = j) (hk : k < M.length) : w.cell? ⟨g, j + k, none⟩ = some (.int .u32 (nat M k : Nat)) := by
 have h1 := h.cell (j + k) (by rw [ints_length, List.length_append, List.length_append]; omega)
 have h2 := nth_ints (P ++ M ++ Z) (j + k)
 unfold nth at h2
 rw [h1, h2, ← hP, nat_mid _ _ _ _ hk]
theorem arr_set {w : World} {g e j k x : Nat} {P M Z : List Nat} (h : Arr .u32 w g e (ints (P ++ M ++ Z))) (hP : P.length = j) (hk : k < M.length) :
  Arr .u32 (w.setCell ⟨g, j + k, none⟩ (.int .u32 (x : Int))) g e (ints (P ++ M.set k x ++ Z)) := by
 have := h.set (j + k) (x : Int)
 rw [ints_set] at this
 rw [← hP] at this ⊢
 rw [set_mid _ _ _ _ _ hk] at this
 exact this
theorem Rd.cell' {w : World} {A : Option Addr} {c : Nat} {xs : List Nat} (h : Rd w (.slice A xs.length c) xs) {g o : Nat} (hA : A = some ⟨g, o, none⟩) {j : Nat} (hj : j < xs.length) : w.cell? ⟨g, o + j, none⟩ = some (.int .u32 (nat xs j : Nat)) := by
 obtain ⟨g', o', e, _, hc⟩ := h.cell hj
 rw [hA] at e
 injection e with e
 injection e with e1 e2
 subst e1
 subst e2
 exact hc
def DigitPost (w : World) (g : Nat) (P seg Z vs : List Nat) (e : Ending) (w' : World) : Prop := ∃ seg', e = .returned (.int .u32 ((valN seg / valN vs : Nat) : Int)) ∧ seg'.length = vs.length + 1 ∧ Wd seg' ∧ valN seg' = valN seg % valN vs ∧
 Arr .u32 w' g 44 (ints (P ++ seg' ++ Z)) ∧ w.grownBy w' (some g)
theorem div_facts {z d qq rr : Nat} (h1 : z / d = qq) (h2 : z % d = rr) : ((z : Int) / (d : Int) = (qq : Int) ∧ (z : Int) % (d : Int) = (rr : Int)) ∧ (z : Int).tdiv (d : Int) = (qq : Int) ∧ (z : Int).tmod (d : Int) = (rr : Int) := by
 have g1 : (z : Int) / (d : Int) = (qq : Int) := by rw [← Int.natCast_ediv, h1]
 have g2 : (z : Int) % (d : Int) = (rr : Int) := by rw [← Int.natCast_emod, h2]
 exact ⟨⟨g1, g2⟩, by rw [Int.tdiv_eq_ediv_of_nonneg (by omega), g1], by rw [Int.tmod_eq_emod_of_nonneg (by omega), g2]⟩
theorem take_all {l : List Nat} {n : Nat} (h : l.length = n) : l.take n = l := List.take_of_length_le (by omega)
theorem digit_seg {seg : List Nat} {n : Nat} (hl : seg.length = n + 1) : valN seg = valN (seg.take n) + 4294967296 ^ n * nat seg n := by
 conv => lhs; rw [← take_all hl]
 exact valN_take_succ seg n (by omega)
set_option maxHeartbeats 16000000 in
set_option maxRecDepth 100000 in
theorem digit_calls (w : World) (g j cap n : Nat) (P seg Z vs : List Nat) (A : Option Addr) (c : Nat) (h : Arr .u32 w g 44 (ints (P ++ seg ++ Z))) (hP : P.length = j) (hw : Wd seg) (hn : n ≤ 100000000000) (hvn : vs.length = n) (hseg : seg.length = n + 1)
  (h2 : Rd w (.slice A vs.length c) vs) (hne : ∀ b, (Value.slice A vs.length c).ownBlock = some b → b ≠ g) (hn2 : 2 ≤ n) (htop : 2147483648 ≤ nat vs (n - 1)) (hlt : valN seg < 4294967296 * valN vs) (hcap : n + 1 ≤ cap) :
  Calls Tryd.prog 74 #[.slice (some ⟨g, j, none⟩) (n + 1) cap, .slice A vs.length c] w fun e w' => DigitPost w g P seg Z vs e w' := by
 obtain ⟨go, vo, hA, hgl, _⟩ := h2.cell (j := 0) (by omega)
 have hne' : go ≠ g := hne go (by rw [hA]; rfl)
 have HU0 := Hd h
 have HRV := Hd h2
 have HWS := Hd hw
 have HWV := Hd h2.wd
 have HP := Hd hP
 have HNE : Hid (∀ b, (Value.slice A vs.length c).ownBlock = some b → some b ≠ some g) := fun b hb e => hne b hb (by injection e)
 obtain ⟨V, hV⟩ : ∃ V, V = valN vs := ⟨_, rfl⟩
 obtain ⟨S, hS⟩ : ∃ S, S = valN seg := ⟨_, rfl⟩
 have hVP : V < 4294967296 ^ n := by rw [hV, ← hvn]; exact valN_lt vs h2.wd
 have hSseg : S = valN (seg.take n) + 4294967296 ^ n * nat seg n := by rw [hS]; exact digit_seg hseg
 obtain ⟨lowV, hlv, hVe⟩ := valN_top2 h2.wd (by omega)
 obtain ⟨lowS, hls, hSe⟩ := valN_top3 hw n hn2 hseg
 rw [hvn] at hlv hVe
 rw [← hV] at hVe hlt
 rw [← hS] at hSe hlt
 obtain ⟨v1, hv1⟩ : ∃ v1, v1 = nat vs (n - 1) := ⟨_, rfl⟩
 obtain ⟨v2, hv2⟩ : ∃ v2, v2 = nat vs (n - 2) := ⟨_, rfl⟩
 obtain ⟨s0, hs0⟩ : ∃ s0, s0 = nat seg (n - 2) := ⟨_, rfl⟩
 obtain ⟨s1, hs1⟩ : ∃ s1, s1 = nat seg (n - 1) := ⟨_, rfl⟩
 obtain ⟨s2, hs2⟩ : ∃ s2, s2 = nat seg n := ⟨_, rfl⟩
 have b1 : v1 < 4294967296 := by rw [hv1]; exact nat_lt h2.wd _
 have b2 : v2 < 4294967296 := by rw [hv2]; exact nat_lt h2.wd _
 have b3 : s0 < 4294967296 := by rw [hs0]; exact nat_lt hw _
 have b4 : s1 < 4294967296 := by rw [hs1]; exact nat_lt hw _
 have b5 : s2 < 4294967296 := by rw [hs2]; exact nat_lt hw _
 rw [← hv1, ← hv2] at hVe
 rw [← hv1] at htop
 rw [← hs0, ← hs1, ← hs2] at hSe
 rw [← hs2] at hSseg
 obtain ⟨top, htp⟩ : ∃ top, top = s2 * 4294967296 + s1 := ⟨_, rfl⟩
 rw [← htp] at hSe
 have hV0 : 0 < V := by
  have : 0 < 4294967296 ^ (n - 2) * (v2 + 4294967296 * v1) := Nat.mul_pos (Nat.pow_pos (by decide)) (by omega)
  omega
 have hs2v : s2 ≤ v1 := head_le hVe hlv b2 (by rw [hSe, htp]) hlt
 have htop64 : top < 18446744073709551616 := by omega
 have hvn' : ((vs.length : Nat) : Int) = (n : Int) := by rw [hvn]
 have cu2 : w.cell? ⟨g, j + n, none⟩ = some (.int .u32 (s2 : Int)) := by rw [hs2]; exact arr_cell h hP (by omega)
 have cu1 : w.cell? ⟨g, j + (n - 1), none⟩ = some (.int .u32 (s1 : Int)) := by rw [hs1]; exact arr_cell h hP (by omega)
 have cu0 : w.cell? ⟨g, j + (n - 2), none⟩ = some (.int .u32 (s0 : Int)) := by rw [hs0]; exact arr_cell h hP (by omega)
 have cv1 : w.cell? ⟨go, vo + (n - 1), none⟩ = some (.int .u32 (v1 : Int)) := by rw [hv1]; exact h2.cell' hA (by omega)
 have cv2 : w.cell? ⟨go, vo + (n - 2), none⟩ = some (.int .u32 (v2 : Int)) := by rw [hv2]; exact h2.cell' hA (by omega)
 obtain ⟨g0, r0, hg0, hr0⟩ : ∃ g0 r0, top / v1 = g0 ∧ top % v1 = r0 := ⟨_, _, rfl, rfl⟩
 have hgr0 : g0 * v1 + r0 = top := by rw [← hg0, ← hr0, Nat.mul_comm]; exact Nat.div_add_mod top v1
 have hr0v : r0 < v1 := by rw [← hr0]; exact Nat.mod_lt _ (by omega)
 have hq0 : S / V ≤ g0 := quot_first hVe hSe hls b3 hgr0 hr0v
 obtain ⟨⟨df1, df2⟩, df3, df4⟩ := div_facts hg0 hr0
 have hgl0 : g0 ≤ top := by rw [← hg0]; exact Nat.div_le_self _ _
 have HVE := Hd hVe
 have HSE := Hd hSe
 have HSS := Hd hSseg
 have HV := Hd hV
 have HS := Hd hS
 have HTP := Hd htp
 have HV1 := Hd hv1
 have HV2 := Hd hv2
 have HS0 := Hd hs0
 have HS1 := Hd hs1
 have HS2 := Hd hs2
 have HGR := Hd hgr0
 have HAA := Hd hA
 have HVN := Hd hvn
 have HQ0 := Hd hq0
 have HLT := Hd hlt
 have HVP := Hd hVP
 have HLV := Hd hlv
 have HLS := Hd hls
 have HSL := Hd hseg
 have hor := or_word s2 s1 b5 b4
 rw [← htp] at hor
 clear h h2 hVe hSe hSseg hV hS htp hv1 hv2 hs0 hs1 hs2 hgr0 hq0 hlt hVP hlv hls hseg hP hne hw hg0 hr0
 rw [hvn] at HRV HNE ⊢
 subst hA
 clear hvn
 have w1 : IntKind.u64.wrap (s2 : Int) = (s2 : Int) := IntWalk.u64_in _ (by omega)
 have w2 : IntKind.u64.wrap (s1 : Int) = (s1 : Int) := IntWalk.u64_in _ (by omega)
 have w3 : IntKind.u64.wrap ((s2 : Int) * 4294967296) = (s2 : Int) * 4294967296 := IntWalk.u64_in _ (by omega)
 have w4 : IntKind.u64.wrap (v1 : Int) = (v1 : Int) := IntWalk.u64_in _ (by omega)
 have w5 : IntKind.u64.wrap (g0 : Int) = (g0 : Int) := IntWalk.u64_in _ (by omega)
 have w6 : IntKind.u64.wrap (r0 : Int) = (r0 : Int) := IntWalk.u64_in _ (by omega)
 have w7 : IntKind.u64.wrap (v2 : Int) = (v2 : Int) := IntWalk.u64_in _ (by omega)
 have w8 : IntKind.u64.wrap (s0 : Int) = (s0 : Int) := IntWalk.u64_in _ (by omega)
 have i1 : IntKind.i64.wrap ((n : Int) - 1) = (n : Int) - 1 := IntWalk.i64_in _ (by omega)
 have i2 : IntKind.i64.wrap ((n : Int) - 2) = (n : Int) - 2 := IntWalk.i64_in _ (by omega)
 have i3 : ((n : Int) - 1).toNat = n - 1 := by omega
 have i4 : ((n : Int) - 2).toNat = n - 2 := by omega
 have i5 : (0 : Int) ≤ (n : Int) - 1 := by omega
 have i6 : (0 : Int) ≤ (n : Int) - 2 := by omega
 have i7 : (n : Int) - 1 < (n : Int) + 1 := by omega
 have i8 : (n : Int) - 2 < (n : Int) + 1 := by omega
 have i9 : (n : Int) - 1 < (n : Int) := by omega
 have i10 : (n : Int) - 2 < (n : Int) := by omega
 have i11 : (n : Int) < (n : Int) + 1 := by omega
 have i12 : (1 : Int) ≤ (n : Int) := by omega
 have i13 : (2 : Int) ≤ (n : Int) := by omega
 have i14 : 1 ≤ n := by omega
 have i15 : n < n + 1 := by omega
 have d0 : ((v1 : Int) == 0) = false := by
  have : (v1 : Int) ≠ 0 := by omega
  simpa using this
 have d1 : (v1 : Int) ≠ 0 := by omega
 go_enter Tryd.func74, Tryd.ntmps74
 go_wp2_with fail
 go_quiet (fail)
 go_wp2_with fail
 go_quiet (fail)
 go_wp2_with fail
 go_loopw [7, 8] (fun vg vr wr => ∃ (gu r : Nat), vg = .int .u64 (gu : Int) ∧ vr = .int .u64 (r : Int) ∧ gu * v1 + r = top ∧ S / V ≤ gu ∧ r < 4294967296 ∧ w.grownBy wr none) (fun vg _ _ => (intOf vg).toNat)
 case atStart => exact ⟨g0, r0, rfl, rfl, HGR.out, HQ0.out, by omega, gb_drewN (gb_drewN (gb_refl w none) _) _⟩
 case round =>
  obtain ⟨gu, r, rfl, rfl, hgr, hq, hrb, hgb⟩ := hrel
  have HUX := Hd (HU0.out.grown hgb (by simp))
  have HGX := Hd hgb
  have cu0 : wr.cell? ⟨g, j + (n - 2), none⟩ = some (.int .u32 (s0 : Int)) := by rw [HS0.out]; exact arr_cell HUX.out HP.out (by rw [HSL.out]; omega)
  have hcv := HRV.out.gb hgb
  have cv2 : wr.cell? ⟨go, vo + (n - 2), none⟩ = some (.int .u32 (v2 : Int)) := by rw [HV2.out]; exact Rd.cell' (c := c) (by rw [HVN.out]; exact hcv) rfl (by rw [HVN.out]; omega)
  have cv1 : wr.cell? ⟨go, vo + (n - 1), none⟩ = some (.int .u32 (v1 : Int)) := by rw [HV1.out]; exact Rd.cell' (c := c) (by rw [HVN.out]; exact hcv) rfl (by rw [HVN.out]; omega)
  have hgul : gu ≤ top := by
   have : gu * 1 ≤ gu * v1 := Nat.mul_le_mul_left gu (by omega)
   omega
  have e1 : IntKind.u64.wrap ((r : Int) * 4294967296) = (r : Int) * 4294967296 := IntWalk.u64_in _ (by omega)
  have hor2 := or_word r s0 hrb b3
  obtain ⟨z, hz⟩ : ∃ z, z = r * 4294967296 + s0 := ⟨_, rfl⟩
  rw [← hz] at hor2
  obtain ⟨r2, hr2⟩ : ∃ r2, r2 = r + v1 := ⟨_, rfl⟩
  have e2 : IntKind.u64.wrap ((r : Int) + (v1 : Int)) = (r2 : Int) := by rw [IntWalk.u64_in _ (by omega)]; omega
  have HZ := Hd hz
  have HR2 := Hd hr2
  have HGRR := Hd hgr
  have HQQ0 := Hd hq
  clear hz hgb hcv
  by_cases hbig : 4294967296 ≤ gu
  ·have t1 : decide ((gu : Int) ≥ 4294967296) = true := decide_eq_true (by omega)
   obtain ⟨g1, hg1⟩ : ∃ g1, gu = g1 + 1 := ⟨gu - 1, by omega⟩
   have e3 : IntKind.u64.wrap ((gu : Int) - 1) = (g1 : Int) := by rw [IntWalk.u64_in _ (by omega)]; omega
   have hq1 : S / V ≤ g1 := by
    have := quot_small HLT.out
    omega
   have hgr1 : g1 * v1 + r2 = top := by
    have : gu * v1 = g1 * v1 + v1 := by rw [hg1]; exact Nat.succ_mul g1 v1
    omega
   have HGR1 := Hd hgr1
   have HQ11 := Hd hq1
   have hglt : g1 < gu := by omega
   clear hgr1 hq1 hgr hq hr2 hg1
   by_cases hr2b : 4294967296 ≤ r2
   ·have t3 : decide ((r2 : Int) ≥ 4294967296) = true := decide_eq_true (by omega)
    have hgq : g1 < 4294967296 := guess_small HGR1.out HTP.out b4 hs2v hr2b
    have HQ1 := HQ11
    have HQ2 : Hid (g1 * V < S + V) := guess_pass HVE.out HLV.out HSE.out (by omega) HGR1.out hgq (by
     have := Nat.mul_le_mul (show g1 ≤ 4294967295 by omega) (show v2 ≤ 4294967295 by omega)
     omega)
    go_wp2_with fail
    go_quiet (fail)
    go_wp2_with fail
    go_loopw [9, 10, 83] (fun vb vc vi wr => ∃ (i b cy : Nat) (dn : List Nat), i ≤ n ∧ vi = .int .i64 (i : Int) ∧ vb = .int .u64 (b : Int) ∧ vc = .int .u64 (cy : Int) ∧ b ≤ 1 ∧ cy < 4294967296 ∧ dn.length = i ∧ Wd dn ∧
      valN dn + g1 * valN (vs.take i) = valN (seg.take i) + (cy + b) * 4294967296 ^ i ∧ Arr .u32 wr g 44 (ints (P ++ (dn ++ seg.drop i) ++ Z)) ∧ w.grownBy wr (some g)) (fun _ _ vi _ => n - (intOf vi).toNat)
    case atStart => exact ⟨0, 0, 0, [], by omega, rfl, rfl, rfl, by omega, by omega, rfl, (fun x hx => (by cases hx)), by simp [valN], by rw [List.nil_append, List.drop_zero]; exact HUX.out.drewN nq, gb_none (gb_drewN HGX.out nq)⟩
    case round =>
     obtain ⟨i, b, cy, dn, hi, rfl, rfl, rfl, hb, hcy, hdl, hdw, hval, harr, hgb⟩ := hrel
     have HD := Hd hdw
     have HVA := Hd hval
     have HA := Hd harr
     have HG := Hd hgb
     have HL := Hd hdl
     have hml : (dn ++ seg.drop i).length = n + 1 := by rw [List.length_append, List.length_drop, HL.out, HSL.out]; omega
     clear hdw hval harr hdl
     by_cases hin : i < n
     ·have hcv := (HRV.out.grown hgb HNE.out)
      clear hgb
      obtain ⟨y, hy⟩ : ∃ y, y = nat vs i := ⟨_, rfl⟩
      obtain ⟨x, hx⟩ : ∃ x, x = nat seg i := ⟨_, rfl⟩
      have hyb : y < 4294967296 := by rw [hy]; exact nat_lt HWV.out _
      have hxb : x < 4294967296 := by rw [hx]; exact nat_lt HWS.out _
      have cv : wr.cell? ⟨go, vo + i, none⟩ = some (.int .u32 (y : Int)) := by
       rw [hy]
       exact Rd.cell' (c := c) (by rw [HVN.out]; exact hcv) rfl (by rw [HVN.out]; exact hin)
      have cu : wr.cell? ⟨g, j + i, none⟩ = some (.int .u32 (x : Int)) := by
       have := arr_cell HA.out HP.out (k := i) (by rw [hml]; omega)
       rw [nat_pass _ _ _ HL.out, ← hx] at this
       exact this
      have fu := HA.out.frozen (j + i)
      have HY := Hd hy
      have HX := Hd hx
      clear hy hx hcv
      obtain ⟨p, hp⟩ : ∃ p, p = g1 * y := ⟨_, rfl⟩
      have hple : p ≤ 18446744065119617025 := by rw [hp]; exact mul_le_word hgq hyb
      have f1 : IntKind.u64.wrap ((g1 : Int) * (y : Int)) = (p : Int) := mul_wrap hgq hyb hp
      have HPP := Hd hp
      clear hp
      obtain ⟨lo, cy2, hs, hlo⟩ := split_word (cy + p)
      have hcy2 : cy2 < 4294967296 := by omega
      have n1 : (i : Int) < (n : Int) := by omega
      have n2 : (i : Int).toNat = i := by omega
      have n3 : (0 : Int) ≤ (i : Int) := by omega
      have n4 : (i : Int) < (n : Int) + 1 := by omega
      have n5 : i < n + 1 := by omega
      have f2 : IntKind.u64.wrap (y : Int) = (y : Int) := IntWalk.u64_in _ (by omega)
      have f3 : IntKind.u64.wrap (x : Int) = (x : Int) := IntWalk.u64_in _ (by omega)
      have f4 : IntKind.u64.wrap ((cy : Int) + (p : Int)) = (cy : Int) + (p : Int) := IntWalk.u64_in _ (by omega)
      have f5 : IntKind.u32.wrap ((cy : Int) + (p : Int)) = (lo : Int) := by rw [IntKind.wrap_u32]; omega
      have f6 : ((cy : Int) + (p : Int)) / 4294967296 = (cy2 : Int) := by omega
      have f7 : IntKind.u64.wrap (lo : Int) = (lo : Int) := IntWalk.u64_in _ (by omega)
      have f8 : IntKind.u64.wrap ((lo : Int) + (b : Int)) = (lo : Int) + (b : Int) := IntWalk.u64_in _ (by omega)
      have wi : IntKind.i64.wrap ((i : Int) + 1) = (i : Int) + 1 := IntWalk.i64_in _ (by omega)
      have HSW := Hd hs
      by_cases hxt : x < lo + b
      ·have q1 : decide ((x : Int) < (lo : Int) + (b : Int)) = true := decide_eq_true (by omega)
       obtain ⟨nx, hnx⟩ : ∃ nx, x + 1 * 4294967296 = nx + (lo + b) := ⟨x + 4294967296 - (lo + b), by omega⟩
       have hnxb : nx < 4294967296 := by omega
       have f9 : IntKind.u64.wrap ((x : Int) + 4294967296) = (x : Int) + 4294967296 := IntWalk.u64_in _ (by omega)
       have f10 : IntKind.u64.wrap ((x : Int) + 4294967296 - ((lo : Int) + (b : Int))) = (nx : Int) := by rw [IntWalk.u64_in _ (by omega)]; omega
       have f11 : IntKind.u32.wrap (nx : Int) = (nx : Int) := by rw [IntKind.wrap_u32]; omega
       have HNX := Hd hnx
       clear hs hnx
       go_wp2_with fail
       go_roundw
       case rel =>
        refine ⟨i + 1, 1, cy2, dn ++ [nx], by omega, by go_num, rfl, rfl, by omega, hcy2, by simp [HL.out], HD.out.snoc hnxb, ?_, ?_, gb_set HG.out (.inr rfl) _⟩
        ·rw [valN_snoc, HL.out, valN_take_succ _ _ (by rw [HVN.out]; exact hin), valN_take_succ _ _ (by rw [HSL.out]; omega), ← HY.out, ← HX.out, Nat.pow_succ]
         exact take_step HVA.out (by rw [← HPP.out]; exact HSW.out) HNX.out
        ·have := arr_set (x := nx) HA.out HP.out (k := i) (by rw [hml]; omega)
         rw [set_pass _ _ _ _ HL.out (by rw [HSL.out]; omega)] at this
         exact this
       case measure => simp [intOf]; omega
      ·have q1 : decide ((x : Int) < (lo : Int) + (b : Int)) = false := decide_eq_false (by omega)
       obtain ⟨nx, hnx⟩ : ∃ nx, x + 0 * 4294967296 = nx + (lo + b) := ⟨x - (lo + b), by omega⟩
       have hnxb : nx < 4294967296 := by omega
       have f10 : IntKind.u64.wrap ((x : Int) - ((lo : Int) + (b : Int))) = (nx : Int) := by rw [IntWalk.u64_in _ (by omega)]; omega
       have f11 : IntKind.u32.wrap (nx : Int) = (nx : Int) := by rw [IntKind.wrap_u32]; omega
       have HNX := Hd hnx
       clear hs hnx
       go_wp2_with fail
       go_roundw
       case rel =>
        refine ⟨i + 1, 0, cy2, dn ++ [nx], by omega, by go_num, rfl, rfl, by omega, hcy2, by simp [HL.out], HD.out.snoc hnxb, ?_, ?_, gb_set HG.out (.inr rfl) _⟩
        ·rw [valN_snoc, HL.out, valN_take_succ _ _ (by rw [HVN.out]; exact hin), valN_take_succ _ _ (by rw [HSL.out]; omega), ← HY.out, ← HX.out, Nat.pow_succ]
         exact take_step HVA.out (by rw [← HPP.out]; exact HSW.out) HNX.out
        ·have := arr_set (x := nx) HA.out HP.out (k := i) (by rw [hml]; omega)
         rw [set_pass _ _ _ _ HL.out (by rw [HSL.out]; omega)] at this
         exact this
       case measure => simp [intOf]; omega
     ·obtain rfl : i = n := by omega
      obtain ⟨T, hT⟩ : ∃ T, T = cy + b := ⟨_, rfl⟩
      have hds : seg.drop i = [s2] := by
       rw [drop_nat _ _ (by rw [HSL.out]; omega), List.drop_of_length_le (by rw [HSL.out]; exact Nat.le_refl _), HS2.out]
      have cu : wr.cell? ⟨g, j + i, none⟩ = some (.int .u32 (s2 : Int)) := by
       have := arr_cell HA.out HP.out (k := i) (by rw [hml]; omega)
       rw [nat_pass _ _ _ HL.out, ← HS2.out] at this
       exact this
      have fu := HA.out.frozen (j + i)
      have hTB : T ≤ 4294967296 := by omega
      have f1 : IntKind.u64.wrap ((cy : Int) + (b : Int)) = (T : Int) := by rw [IntWalk.u64_in _ (by omega)]; omega
      have hDE : valN dn + g1 * V = valN (seg.take i) + T * 4294967296 ^ i := by
       have := HVA.out
       rw [← hT] at this
       rw [HV.out]
       rw [take_all HVN.out] at this
       exact this
      have HDE := Hd hDE
      have HDS := Hd hds
      have hDP : valN dn < 4294967296 ^ i := by
       have := valN_lt dn HD.out
       rwa [HL.out] at this
      have HDP := Hd hDP
      clear hT hDE hds hDP hgb
      by_cases hsT : T ≤ s2
      ·have q1 : decide ((s2 : Int) ≥ (T : Int)) = true := decide_eq_true (by omega)
       have f2 : IntKind.u64.wrap ((s2 : Int) - (T : Int)) = ((s2 - T : Nat) : Int) := by rw [IntWalk.u64_in _ (by omega)]; omega
       obtain ⟨nx, hnx⟩ : ∃ nx, nx = s2 - T := ⟨_, rfl⟩
       rw [← hnx] at f2
       have hnxb : nx < 4294967296 := by omega
       have f3 : IntKind.u32.wrap (nx : Int) = (nx : Int) := by rw [IntKind.wrap_u32]; omega
       have f4 : IntKind.u32.wrap (g1 : Int) = (g1 : Int) := by rw [IntKind.wrap_u32]; omega
       have HNX := Hd hnx
       clear hnx
       go_wp2_with fail
       go_ret
       obtain ⟨e1, e2⟩ := digit_exact HDE.out HSS.out hsT hV0 HQ1.out
       refine ⟨dn ++ [nx], ?_, by simp [HL.out, HVN.out], HD.out.snoc hnxb, ?_, ?_, gb_set HG.out (.inr rfl) _⟩
       ·rw [← HS.out, ← HV.out, ← e1]
        rfl
       ·rw [valN_snoc, HL.out, HNX.out, ← HS.out, ← HV.out]
        exact e2
       ·have := arr_set (x := nx) HA.out HP.out (k := i) (by rw [hml]; omega)
        rw [set_pass _ _ _ _ HL.out (by rw [HSL.out]; omega), List.drop_of_length_le (by rw [HSL.out]; exact Nat.le_refl _), List.append_nil] at this
        exact this
      ·have q1 : decide ((s2 : Int) ≥ (T : Int)) = false := decide_eq_false (by omega)
       obtain ⟨hd, hhd⟩ : ∃ hd, hd + T = s2 + 4294967296 := ⟨s2 + 4294967296 - T, by omega⟩
       have hhdb : hd < 4294967296 := by omega
       have f2 : IntKind.u64.wrap ((s2 : Int) + 4294967296) = (s2 : Int) + 4294967296 := IntWalk.u64_in _ (by omega)
       have f3 : IntKind.u64.wrap ((s2 : Int) + 4294967296 - (T : Int)) = (hd : Int) := by rw [IntWalk.u64_in _ (by omega)]; omega
       have f4 : IntKind.u32.wrap (hd : Int) = (hd : Int) := by rw [IntKind.wrap_u32]; omega
       have HA5 : Hid (Arr .u32 (wr.setCell ⟨g, j + i, none⟩ (.int .u32 (hd : Int))) g 44 (ints (P ++ (dn ++ [hd]) ++ Z))) := by
        have := arr_set (x := hd) HA.out HP.out (k := i) (by rw [hml]; omega)
        rw [set_pass _ _ _ _ HL.out (by rw [HSL.out]; omega), List.drop_of_length_le (by rw [HSL.out]; exact Nat.le_refl _), List.append_nil] at this
        exact this
       have HG5 : Hid (w.grownBy (wr.setCell ⟨g, j + i, none⟩ (.int .u32 (hd : Int))) (some g)) := gb_set HG.out (.inr rfl) _
       go_wp2_with fail
       clear cu fu
       generalize wr.setCell ⟨g, j + i, none⟩ (.int .u32 (hd : Int)) = W5 at *
       obtain ⟨n, hnn⟩ : ∃ n, i = n := ⟨_, rfl⟩
       subst hnn
       go_loopw [10, 157] (fun vc vi wr => ∃ (k cy : Nat) (d2 : List Nat), k ≤ i ∧ vi = .int .i64 (k : Int) ∧ vc = .int .u64 (cy : Int) ∧ cy ≤ 1 ∧ d2.length = k ∧ Wd d2 ∧
         valN d2 + cy * 4294967296 ^ k = valN (dn.take k) + valN (vs.take k) ∧ Arr .u32 wr g 44 (ints (P ++ (d2 ++ (dn ++ [hd]).drop k) ++ Z)) ∧ w.grownBy wr (some g)) (fun _ vi _ => i - (intOf vi).toNat)
       case atStart => exact ⟨0, 0, [], by omega, rfl, rfl, by omega, rfl, (fun x hx => (by cases hx)), by simp [valN], by rw [List.nil_append, List.drop_zero]; exact HA5.out, HG5.out⟩
       case round =>
        obtain ⟨k, cy, d2, hk, rfl, rfl, hcy1, hd2l, hd2w, hval2, harr2, hgb2⟩ := hrel
        have HD2 := Hd hd2w
        have HVA2 := Hd hval2
        have HA2 := Hd harr2
        have HG2 := Hd hgb2
        have HL2 := Hd hd2l
        have hm2 : (d2 ++ (dn ++ [hd]).drop k).length = i + 1 := by rw [List.length_append, List.length_drop, List.length_append, HL.out, HL2.out, List.length_singleton]; omega
        clear hd2w hval2 harr2 hd2l
        by_cases hki : k < i
        ·have hcv := (HRV.out.grown hgb2 HNE.out)
         clear hgb2
         obtain ⟨y, hy⟩ : ∃ y, y = nat vs k := ⟨_, rfl⟩
         obtain ⟨x, hx⟩ : ∃ x, x = nat dn k := ⟨_, rfl⟩
         have hyb : y < 4294967296 := by rw [hy]; exact nat_lt HWV.out _
         have hxb : x < 4294967296 := by rw [hx]; exact nat_lt HD.out _
         have cv : wr.cell? ⟨go, vo + k, none⟩ = some (.int .u32 (y : Int)) := by
          rw [hy]
          exact Rd.cell' (c := c) (by rw [HVN.out]; exact hcv) rfl (by rw [HVN.out]; exact hki)
         have cu : wr.cell? ⟨g, j + k, none⟩ = some (.int .u32 (x : Int)) := by
          have := arr_cell HA2.out HP.out (k := k) (by rw [hm2]; omega)
          rw [nat_pass _ _ _ HL2.out, nat_append_left (by rw [HL.out]; exact hki), ← hx] at this
          exact this
         have fu := HA2.out.frozen (j + k)
         have HY := Hd hy
         have HX := Hd hx
         clear hy hx hcv
         obtain ⟨lo, cy2, hs, hlo⟩ := split_word (cy + (x + y))
         have hcy2 : cy2 ≤ 1 := by omega
         have n1 : (k : Int) < (i : Int) := by omega
         have n2 : (k : Int).toNat = k := by omega
         have n3 : (0 : Int) ≤ (k : Int) := by omega
         have n4 : (k : Int) < (i : Int) + 1 := by omega
         have n5 : k < i + 1 := by omega
         have f1 : IntKind.u64.wrap (x : Int) = (x : Int) := IntWalk.u64_in _ (by omega)
         have f2 : IntKind.u64.wrap (y : Int) = (y : Int) := IntWalk.u64_in _ (by omega)
         have f3 : IntKind.u64.wrap ((x : Int) + (y : Int)) = (x : Int) + (y : Int) := IntWalk.u64_in _ (by omega)
         have f4 : IntKind.u64.wrap ((cy : Int) + ((x : Int) + (y : Int))) = (cy : Int) + ((x : Int) + (y : Int)) := IntWalk.u64_in _ (by omega)
         have f5 : IntKind.u32.wrap ((cy : Int) + ((x : Int) + (y : Int))) = (lo : Int) := by rw [IntKind.wrap_u32]; omega
         have f6 : ((cy : Int) + ((x : Int) + (y : Int))) / 4294967296 = (cy2 : Int) := by omega
         have wi : IntKind.i64.wrap ((k : Int) + 1) = (k : Int) + 1 := IntWalk.i64_in _ (by omega)
         have HSW := Hd hs
         clear hs
         go_wp2_with fail
         go_quiet (fail)
         go_wp2_with fail
         go_roundw
         case rel =>
          refine ⟨k + 1, cy2, d2 ++ [lo], by omega, by go_num, rfl, hcy2, by simp [HL2.out], HD2.out.snoc hlo, ?_, ?_, gb_set (gb_drewN HG2.out _) (.inr rfl) _⟩
          ·rw [valN_snoc, HL2.out, valN_take_succ _ _ (by rw [HL.out]; exact hki), valN_take_succ _ _ (by rw [HVN.out]; exact hki), ← HX.out, ← HY.out, Nat.pow_succ]
           exact back_step HVA2.out HSW.out
          ·have := arr_set (x := lo) (HA2.out.drewN nq) HP.out (k := k) (by rw [hm2]; omega)
           rw [set_pass _ _ _ _ HL2.out (by rw [List.length_append, HL.out]; simp; omega)] at this
           exact this
         case measure => simp [intOf]; omega
        ·obtain rfl : k = i := by omega
         have hbk : valN d2 + cy * 4294967296 ^ k = valN dn + V := by
          have := HVA2.out
          rw [take_all HL.out, take_all HVN.out, ← HV.out] at this
          exact this
         have hD2P : valN d2 < 4294967296 ^ k := by
          have := valN_lt d2 HD2.out
          rwa [HL2.out] at this
         obtain ⟨e1, e2, e3, e4⟩ := digit_back HDE.out HSS.out (by omega) hbk hV0 HVP.out hD2P HDP.out hcy1 HQ1.out HQ2.out
         have hhd1 : hd = 4294967295 := by omega
         have cu : wr.cell? ⟨g, j + k, none⟩ = some (.int .u32 (hd : Int)) := by
          have := arr_cell HA2.out HP.out (k := k) (by rw [hm2]; omega)
          rw [nat_pass _ _ _ HL2.out, nat_append_right (by rw [HL.out]; exact Nat.le_refl _), HL.out, Nat.sub_self] at this
          exact this
         have fu := HA2.out.frozen (j + k)
         have hgq1 : g1 = S / V + 1 := e1
         obtain ⟨qq, hqq⟩ : ∃ qq, qq = S / V := ⟨_, rfl⟩
         have f1 : IntKind.u32.wrap (cy : Int) = (cy : Int) := by rw [IntKind.wrap_u32]; omega
         have f2 : IntKind.u32.wrap ((hd : Int) + (cy : Int)) = ((0 : Nat) : Int) := by rw [IntKind.wrap_u32]; omega
         have f3 : IntKind.u64.wrap ((g1 : Int) - 1) = (qq : Int) := by rw [IntWalk.u64_in _ (by omega)]; omega
         have f4 : IntKind.u32.wrap (qq : Int) = (qq : Int) := by rw [IntKind.wrap_u32]; omega
         have HQQ := Hd hqq
         have HE4 := Hd e4
         clear e1 e2 e3 e4 hqq hgq1 hbk hD2P hhd1 hgb2
         go_wp2_with fail
         go_ret
         refine ⟨d2 ++ [0], ?_, by simp [HL2.out, HVN.out], HD2.out.snoc (by omega), ?_, ?_, gb_set HG2.out (.inr rfl) _⟩
         ·rw [← HS.out, ← HV.out, ← HQQ.out]
          rfl
         ·rw [valN_snoc, HL2.out, Nat.mul_zero, Nat.add_zero, ← HS.out, ← HV.out]
          exact HE4.out
         ·have := arr_set (x := 0) HA2.out HP.out (k := k) (by rw [hm2]; omega)
          rw [set_pass _ _ _ _ HL2.out (by rw [List.length_append, HL.out]; simp), List.drop_of_length_le (by rw [List.length_append, HL.out]; simp), List.append_nil] at this
          exact this
   ·have t3 : decide ((r2 : Int) ≥ 4294967296) = false := decide_eq_false (by omega)
    go_wp2_with fail
    go_quiet (fail)
    go_wp2_with fail
    go_roundw
    case rel => exact ⟨g1, r2, rfl, rfl, HGR1.out, HQ11.out, by omega, gb_drewN HGX.out _⟩
    case measure => simp [intOf]; omega
  ·have t1 : decide ((gu : Int) ≥ 4294967296) = false := decide_eq_false (by omega)
   obtain ⟨m, hm⟩ : ∃ m, m = gu * v2 := ⟨_, rfl⟩
   have e4 : IntKind.u64.wrap ((gu : Int) * (v2 : Int)) = (m : Int) := mul_wrap (by omega) b2 hm
   by_cases hmz : z < m
   ·have t2 : decide ((m : Int) > (z : Int)) = true := decide_eq_true (by omega)
    have hmpos : 0 < gu := by
     rcases Nat.eq_zero_or_pos gu with h | h
     ·rw [h, Nat.zero_mul] at hm; omega
     ·exact h
    obtain ⟨g1, hg1⟩ : ∃ g1, gu = g1 + 1 := ⟨gu - 1, by omega⟩
    have e3 : IntKind.u64.wrap ((gu : Int) - 1) = (g1 : Int) := by rw [IntWalk.u64_in _ (by omega)]; omega
    have hq1 : S / V ≤ g1 := by
     have h1 := guess_down HVE.out HSE.out HLS.out HGRR.out (by rw [← hm, ← HZ.out]; exact hmz)
     have h2 : S / V < gu := Nat.div_lt_of_lt_mul (by rw [Nat.mul_comm]; exact h1)
     omega
    have hgr1 : g1 * v1 + r2 = top := by
     have : gu * v1 = g1 * v1 + v1 := by rw [hg1]; exact Nat.succ_mul g1 v1
     omega
    clear hm
    have HGR1 := Hd hgr1
    have HQ11 := Hd hq1
    have hglt : g1 < gu := by omega
    clear hgr1 hq1 hgr hq hr2 hg1
    by_cases hr2b : 4294967296 ≤ r2
    ·have t3 : decide ((r2 : Int) ≥ 4294967296) = true := decide_eq_true (by omega)
     have hgq : g1 < 4294967296 := guess_small HGR1.out HTP.out b4 hs2v hr2b
     have HQ1 := HQ11
     have HQ2 : Hid (g1 * V < S + V) := guess_pass HVE.out HLV.out HSE.out (by omega) HGR1.out hgq (by
      have := Nat.mul_le_mul (show g1 ≤ 4294967295 by omega) (show v2 ≤ 4294967295 by omega)
      omega)
     go_wp2_with fail
     go_quiet (fail)
     go_wp2_with fail
     go_loopw [9, 10, 83] (fun vb vc vi wr => ∃ (i b cy : Nat) (dn : List Nat), i ≤ n ∧ vi = .int .i64 (i : Int) ∧ vb = .int .u64 (b : Int) ∧ vc = .int .u64 (cy : Int) ∧ b ≤ 1 ∧ cy < 4294967296 ∧ dn.length = i ∧ Wd dn ∧
       valN dn + g1 * valN (vs.take i) = valN (seg.take i) + (cy + b) * 4294967296 ^ i ∧ Arr .u32 wr g 44 (ints (P ++ (dn ++ seg.drop i) ++ Z)) ∧ w.grownBy wr (some g)) (fun _ _ vi _ => n - (intOf vi).toNat)
     case atStart => exact ⟨0, 0, 0, [], by omega, rfl, rfl, rfl, by omega, by omega, rfl, (fun x hx => (by cases hx)), by simp [valN], by rw [List.nil_append, List.drop_zero]; exact HUX.out.drewN nq, gb_none (gb_drewN HGX.out nq)⟩
     case round =>
      obtain ⟨i, b, cy, dn, hi, rfl, rfl, rfl, hb, hcy, hdl, hdw, hval, harr, hgb⟩ := hrel
      have HD := Hd hdw
      have HVA := Hd hval
      have HA := Hd harr
      have HG := Hd hgb
      have HL := Hd hdl
      have hml : (dn ++ seg.drop i).length = n + 1 := by rw [List.length_append, List.length_drop, HL.out, HSL.out]; omega
      clear hdw hval harr hdl
      by_cases hin : i < n
      ·have hcv := (HRV.out.grown hgb HNE.out)
       clear hgb
       obtain ⟨y, hy⟩ : ∃ y, y = nat vs i := ⟨_, rfl⟩
       obtain ⟨x, hx⟩ : ∃ x, x = nat seg i := ⟨_, rfl⟩
       have hyb : y < 4294967296 := by rw [hy]; exact nat_lt HWV.out _
       have hxb : x < 4294967296 := by rw [hx]; exact nat_lt HWS.out _
       have cv : wr.cell? ⟨go, vo + i, none⟩ = some (.int .u32 (y : Int)) := by
        rw [hy]
        exact Rd.cell' (c := c) (by rw [HVN.out]; exact hcv) rfl (by rw [HVN.out]; exact hin)
       have cu : wr.cell? ⟨g, j + i, none⟩ = some (.int .u32 (x : Int)) := by
        have := arr_cell HA.out HP.out (k := i) (by rw [hml]; omega)
        rw [nat_pass _ _ _ HL.out, ← hx] at this
        exact this
       have fu := HA.out.frozen (j + i)
       have HY := Hd hy
       have HX := Hd hx
       clear hy hx hcv
       obtain ⟨p, hp⟩ : ∃ p, p = g1 * y := ⟨_, rfl⟩
       have hple : p ≤ 18446744065119617025 := by rw [hp]; exact mul_le_word hgq hyb
       have f1 : IntKind.u64.wrap ((g1 : Int) * (y : Int)) = (p : Int) := mul_wrap hgq hyb hp
       have HPP := Hd hp
       clear hp
       obtain ⟨lo, cy2, hs, hlo⟩ := split_word (cy + p)
       have hcy2 : cy2 < 4294967296 := by omega
       have n1 : (i : Int) < (n : Int) := by omega
       have n2 : (i : Int).toNat = i := by omega
       have n3 : (0 : Int) ≤ (i : Int) := by omega
       have n4 : (i : Int) < (n : Int) + 1 := by omega
       have n5 : i < n + 1 := by omega
       have f2 : IntKind.u64.wrap (y : Int) = (y : Int) := IntWalk.u64_in _ (by omega)
       have f3 : IntKind.u64.wrap (x : Int) = (x : Int) := IntWalk.u64_in _ (by omega)
       have f4 : IntKind.u64.wrap ((cy : Int) + (p : Int)) = (cy : Int) + (p : Int) := IntWalk.u64_in _ (by omega)
       have f5 : IntKind.u32.wrap ((cy : Int) + (p : Int)) = (lo : Int) := by rw [IntKind.wrap_u32]; omega
       have f6 : ((cy : Int) + (p : Int)) / 4294967296 = (cy2 : Int) := by omega
       have f7 : IntKind.u64.wrap (lo : Int) = (lo : Int) := IntWalk.u64_in _ (by omega)
       have f8 : IntKind.u64.wrap ((lo : Int) + (b : Int)) = (lo : Int) + (b : Int) := IntWalk.u64_in _ (by omega)
       have wi : IntKind.i64.wrap ((i : Int) + 1) = (i : Int) + 1 := IntWalk.i64_in _ (by omega)
       have HSW := Hd hs
       by_cases hxt : x < lo + b
       ·have q1 : decide ((x : Int) < (lo : Int) + (b : Int)) = true := decide_eq_true (by omega)
        obtain ⟨nx, hnx⟩ : ∃ nx, x + 1 * 4294967296 = nx + (lo + b) := ⟨x + 4294967296 - (lo + b), by omega⟩
        have hnxb : nx < 4294967296 := by omega
        have f9 : IntKind.u64.wrap ((x : Int) + 4294967296) = (x : Int) + 4294967296 := IntWalk.u64_in _ (by omega)
        have f10 : IntKind.u64.wrap ((x : Int) + 4294967296 - ((lo : Int) + (b : Int))) = (nx : Int) := by rw [IntWalk.u64_in _ (by omega)]; omega
        have f11 : IntKind.u32.wrap (nx : Int) = (nx : Int) := by rw [IntKind.wrap_u32]; omega
        have HNX := Hd hnx
        clear hs hnx
        go_wp2_with fail
        go_roundw
        case rel =>
         refine ⟨i + 1, 1, cy2, dn ++ [nx], by omega, by go_num, rfl, rfl, by omega, hcy2, by simp [HL.out], HD.out.snoc hnxb, ?_, ?_, gb_set HG.out (.inr rfl) _⟩
         ·rw [valN_snoc, HL.out, valN_take_succ _ _ (by rw [HVN.out]; exact hin), valN_take_succ _ _ (by rw [HSL.out]; omega), ← HY.out, ← HX.out, Nat.pow_succ]
          exact take_step HVA.out (by rw [← HPP.out]; exact HSW.out) HNX.out
         ·have := arr_set (x := nx) HA.out HP.out (k := i) (by rw [hml]; omega)
          rw [set_pass _ _ _ _ HL.out (by rw [HSL.out]; omega)] at this
          exact this
        case measure => simp [intOf]; omega
       ·have q1 : decide ((x : Int) < (lo : Int) + (b : Int)) = false := decide_eq_false (by omega)
        obtain ⟨nx, hnx⟩ : ∃ nx, x + 0 * 4294967296 = nx + (lo + b) := ⟨x - (lo + b), by omega⟩
        have hnxb : nx < 4294967296 := by omega
        have f10 : IntKind.u64.wrap ((x : Int) - ((lo : Int) + (b : Int))) = (nx : Int) := by rw [IntWalk.u64_in _ (by omega)]; omega
        have f11 : IntKind.u32.wrap (nx : Int) = (nx : Int) := by rw [IntKind.wrap_u32]; omega
        have HNX := Hd hnx
        clear hs hnx
        go_wp2_with fail
        go_roundw
        case rel =>
         refine ⟨i + 1, 0, cy2, dn ++ [nx], by omega, by go_num, rfl, rfl, by omega, hcy2, by simp [HL.out], HD.out.snoc hnxb, ?_, ?_, gb_set HG.out (.inr rfl) _⟩
         ·rw [valN_snoc, HL.out, valN_take_succ _ _ (by rw [HVN.out]; exact hin), valN_take_succ _ _ (by rw [HSL.out]; omega), ← HY.out, ← HX.out, Nat.pow_succ]
          exact take_step HVA.out (by rw [← HPP.out]; exact HSW.out) HNX.out
         ·have := arr_set (x := nx) HA.out HP.out (k := i) (by rw [hml]; omega)
          rw [set_pass _ _ _ _ HL.out (by rw [HSL.out]; omega)] at this
          exact this
        case measure => simp [intOf]; omega
      ·obtain rfl : i = n := by omega
       obtain ⟨T, hT⟩ : ∃ T, T = cy + b := ⟨_, rfl⟩
       have hds : seg.drop i = [s2] := by
        rw [drop_nat _ _ (by rw [HSL.out]; omega), List.drop_of_length_le (by rw [HSL.out]; exact Nat.le_refl _), HS2.out]
       have cu : wr.cell? ⟨g, j + i, none⟩ = some (.int .u32 (s2 : Int)) := by
        have := arr_cell HA.out HP.out (k := i) (by rw [hml]; omega)
        rw [nat_pass _ _ _ HL.out, ← HS2.out] at this
        exact this
       have fu := HA.out.frozen (j + i)
       have hTB : T ≤ 4294967296 := by omega
       have f1 : IntKind.u64.wrap ((cy : Int) + (b : Int)) = (T : Int) := by rw [IntWalk.u64_in _ (by omega)]; omega
       have hDE : valN dn + g1 * V = valN (seg.take i) + T * 4294967296 ^ i := by
        have := HVA.out
        rw [← hT] at this
        rw [HV.out]
        rw [take_all HVN.out] at this
        exact this
       have HDE := Hd hDE
       have HDS := Hd hds
       have hDP : valN dn < 4294967296 ^ i := by
        have := valN_lt dn HD.out
        rwa [HL.out] at this
       have HDP := Hd hDP
       clear hT hDE hds hDP hgb
       by_cases hsT : T ≤ s2
       ·have q1 : decide ((s2 : Int) ≥ (T : Int)) = true := decide_eq_true (by omega)
        have f2 : IntKind.u64.wrap ((s2 : Int) - (T : Int)) = ((s2 - T : Nat) : Int) := by rw [IntWalk.u64_in _ (by omega)]; omega
        obtain ⟨nx, hnx⟩ : ∃ nx, nx = s2 - T := ⟨_, rfl⟩
        rw [← hnx] at f2
        have hnxb : nx < 4294967296 := by omega
        have f3 : IntKind.u32.wrap (nx : Int) = (nx : Int) := by rw [IntKind.wrap_u32]; omega
        have f4 : IntKind.u32.wrap (g1 : Int) = (g1 : Int) := by rw [IntKind.wrap_u32]; omega
        have HNX := Hd hnx
        clear hnx
        go_wp2_with fail
        go_ret
        obtain ⟨e1, e2⟩ := digit_exact HDE.out HSS.out hsT hV0 HQ1.out
        refine ⟨dn ++ [nx], ?_, by simp [HL.out, HVN.out], HD.out.snoc hnxb, ?_, ?_, gb_set HG.out (.inr rfl) _⟩
        ·rw [← HS.out, ← HV.out, ← e1]
         rfl
        ·rw [valN_snoc, HL.out, HNX.out, ← HS.out, ← HV.out]
         exact e2
        ·have := arr_set (x := nx) HA.out HP.out (k := i) (by rw [hml]; omega)
         rw [set_pass _ _ _ _ HL.out (by rw [HSL.out]; omega), List.drop_of_length_le (by rw [HSL.out]; exact Nat.le_refl _), List.append_nil] at this
         exact this
       ·have q1 : decide ((s2 : Int) ≥ (T : Int)) = false := decide_eq_false (by omega)
        obtain ⟨hd, hhd⟩ : ∃ hd, hd + T = s2 + 4294967296 := ⟨s2 + 4294967296 - T, by omega⟩
        have hhdb : hd < 4294967296 := by omega
        have f2 : IntKind.u64.wrap ((s2 : Int) + 4294967296) = (s2 : Int) + 4294967296 := IntWalk.u64_in _ (by omega)
        have f3 : IntKind.u64.wrap ((s2 : Int) + 4294967296 - (T : Int)) = (hd : Int) := by rw [IntWalk.u64_in _ (by omega)]; omega
        have f4 : IntKind.u32.wrap (hd : Int) = (hd : Int) := by rw [IntKind.wrap_u32]; omega
        have HA5 : Hid (Arr .u32 (wr.setCell ⟨g, j + i, none⟩ (.int .u32 (hd : Int))) g 44 (ints (P ++ (dn ++ [hd]) ++ Z))) := by
         have := arr_set (x := hd) HA.out HP.out (k := i) (by rw [hml]; omega)
         rw [set_pass _ _ _ _ HL.out (by rw [HSL.out]; omega), List.drop_of_length_le (by rw [HSL.out]; exact Nat.le_refl _), List.append_nil] at this
         exact this
        have HG5 : Hid (w.grownBy (wr.setCell ⟨g, j + i, none⟩ (.int .u32 (hd : Int))) (some g)) := gb_set HG.out (.inr rfl) _
        go_wp2_with fail
        clear cu fu
        generalize wr.setCell ⟨g, j + i, none⟩ (.int .u32 (hd : Int)) = W5 at *
        obtain ⟨n, hnn⟩ : ∃ n, i = n := ⟨_, rfl⟩
        subst hnn
        go_loopw [10, 157] (fun vc vi wr => ∃ (k cy : Nat) (d2 : List Nat), k ≤ i ∧ vi = .int .i64 (k : Int) ∧ vc = .int .u64 (cy : Int) ∧ cy ≤ 1 ∧ d2.length = k ∧ Wd d2 ∧
          valN d2 + cy * 4294967296 ^ k = valN (dn.take k) + valN (vs.take k) ∧ Arr .u32 wr g 44 (ints (P ++ (d2 ++ (dn ++ [hd]).drop k) ++ Z)) ∧ w.grownBy wr (some g)) (fun _ vi _ => i - (intOf vi).toNat)
        case atStart => exact ⟨0, 0, [], by omega, rfl, rfl, by omega, rfl, (fun x hx => (by cases hx)), by simp [valN], by rw [List.nil_append, List.drop_zero]; exact HA5.out, HG5.out⟩
        case round =>
         obtain ⟨k, cy, d2, hk, rfl, rfl, hcy1, hd2l, hd2w, hval2, harr2, hgb2⟩ := hrel
         have HD2 := Hd hd2w
         have HVA2 := Hd hval2
         have HA2 := Hd harr2
         have HG2 := Hd hgb2
         have HL2 := Hd hd2l
         have hm2 : (d2 ++ (dn ++ [hd]).drop k).length = i + 1 := by rw [List.length_append, List.length_drop, List.length_append, HL.out, HL2.out, List.length_singleton]; omega
         clear hd2w hval2 harr2 hd2l
         by_cases hki : k < i
         ·have hcv := (HRV.out.grown hgb2 HNE.out)
          clear hgb2
          obtain ⟨y, hy⟩ : ∃ y, y = nat vs k := ⟨_, rfl⟩
          obtain ⟨x, hx⟩ : ∃ x, x = nat dn k := ⟨_, rfl⟩
          have hyb : y < 4294967296 := by rw [hy]; exact nat_lt HWV.out _
          have hxb : x < 4294967296 := by rw [hx]; exact nat_lt HD.out _
          have cv : wr.cell? ⟨go, vo + k, none⟩ = some (.int .u32 (y : Int)) := by
           rw [hy]
           exact Rd.cell' (c := c) (by rw [HVN.out]; exact hcv) rfl (by rw [HVN.out]; exact hki)
          have cu : wr.cell? ⟨g, j + k, none⟩ = some (.int .u32 (x : Int)) := by
           have := arr_cell HA2.out HP.out (k := k) (by rw [hm2]; omega)
           rw [nat_pass _ _ _ HL2.out, nat_append_left (by rw [HL.out]; exact hki), ← hx] at this
           exact this
          have fu := HA2.out.frozen (j + k)
          have HY := Hd hy
          have HX := Hd hx
          clear hy hx hcv
          obtain ⟨lo, cy2, hs, hlo⟩ := split_word (cy + (x + y))
          have hcy2 : cy2 ≤ 1 := by omega
          have n1 : (k : Int) < (i : Int) := by omega
          have n2 : (k : Int).toNat = k := by omega
          have n3 : (0 : Int) ≤ (k : Int) := by omega
          have n4 : (k : Int) < (i : Int) + 1 := by omega
          have n5 : k < i + 1 := by omega
          have f1 : IntKind.u64.wrap (x : Int) = (x : Int) := IntWalk.u64_in _ (by omega)
          have f2 : IntKind.u64.wrap (y : Int) = (y : Int) := IntWalk.u64_in _ (by omega)
          have f3 : IntKind.u64.wrap ((x : Int) + (y : Int)) = (x : Int) + (y : Int) := IntWalk.u64_in _ (by omega)
          have f4 : IntKind.u64.wrap ((cy : Int) + ((x : Int) + (y : Int))) = (cy : Int) + ((x : Int) + (y : Int)) := IntWalk.u64_in _ (by omega)
          have f5 : IntKind.u32.wrap ((cy : Int) + ((x : Int) + (y : Int))) = (lo : Int) := by rw [IntKind.wrap_u32]; omega
          have f6 : ((cy : Int) + ((x : Int) + (y : Int))) / 4294967296 = (cy2 : Int) := by omega
          have wi : IntKind.i64.wrap ((k : Int) + 1) = (k : Int) + 1 := IntWalk.i64_in _ (by omega)
          have HSW := Hd hs
          clear hs
          go_wp2_with fail
          go_quiet (fail)
          go_wp2_with fail
          go_roundw
          case rel =>
           refine ⟨k + 1, cy2, d2 ++ [lo], by omega, by go_num, rfl, hcy2, by simp [HL2.out], HD2.out.snoc hlo, ?_, ?_, gb_set (gb_drewN HG2.out _) (.inr rfl) _⟩
           ·rw [valN_snoc, HL2.out, valN_take_succ _ _ (by rw [HL.out]; exact hki), valN_take_succ _ _ (by rw [HVN.out]; exact hki), ← HX.out, ← HY.out, Nat.pow_succ]
            exact back_step HVA2.out HSW.out
           ·have := arr_set (x := lo) (HA2.out.drewN nq) HP.out (k := k) (by rw [hm2]; omega)
            rw [set_pass _ _ _ _ HL2.out (by rw [List.length_append, HL.out]; simp; omega)] at this
            exact this
          case measure => simp [intOf]; omega
         ·obtain rfl : k = i := by omega
          have hbk : valN d2 + cy * 4294967296 ^ k = valN dn + V := by
           have := HVA2.out
           rw [take_all HL.out, take_all HVN.out, ← HV.out] at this
           exact this
          have hD2P : valN d2 < 4294967296 ^ k := by
           have := valN_lt d2 HD2.out
           rwa [HL2.out] at this
          obtain ⟨e1, e2, e3, e4⟩ := digit_back HDE.out HSS.out (by omega) hbk hV0 HVP.out hD2P HDP.out hcy1 HQ1.out HQ2.out
          have hhd1 : hd = 4294967295 := by omega
          have cu : wr.cell? ⟨g, j + k, none⟩ = some (.int .u32 (hd : Int)) := by
           have := arr_cell HA2.out HP.out (k := k) (by rw [hm2]; omega)
           rw [nat_pass _ _ _ HL2.out, nat_append_right (by rw [HL.out]; exact Nat.le_refl _), HL.out, Nat.sub_self] at this
           exact this
          have fu := HA2.out.frozen (j + k)
          have hgq1 : g1 = S / V + 1 := e1
          obtain ⟨qq, hqq⟩ : ∃ qq, qq = S / V := ⟨_, rfl⟩
          have f1 : IntKind.u32.wrap (cy : Int) = (cy : Int) := by rw [IntKind.wrap_u32]; omega
          have f2 : IntKind.u32.wrap ((hd : Int) + (cy : Int)) = ((0 : Nat) : Int) := by rw [IntKind.wrap_u32]; omega
          have f3 : IntKind.u64.wrap ((g1 : Int) - 1) = (qq : Int) := by rw [IntWalk.u64_in _ (by omega)]; omega
          have f4 : IntKind.u32.wrap (qq : Int) = (qq : Int) := by rw [IntKind.wrap_u32]; omega
          have HQQ := Hd hqq
          have HE4 := Hd e4
          clear e1 e2 e3 e4 hqq hgq1 hbk hD2P hhd1 hgb2
          go_wp2_with fail
          go_ret
          refine ⟨d2 ++ [0], ?_, by simp [HL2.out, HVN.out], HD2.out.snoc (by omega), ?_, ?_, gb_set HG2.out (.inr rfl) _⟩
          ·rw [← HS.out, ← HV.out, ← HQQ.out]
           rfl
          ·rw [valN_snoc, HL2.out, Nat.mul_zero, Nat.add_zero, ← HS.out, ← HV.out]
           exact HE4.out
          ·have := arr_set (x := 0) HA2.out HP.out (k := k) (by rw [hm2]; omega)
           rw [set_pass _ _ _ _ HL2.out (by rw [List.length_append, HL.out]; simp), List.drop_of_length_le (by rw [List.length_append, HL.out]; simp), List.append_nil] at this
           exact this
    ·have t3 : decide ((r2 : Int) ≥ 4294967296) = false := decide_eq_false (by omega)
     go_wp2_with fail
     go_quiet (fail)
     go_wp2_with fail
     go_roundw
     case rel => exact ⟨g1, r2, rfl, rfl, HGR1.out, HQ11.out, by omega, gb_drewN HGX.out _⟩
     case measure => simp [intOf]; omega
   ·have t2 : decide ((m : Int) > (z : Int)) = false := decide_eq_false (by omega)
    have HQ1 := HQQ0
    have HQ2 : Hid (gu * V < S + V) := guess_pass HVE.out HLV.out HSE.out (by omega) HGRR.out (by omega) (by rw [← hm, ← HZ.out]; omega)
    have hgq : gu < 4294967296 := by omega
    obtain ⟨gq, hgqe⟩ : ∃ gq, gu = gq := ⟨_, rfl⟩
    subst hgqe
    clear hm hgr hq hr2
    go_wp2_with fail
    go_quiet (fail)
    go_wp2_with fail
    go_loopw [9, 10, 83] (fun vb vc vi wr => ∃ (i b cy : Nat) (dn : List Nat), i ≤ n ∧ vi = .int .i64 (i : Int) ∧ vb = .int .u64 (b : Int) ∧ vc = .int .u64 (cy : Int) ∧ b ≤ 1 ∧ cy < 4294967296 ∧ dn.length = i ∧ Wd dn ∧
      valN dn + gu * valN (vs.take i) = valN (seg.take i) + (cy + b) * 4294967296 ^ i ∧ Arr .u32 wr g 44 (ints (P ++ (dn ++ seg.drop i) ++ Z)) ∧ w.grownBy wr (some g)) (fun _ _ vi _ => n - (intOf vi).toNat)
    case atStart => exact ⟨0, 0, 0, [], by omega, rfl, rfl, rfl, by omega, by omega, rfl, (fun x hx => (by cases hx)), by simp [valN], by rw [List.nil_append, List.drop_zero]; exact HUX.out.drewN nq, gb_none (gb_drewN HGX.out nq)⟩
    case round =>
     obtain ⟨i, b, cy, dn, hi, rfl, rfl, rfl, hb, hcy, hdl, hdw, hval, harr, hgb⟩ := hrel
     have HD := Hd hdw
     have HVA := Hd hval
     have HA := Hd harr
     have HG := Hd hgb
     have HL := Hd hdl
     have hml : (dn ++ seg.drop i).length = n + 1 := by rw [List.length_append, List.length_drop, HL.out, HSL.out]; omega
     clear hdw hval harr hdl
     by_cases hin : i < n
     ·have hcv := (HRV.out.grown hgb HNE.out)
      clear hgb
      obtain ⟨y, hy⟩ : ∃ y, y = nat vs i := ⟨_, rfl⟩
      obtain ⟨x, hx⟩ : ∃ x, x = nat seg i := ⟨_, rfl⟩
      have hyb : y < 4294967296 := by rw [hy]; exact nat_lt HWV.out _
      have hxb : x < 4294967296 := by rw [hx]; exact nat_lt HWS.out _
      have cv : wr.cell? ⟨go, vo + i, none⟩ = some (.int .u32 (y : Int)) := by
       rw [hy]
       exact Rd.cell' (c := c) (by rw [HVN.out]; exact hcv) rfl (by rw [HVN.out]; exact hin)
      have cu : wr.cell? ⟨g, j + i, none⟩ = some (.int .u32 (x : Int)) := by
       have := arr_cell HA.out HP.out (k := i) (by rw [hml]; omega)
       rw [nat_pass _ _ _ HL.out, ← hx] at this
       exact this
      have fu := HA.out.frozen (j + i)
      have HY := Hd hy
      have HX := Hd hx
      clear hy hx hcv
      obtain ⟨p, hp⟩ : ∃ p, p = gu * y := ⟨_, rfl⟩
      have hple : p ≤ 18446744065119617025 := by rw [hp]; exact mul_le_word hgq hyb
      have f1 : IntKind.u64.wrap ((gu : Int) * (y : Int)) = (p : Int) := mul_wrap hgq hyb hp
      have HPP := Hd hp
      clear hp
      obtain ⟨lo, cy2, hs, hlo⟩ := split_word (cy + p)
      have hcy2 : cy2 < 4294967296 := by omega
      have n1 : (i : Int) < (n : Int) := by omega
      have n2 : (i : Int).toNat = i := by omega
      have n3 : (0 : Int) ≤ (i : Int) := by omega
      have n4 : (i : Int) < (n : Int) + 1 := by omega
      have n5 : i < n + 1 := by omega
      have f2 : IntKind.u64.wrap (y : Int) = (y : Int) := IntWalk.u64_in _ (by omega)
      have f3 : IntKind.u64.wrap (x : Int) = (x : Int) := IntWalk.u64_in _ (by omega)
      have f4 : IntKind.u64.wrap ((cy : Int) + (p : Int)) = (cy : Int) + (p : Int) := IntWalk.u64_in _ (by omega)
      have f5 : IntKind.u32.wrap ((cy : Int) + (p : Int)) = (lo : Int) := by rw [IntKind.wrap_u32]; omega
      have f6 : ((cy : Int) + (p : Int)) / 4294967296 = (cy2 : Int) := by omega
      have f7 : IntKind.u64.wrap (lo : Int) = (lo : Int) := IntWalk.u64_in _ (by omega)
      have f8 : IntKind.u64.wrap ((lo : Int) + (b : Int)) = (lo : Int) + (b : Int) := IntWalk.u64_in _ (by omega)
      have wi : IntKind.i64.wrap ((i : Int) + 1) = (i : Int) + 1 := IntWalk.i64_in _ (by omega)
      have HSW := Hd hs
      by_cases hxt : x < lo + b
      ·have q1 : decide ((x : Int) < (lo : Int) + (b : Int)) = true := decide_eq_true (by omega)
       obtain ⟨nx, hnx⟩ : ∃ nx, x + 1 * 4294967296 = nx + (lo + b) := ⟨x + 4294967296 - (lo + b), by omega⟩
       have hnxb : nx < 4294967296 := by omega
       have f9 : IntKind.u64.wrap ((x : Int) + 4294967296) = (x : Int) + 4294967296 := IntWalk.u64_in _ (by omega)
       have f10 : IntKind.u64.wrap ((x : Int) + 4294967296 - ((lo : Int) + (b : Int))) = (nx : Int) := by rw [IntWalk.u64_in _ (by omega)]; omega
       have f11 : IntKind.u32.wrap (nx : Int) = (nx : Int) := by rw [IntKind.wrap_u32]; omega
       have HNX := Hd hnx
       clear hs hnx
       go_wp2_with fail
       go_roundw
       case rel =>
        refine ⟨i + 1, 1, cy2, dn ++ [nx], by omega, by go_num, rfl, rfl, by omega, hcy2, by simp [HL.out], HD.out.snoc hnxb, ?_, ?_, gb_set HG.out (.inr rfl) _⟩
        ·rw [valN_snoc, HL.out, valN_take_succ _ _ (by rw [HVN.out]; exact hin), valN_take_succ _ _ (by rw [HSL.out]; omega), ← HY.out, ← HX.out, Nat.pow_succ]
         exact take_step HVA.out (by rw [← HPP.out]; exact HSW.out) HNX.out
        ·have := arr_set (x := nx) HA.out HP.out (k := i) (by rw [hml]; omega)
         rw [set_pass _ _ _ _ HL.out (by rw [HSL.out]; omega)] at this
         exact this
       case measure => simp [intOf]; omega
      ·have q1 : decide ((x : Int) < (lo : Int) + (b : Int)) = false := decide_eq_false (by omega)
       obtain ⟨nx, hnx⟩ : ∃ nx, x + 0 * 4294967296 = nx + (lo + b) := ⟨x - (lo + b), by omega⟩
       have hnxb : nx < 4294967296 := by omega
       have f10 : IntKind.u64.wrap ((x : Int) - ((lo : Int) + (b : Int))) = (nx : Int) := by rw [IntWalk.u64_in _ (by omega)]; omega
       have f11 : IntKind.u32.wrap (nx : Int) = (nx : Int) := by rw [IntKind.wrap_u32]; omega
       have HNX := Hd hnx
       clear hs hnx
       go_wp2_with fail
       go_roundw
       case rel =>
        refine ⟨i + 1, 0, cy2, dn ++ [nx], by omega, by go_num, rfl, rfl, by omega, hcy2, by simp [HL.out], HD.out.snoc hnxb, ?_, ?_, gb_set HG.out (.inr rfl) _⟩
        ·rw [valN_snoc, HL.out, valN_take_succ _ _ (by rw [HVN.out]; exact hin), valN_take_succ _ _ (by rw [HSL.out]; omega), ← HY.out, ← HX.out, Nat.pow_succ]
         exact take_step HVA.out (by rw [← HPP.out]; exact HSW.out) HNX.out
        ·have := arr_set (x := nx) HA.out HP.out (k := i) (by rw [hml]; omega)
         rw [set_pass _ _ _ _ HL.out (by rw [HSL.out]; omega)] at this
         exact this
       case measure => simp [intOf]; omega
     ·obtain rfl : i = n := by omega
      obtain ⟨T, hT⟩ : ∃ T, T = cy + b := ⟨_, rfl⟩
      have hds : seg.drop i = [s2] := by
       rw [drop_nat _ _ (by rw [HSL.out]; omega), List.drop_of_length_le (by rw [HSL.out]; exact Nat.le_refl _), HS2.out]
      have cu : wr.cell? ⟨g, j + i, none⟩ = some (.int .u32 (s2 : Int)) := by
       have := arr_cell HA.out HP.out (k := i) (by rw [hml]; omega)
       rw [nat_pass _ _ _ HL.out, ← HS2.out] at this
       exact this
      have fu := HA.out.frozen (j + i)
      have hTB : T ≤ 4294967296 := by omega
      have f1 : IntKind.u64.wrap ((cy : Int) + (b : Int)) = (T : Int) := by rw [IntWalk.u64_in _ (by omega)]; omega
      have hDE : valN dn + gu * V = valN (seg.take i) + T * 4294967296 ^ i := by
       have := HVA.out
       rw [← hT] at this
       rw [HV.out]
       rw [take_all HVN.out] at this
       exact this
      have HDE := Hd hDE
      have HDS := Hd hds
      have hDP : valN dn < 4294967296 ^ i := by
       have := valN_lt dn HD.out
       rwa [HL.out] at this
      have HDP := Hd hDP
      clear hT hDE hds hDP hgb
      by_cases hsT : T ≤ s2
      ·have q1 : decide ((s2 : Int) ≥ (T : Int)) = true := decide_eq_true (by omega)
       have f2 : IntKind.u64.wrap ((s2 : Int) - (T : Int)) = ((s2 - T : Nat) : Int) := by rw [IntWalk.u64_in _ (by omega)]; omega
       obtain ⟨nx, hnx⟩ : ∃ nx, nx = s2 - T := ⟨_, rfl⟩
       rw [← hnx] at f2
       have hnxb : nx < 4294967296 := by omega
       have f3 : IntKind.u32.wrap (nx : Int) = (nx : Int) := by rw [IntKind.wrap_u32]; omega
       have f4 : IntKind.u32.wrap (gu : Int) = (gu : Int) := by rw [IntKind.wrap_u32]; omega
       have HNX := Hd hnx
       clear hnx
       go_wp2_with fail
       go_ret
       obtain ⟨e1, e2⟩ := digit_exact HDE.out HSS.out hsT hV0 HQ1.out
       refine ⟨dn ++ [nx], ?_, by simp [HL.out, HVN.out], HD.out.snoc hnxb, ?_, ?_, gb_set HG.out (.inr rfl) _⟩
       ·rw [← HS.out, ← HV.out, ← e1]
        rfl
       ·rw [valN_snoc, HL.out, HNX.out, ← HS.out, ← HV.out]
        exact e2
       ·have := arr_set (x := nx) HA.out HP.out (k := i) (by rw [hml]; omega)
        rw [set_pass _ _ _ _ HL.out (by rw [HSL.out]; omega), List.drop_of_length_le (by rw [HSL.out]; exact Nat.le_refl _), List.append_nil] at this
        exact this
      ·have q1 : decide ((s2 : Int) ≥ (T : Int)) = false := decide_eq_false (by omega)
       obtain ⟨hd, hhd⟩ : ∃ hd, hd + T = s2 + 4294967296 := ⟨s2 + 4294967296 - T, by omega⟩
       have hhdb : hd < 4294967296 := by omega
       have f2 : IntKind.u64.wrap ((s2 : Int) + 4294967296) = (s2 : Int) + 4294967296 := IntWalk.u64_in _ (by omega)
       have f3 : IntKind.u64.wrap ((s2 : Int) + 4294967296 - (T : Int)) = (hd : Int) := by rw [IntWalk.u64_in _ (by omega)]; omega
       have f4 : IntKind.u32.wrap (hd : Int) = (hd : Int) := by rw [IntKind.wrap_u32]; omega
       have HA5 : Hid (Arr .u32 (wr.setCell ⟨g, j + i, none⟩ (.int .u32 (hd : Int))) g 44 (ints (P ++ (dn ++ [hd]) ++ Z))) := by
        have := arr_set (x := hd) HA.out HP.out (k := i) (by rw [hml]; omega)
        rw [set_pass _ _ _ _ HL.out (by rw [HSL.out]; omega), List.drop_of_length_le (by rw [HSL.out]; exact Nat.le_refl _), List.append_nil] at this
        exact this
       have HG5 : Hid (w.grownBy (wr.setCell ⟨g, j + i, none⟩ (.int .u32 (hd : Int))) (some g)) := gb_set HG.out (.inr rfl) _
       go_wp2_with fail
       clear cu fu
       generalize wr.setCell ⟨g, j + i, none⟩ (.int .u32 (hd : Int)) = W5 at *
       obtain ⟨n, hnn⟩ : ∃ n, i = n := ⟨_, rfl⟩
       subst hnn
       go_loopw [10, 157] (fun vc vi wr => ∃ (k cy : Nat) (d2 : List Nat), k ≤ i ∧ vi = .int .i64 (k : Int) ∧ vc = .int .u64 (cy : Int) ∧ cy ≤ 1 ∧ d2.length = k ∧ Wd d2 ∧
         valN d2 + cy * 4294967296 ^ k = valN (dn.take k) + valN (vs.take k) ∧ Arr .u32 wr g 44 (ints (P ++ (d2 ++ (dn ++ [hd]).drop k) ++ Z)) ∧ w.grownBy wr (some g)) (fun _ vi _ => i - (intOf vi).toNat)
       case atStart => exact ⟨0, 0, [], by omega, rfl, rfl, by omega, rfl, (fun x hx => (by cases hx)), by simp [valN], by rw [List.nil_append, List.drop_zero]; exact HA5.out, HG5.out⟩
       case round =>
        obtain ⟨k, cy, d2, hk, rfl, rfl, hcy1, hd2l, hd2w, hval2, harr2, hgb2⟩ := hrel
        have HD2 := Hd hd2w
        have HVA2 := Hd hval2
        have HA2 := Hd harr2
        have HG2 := Hd hgb2
        have HL2 := Hd hd2l
        have hm2 : (d2 ++ (dn ++ [hd]).drop k).length = i + 1 := by rw [List.length_append, List.length_drop, List.length_append, HL.out, HL2.out, List.length_singleton]; omega
        clear hd2w hval2 harr2 hd2l
        by_cases hki : k < i
        ·have hcv := (HRV.out.grown hgb2 HNE.out)
         clear hgb2
         obtain ⟨y, hy⟩ : ∃ y, y = nat vs k := ⟨_, rfl⟩
         obtain ⟨x, hx⟩ : ∃ x, x = nat dn k := ⟨_, rfl⟩
         have hyb : y < 4294967296 := by rw [hy]; exact nat_lt HWV.out _
         have hxb : x < 4294967296 := by rw [hx]; exact nat_lt HD.out _
         have cv : wr.cell? ⟨go, vo + k, none⟩ = some (.int .u32 (y : Int)) := by
          rw [hy]
          exact Rd.cell' (c := c) (by rw [HVN.out]; exact hcv) rfl (by rw [HVN.out]; exact hki)
         have cu : wr.cell? ⟨g, j + k, none⟩ = some (.int .u32 (x : Int)) := by
          have := arr_cell HA2.out HP.out (k := k) (by rw [hm2]; omega)
          rw [nat_pass _ _ _ HL2.out, nat_append_left (by rw [HL.out]; exact hki), ← hx] at this
          exact this
         have fu := HA2.out.frozen (j + k)
         have HY := Hd hy
         have HX := Hd hx
         clear hy hx hcv
         obtain ⟨lo, cy2, hs, hlo⟩ := split_word (cy + (x + y))
         have hcy2 : cy2 ≤ 1 := by omega
         have n1 : (k : Int) < (i : Int) := by omega
         have n2 : (k : Int).toNat = k := by omega
         have n3 : (0 : Int) ≤ (k : Int) := by omega
         have n4 : (k : Int) < (i : Int) + 1 := by omega
         have n5 : k < i + 1 := by omega
         have f1 : IntKind.u64.wrap (x : Int) = (x : Int) := IntWalk.u64_in _ (by omega)
         have f2 : IntKind.u64.wrap (y : Int) = (y : Int) := IntWalk.u64_in _ (by omega)
         have f3 : IntKind.u64.wrap ((x : Int) + (y : Int)) = (x : Int) + (y : Int) := IntWalk.u64_in _ (by omega)
         have f4 : IntKind.u64.wrap ((cy : Int) + ((x : Int) + (y : Int))) = (cy : Int) + ((x : Int) + (y : Int)) := IntWalk.u64_in _ (by omega)
         have f5 : IntKind.u32.wrap ((cy : Int) + ((x : Int) + (y : Int))) = (lo : Int) := by rw [IntKind.wrap_u32]; omega
         have f6 : ((cy : Int) + ((x : Int) + (y : Int))) / 4294967296 = (cy2 : Int) := by omega
         have wi : IntKind.i64.wrap ((k : Int) + 1) = (k : Int) + 1 := IntWalk.i64_in _ (by omega)
         have HSW := Hd hs
         clear hs
         go_wp2_with fail
         go_quiet (fail)
         go_wp2_with fail
         go_roundw
         case rel =>
          refine ⟨k + 1, cy2, d2 ++ [lo], by omega, by go_num, rfl, hcy2, by simp [HL2.out], HD2.out.snoc hlo, ?_, ?_, gb_set (gb_drewN HG2.out _) (.inr rfl) _⟩
          ·rw [valN_snoc, HL2.out, valN_take_succ _ _ (by rw [HL.out]; exact hki), valN_take_succ _ _ (by rw [HVN.out]; exact hki), ← HX.out, ← HY.out, Nat.pow_succ]
           exact back_step HVA2.out HSW.out
          ·have := arr_set (x := lo) (HA2.out.drewN nq) HP.out (k := k) (by rw [hm2]; omega)
           rw [set_pass _ _ _ _ HL2.out (by rw [List.length_append, HL.out]; simp; omega)] at this
           exact this
         case measure => simp [intOf]; omega
        ·obtain rfl : k = i := by omega
         have hbk : valN d2 + cy * 4294967296 ^ k = valN dn + V := by
          have := HVA2.out
          rw [take_all HL.out, take_all HVN.out, ← HV.out] at this
          exact this
         have hD2P : valN d2 < 4294967296 ^ k := by
          have := valN_lt d2 HD2.out
          rwa [HL2.out] at this
         obtain ⟨e1, e2, e3, e4⟩ := digit_back HDE.out HSS.out (by omega) hbk hV0 HVP.out hD2P HDP.out hcy1 HQ1.out HQ2.out
         have hhd1 : hd = 4294967295 := by omega
         have cu : wr.cell? ⟨g, j + k, none⟩ = some (.int .u32 (hd : Int)) := by
          have := arr_cell HA2.out HP.out (k := k) (by rw [hm2]; omega)
          rw [nat_pass _ _ _ HL2.out, nat_append_right (by rw [HL.out]; exact Nat.le_refl _), HL.out, Nat.sub_self] at this
          exact this
         have fu := HA2.out.frozen (j + k)
         have hgq1 : gu = S / V + 1 := e1
         obtain ⟨qq, hqq⟩ : ∃ qq, qq = S / V := ⟨_, rfl⟩
         have f1 : IntKind.u32.wrap (cy : Int) = (cy : Int) := by rw [IntKind.wrap_u32]; omega
         have f2 : IntKind.u32.wrap ((hd : Int) + (cy : Int)) = ((0 : Nat) : Int) := by rw [IntKind.wrap_u32]; omega
         have f3 : IntKind.u64.wrap ((gu : Int) - 1) = (qq : Int) := by rw [IntWalk.u64_in _ (by omega)]; omega
         have f4 : IntKind.u32.wrap (qq : Int) = (qq : Int) := by rw [IntKind.wrap_u32]; omega
         have HQQ := Hd hqq
         have HE4 := Hd e4
         clear e1 e2 e3 e4 hqq hgq1 hbk hD2P hhd1 hgb2
         go_wp2_with fail
         go_ret
         refine ⟨d2 ++ [0], ?_, by simp [HL2.out, HVN.out], HD2.out.snoc (by omega), ?_, ?_, gb_set HG2.out (.inr rfl) _⟩
         ·rw [← HS.out, ← HV.out, ← HQQ.out]
          rfl
         ·rw [valN_snoc, HL2.out, Nat.mul_zero, Nat.add_zero, ← HS.out, ← HV.out]
          exact HE4.out
         ·have := arr_set (x := 0) HA2.out HP.out (k := k) (by rw [hm2]; omega)
          rw [set_pass _ _ _ _ HL2.out (by rw [List.length_append, HL.out]; simp), List.drop_of_length_le (by rw [List.length_append, HL.out]; simp), List.append_nil] at this
          exact this
theorem top_div {V : Nat} (h : V ≠ 0) : nat (dg V) ((dg V).length - 1) = V / 4294967296 ^ ((dg V).length - 1) := by
 have hlen : 0 < (dg V).length := (wlen_pos (n := V)).2 h
 have h1 := valN_dg V
 rw [valN_split (dg V) ((dg V).length - 1) (by omega), valN_drop _ _ (by omega), show (dg V).length - 1 + 1 = (dg V).length by omega, List.drop_length] at h1
 have h2 := valN_lt _ ((Wd_dg V).take ((dg V).length - 1))
 rw [List.length_take, Nat.min_eq_left (by omega)] at h2
 simp only [valN, Nat.mul_zero, Nat.add_zero] at h1
 generalize nat (dg V) ((dg V).length - 1) = t at *
 generalize valN ((dg V).take ((dg V).length - 1)) = lo at *
 generalize (dg V).length - 1 = k at *
 rw [← h1, Nat.add_comm, Nat.mul_add_div (by omega), Nat.div_eq_of_lt h2, Nat.add_zero]
theorem shift_norm {n s : Nat} (h : n ≠ 0) (hs : s < 32) (h1 : 2147483648 ≤ nat (dg n) ((dg n).length - 1) * 2 ^ s) (h2 : nat (dg n) ((dg n).length - 1) * 2 ^ s < 4294967296) :
  (dg (n * 2 ^ s)).length = (dg n).length ∧ 2147483648 ≤ nat (dg (n * 2 ^ s)) ((dg n).length - 1) := by
 have hlen : 0 < (dg n).length := (wlen_pos (n := n)).2 h
 have hp : 0 < 2 ^ s := Nat.pow_pos (by decide)
 have hB := pow_split hs
 rw [top_div h] at h1 h2
 obtain ⟨k, hk⟩ : ∃ k, (dg n).length = k + 1 := ⟨(dg n).length - 1, by omega⟩
 rw [hk, Nat.add_sub_cancel] at h1 h2
 have hP : 0 < 4294967296 ^ k := Nat.pow_pos (by decide)
 have hdm := Nat.div_add_mod n (4294967296 ^ k)
 have hml := Nat.mod_lt n hP
 have hup : (n / 4294967296 ^ k + 1) * 2 ^ s ≤ 4294967296 := by
  rw [← hB] at h2 ⊢
  rw [Nat.mul_comm (2 ^ s)] at h2 ⊢
  have := Nat.lt_of_mul_lt_mul_right h2
  exact Nat.mul_le_mul_right _ this
 have hlt : n * 2 ^ s < 4294967296 ^ (k + 1) := by
  rw [Nat.pow_succ]
  have e1 : n < (n / 4294967296 ^ k + 1) * 4294967296 ^ k := by rw [Nat.succ_mul, Nat.mul_comm]; omega
  have e2 := Nat.mul_lt_mul_of_pos_right e1 hp
  have e3 := Nat.mul_le_mul_left (4294967296 ^ k) hup
  have e4 : (n / 4294967296 ^ k + 1) * 4294967296 ^ k * 2 ^ s = 4294967296 ^ k * ((n / 4294967296 ^ k + 1) * 2 ^ s) := by grind
  omega
 have hge : 2147483648 * 4294967296 ^ k ≤ n * 2 ^ s := by
  have e1 := Nat.mul_le_mul_right (4294967296 ^ k) h1
  have e2 : n / 4294967296 ^ k * 2 ^ s * 4294967296 ^ k = (4294967296 ^ k * (n / 4294967296 ^ k)) * 2 ^ s := by grind
  have e3 : (4294967296 ^ k * (n / 4294967296 ^ k)) * 2 ^ s ≤ n * 2 ^ s := Nat.mul_le_mul_right _ (by omega)
  omega
 have hl1 := dg_len_le hlt
 have hl2 : k < (dg (n * 2 ^ s)).length := by
  refine Nat.lt_of_not_le fun hle => ?_
  have := lt_dg_len (n * 2 ^ s)
  have h3 : 4294967296 ^ (dg (n * 2 ^ s)).length ≤ 4294967296 ^ k := Nat.pow_le_pow_right (by decide) hle
  have : 1 * 4294967296 ^ k ≤ 2147483648 * 4294967296 ^ k := Nat.mul_le_mul_right _ (by decide)
  omega
 have hl : (dg (n * 2 ^ s)).length = k + 1 := by omega
 refine ⟨by rw [hl, hk], ?_⟩
 have ht := top_div (V := n * 2 ^ s) (by have : 0 < 2147483648 * 4294967296 ^ k := Nat.mul_pos (by decide) hP; omega)
 rw [hl, Nat.add_sub_cancel] at ht
 rw [hk, Nat.add_sub_cancel, ht]
 exact (Nat.le_div_iff_mul_le hP).2 hge
theorem shift_first {m s V lb : Nat} (hs : s < 32) (h1 : 2147483648 * 4294967296 ^ lb ≤ V) (k la : Nat) (hm : m < 4294967296 ^ la) (hk : la = k + lb) : m * 2 ^ s < V * 4294967296 ^ k := by
 have hp : 2 ^ s ≤ 2 ^ 31 := Nat.pow_le_pow_right (by decide) (by omega)
 have hP : 0 < 2 ^ s := Nat.pow_pos (by decide)
 have e1 : m * 2 ^ s < 4294967296 ^ la * 2 ^ s := Nat.mul_lt_mul_of_pos_right hm hP
 have e2 : 4294967296 ^ la * 2 ^ s ≤ 4294967296 ^ la * 2 ^ 31 := Nat.mul_le_mul_left _ hp
 have e3 := Nat.mul_le_mul_right (4294967296 ^ k) h1
 have e4 : 2147483648 * 4294967296 ^ lb * 4294967296 ^ k = 4294967296 ^ la * 2 ^ 31 := by rw [hk, Nat.pow_add]; grind
 omega
theorem top_ge {V : Nat} {lb : Nat} (hl : (dg V).length = lb + 1) (h : 2147483648 ≤ nat (dg V) lb) : 2147483648 * 4294967296 ^ lb ≤ V := by
 have ht := top_div (V := V) (by rintro rfl; simp [dg_zero] at hl)
 rw [hl, Nat.add_sub_cancel] at ht
 rw [ht] at h
 have := (Nat.le_div_iff_mul_le (Nat.pow_pos (n := lb) (show 0 < 4294967296 by decide))).1 h
 omega
theorem div_cut {U : List Nat} {V n j : Nat} (hw : Wd U) (hl : j + (n + 1) ≤ U.length) (hlt : valN U < V * 4294967296 ^ (j + 1)) (hV : V < 4294967296 ^ n) :
  valN ((U.drop j).take (n + 1)) < 4294967296 * V ∧ valN U = valN (U.take j) + 4294967296 ^ j * valN ((U.drop j).take (n + 1)) ∧ valN (U.drop (j + (n + 1))) = 0 := by
 have e1 := valN_split U j (by omega)
 have e2 := valN_split (U.drop j) (n + 1) (by rw [List.length_drop]; omega)
 rw [List.drop_drop] at e2
 have hP : 0 < 4294967296 ^ j := Nat.pow_pos (by decide)
 have hz : valN (U.drop (j + (n + 1))) = 0 := by
  rcases Nat.eq_zero_or_pos (valN (U.drop (j + (n + 1)))) with h | h
  ·exact h
  ·exfalso
   have a1 : 4294967296 ^ (n + 1) * 1 ≤ 4294967296 ^ (n + 1) * valN (U.drop (j + (n + 1))) := Nat.mul_le_mul_left _ h
   have a2 : 4294967296 ^ j * 4294967296 ^ (n + 1) ≤ 4294967296 ^ j * valN (U.drop j) := Nat.mul_le_mul_left _ (by omega)
   have a3 : V * 4294967296 ^ (j + 1) < 4294967296 ^ n * 4294967296 ^ (j + 1) := Nat.mul_lt_mul_of_pos_right hV (Nat.pow_pos (by decide))
   rw [← Nat.pow_add] at a2 a3
   rw [show n + (j + 1) = j + (n + 1) by omega] at a3
   omega
 rw [hz, Nat.mul_zero, Nat.add_zero] at e2
 rw [e2] at e1
 refine ⟨?_, e1, hz⟩
 have a1 : 4294967296 ^ j * valN ((U.drop j).take (n + 1)) < 4294967296 ^ j * (4294967296 * V) := by
  have : V * 4294967296 ^ (j + 1) = 4294967296 ^ j * (4294967296 * V) := by rw [Nat.pow_succ]; grind
  omega
 exact Nat.lt_of_mul_lt_mul_left a1
theorem div_round {M0 P0 V q qd sv sv' j : Nat} (h : M0 = (P0 + 4294967296 ^ j * sv) + V * 4294967296 ^ (j + 1) * q) (hs : sv = V * qd + sv') :
  M0 = (P0 + 4294967296 ^ j * sv') + V * 4294967296 ^ j * (qd + 4294967296 * q) := by
 rw [h, hs, Nat.pow_succ]
 grind
theorem div_less {P0 sv' V j : Nat} (hP : P0 < 4294967296 ^ j) (hs : sv' < V) : P0 + 4294967296 ^ j * sv' < V * 4294967296 ^ j := by
 have : 4294967296 ^ j * (sv' + 1) ≤ 4294967296 ^ j * V := Nat.mul_le_mul_left (4294967296 ^ j) hs
 rw [Nat.mul_add] at this
 rw [Nat.mul_comm V]
 omega
theorem div_end {m n s U q : Nat} (hn : 0 < n) (h : m * 2 ^ s = U + n * 2 ^ s * q) (hU : U < n * 2 ^ s) : q = m / n ∧ U / 2 ^ s = m % n := by
 have hp : 0 < 2 ^ s := Nat.pow_pos (by decide)
 have hq : q = m / n := by
  have h1 : (m * 2 ^ s) / (n * 2 ^ s) = q := by
   rw [h, Nat.add_comm, Nat.mul_add_div (Nat.mul_pos hn hp), Nat.div_eq_of_lt hU, Nat.add_zero]
  rw [Nat.mul_div_mul_right _ _ hp] at h1
  exact h1.symm
 refine ⟨hq, ?_⟩
 have hdm := Nat.div_add_mod m n
 have hU2 : U = (m % n) * 2 ^ s := by
  rw [hq] at h
  have e : m * 2 ^ s = n * 2 ^ s * (m / n) + (m % n) * 2 ^ s := by
   conv => lhs; rw [← hdm]
   grind
  omega
 rw [hU2, Nat.mul_div_cancel _ hp]
def DivPost (w : World) (m n : Nat) (e : Ending) (w' : World) : Prop := ∃ v v2, e = .returned (.tuple #[v, v2]) ∧ RN w' v (m / n) ∧ RN w' v2 (m % n) ∧ Below w.heap.size w w'
set_option maxHeartbeats 16000000 in
set_option maxRecDepth 100000 in
theorem div_calls (w : World) (v v2 : Value) (m n : Nat) (h : RN w v m) (h2 : RN w v2 n) (hm : wlen m ≤ 10000000000) (hn : wlen n ≤ 10000000000) (hn0 : n ≠ 0) :
  Calls Tryd.prog 63 #[v, v2] w fun e w' => DivPost w m n e w' := by
 have HRN := Hd h
 have HRN2 := Hd h2
 clear h h2
 obtain ⟨A, c, xs, rfl, hc, HX, HR0⟩ := HRN.out.opened
 obtain ⟨A2, c2, ys, rfl, hc2, HY, HR20⟩ := HRN2.out.opened
 by_cases hmn : m < n
 ·have hcd : decide ((-1 : Int) < 0) = true := rfl
  have hci : cmpI m n = -1 := by unfold cmpI; rw [if_neg (by omega), if_pos hmn]
  go_enter Tryd.func63, Tryd.ntmps63
  go_wp2_with fail
  refine (cmp_calls _ _ _ m n HRN.out HRN2.out (by omega) (by omega)).mono ?_
  rintro e w1 ⟨rfl, hb1⟩
  rw [hci]
  have HB1 := Hd hb1
  have HRN_1 := Hd (Rd.below HRN.out hb1)
  clear hb1 hci
  go_wp2_with fail
  refine (own_calls _ _ _ HRN_1.out (by have : (dg m).length = wlen m := rfl; omega)).mono ?_
  rintro e w2 ⟨v, rfl, hv, hb2⟩
  have HB2 := Hd (HB1.out.trans (hb2.mono HB1.out.size))
  go_wp2_with fail
  go_ret2
  exact ⟨_, _, rfl, by rw [Nat.div_eq_of_lt hmn]; exact Rd.nil _, by rw [Nat.mod_eq_of_lt hmn]; exact hv, HB2.out⟩
 have hle : n ≤ m := by omega
 have hci : ¬ cmpI m n < 0 := by unfold cmpI; split <;> (try split) <;> omega
 obtain ⟨ci, hci2⟩ : ∃ ci, cmpI m n = ci := ⟨_, rfl⟩
 rw [hci2] at hci
 have hcd : decide (ci < 0) = false := decide_eq_false hci
 go_enter Tryd.func63, Tryd.ntmps63
 go_wp2_with fail
 refine (cmp_calls _ _ _ m n HRN.out HRN2.out (by omega) (by omega)).mono ?_
 rintro e w1 ⟨rfl, hb1⟩
 rw [hci2]
 have HB1 := Hd hb1
 have HRN_1 := Hd (Rd.below HRN.out hb1)
 have HRN2_1 := Hd (Rd.below HRN2.out hb1)
 clear hb1 hci2
 go_wp2_with fail
 refine (small_calls _ _ m HRN_1.out).mono ?_
 rintro e w2 ⟨⟨x, rfl, hx⟩, hb2⟩
 have HB2 := Hd (HB1.out.trans (hb2.mono HB1.out.size))
 have HRN_2 := Hd (Rd.below HRN_1.out hb2)
 have HRN2_2 := Hd (Rd.below HRN2_1.out hb2)
 have HXE := Hd hx
 clear hb2 hx HRN_1 HRN2_1 HB1 HRN HRN2 HR0 HR20
 by_cases hs64 : m < 18446744073709551616
 ·have d1 : decide (m < 18446744073709551616) = true := decide_eq_true hs64
  go_wp2_with fail
  refine (small_calls _ _ n HRN2_2.out).mono ?_
  rintro e w3 ⟨⟨y, rfl, hy⟩, hb3⟩
  have HB3 := Hd (HB2.out.trans (hb3.mono HB2.out.size))
  clear hb3
  have hye := hy (by omega)
  have hxe := HXE.out hs64
  clear hy HXE
  subst hxe
  subst hye
  obtain ⟨⟨df1, df2⟩, df3, df4⟩ := div_facts (z := x) (d := y) rfl rfl
  obtain ⟨q, hq⟩ : ∃ q, q = x / y := ⟨_, rfl⟩
  obtain ⟨r, hr⟩ : ∃ r, r = x % y := ⟨_, rfl⟩
  rw [← hq] at df1 df3
  rw [← hr] at df2 df4
  have hqle : q ≤ x := by rw [hq]; exact Nat.div_le_self _ _
  have hrle : r ≤ x := by rw [hr]; exact Nat.mod_le _ _
  have HQ := Hd hq
  have HRr := Hd hr
  have f1 : IntKind.u64.wrap (q : Int) = (q : Int) := IntWalk.u64_in _ (by omega)
  have f2 : IntKind.u64.wrap (r : Int) = (r : Int) := IntWalk.u64_in _ (by omega)
  have d0 : ((y : Int) == 0) = false := by
   have : (y : Int) ≠ 0 := by omega
   simpa using this
  have d2 : (y : Int) ≠ 0 := by omega
  have d3 : decide (y < 18446744073709551616) = true := decide_eq_true (by omega)
  have hq64 : q < 18446744073709551616 := by omega
  have hr64 : r < 18446744073709551616 := by omega
  clear hq hr hqle hrle
  go_wp2_with fail
  have hq64 : q < 18446744073709551616 := by omega
  have hr64 : r < 18446744073709551616 := by omega
  go_region_held3 (fun W => True) (exact True.intro) (first | (go_at_call 52; refine (of_calls _ _ ?_).mono ?_; omega; rintro e w' ⟨v, rfl, hv, hb⟩))
  rename_i w5 v5 hv5 hb5 _
  have hb5' : Below w3.heap.size w3 w5 := (Below.drew (Below.refl _ _)).trans hb5
  have HB5 := Hd (HB3.out.trans (hb5'.mono HB3.out.size))
  have HB6 := Hd (HB5.out.trans (hb.mono HB5.out.size))
  have HV5 := Hd (Rd.below hv5 hb)
  have HV6 := Hd hv
  clear hv5 hb5 hb5' hb hv
  go_wp2_with fail
  go_ret2
  exact ⟨_, _, rfl, by have := HV5.out; rw [HQ.out] at this; exact this, by have := HV6.out; rw [HRr.out] at this; exact this, HB6.out⟩
 ·have d1 : decide (m < 18446744073709551616) = false := decide_eq_false hs64
  have hyl : 0 < ys.length := by rw [HY.out]; exact wlen_pos.2 hn0
  by_cases hy1 : ys.length = 1
  ·have q1 : ((ys.length : Int) == 1) = true := by rw [hy1]; rfl
   have hRy : Rd w2 (.slice A2 ys.length c2) ys := by have := HRN2_2.out; unfold RN at this; rw [← HY.out] at this; exact this
   obtain ⟨g, o, rfl, hg, hcell⟩ := hRy.cell (j := 0) (by omega)
   rw [Nat.add_zero] at hcell
   have l2 : (0 : Int) < (ys.length : Int) := by omega
   obtain ⟨d, hd⟩ : ∃ d, d = nat ys 0 := ⟨_, rfl⟩
   rw [← hd] at hcell
   have hdn : d = n := by
    rw [hd, ← valN_dg n, ← HY.out]
    match ys, hy1 with
    | [y], _ => simp [nat, valN]
   have hd32 : d < 4294967296 := by rw [hd]; exact nat_lt hRy.wd 0
   have HDN := Hd hdn
   clear hd hRy hdn
   go_wp2_with fail
   refine (short_calls _ _ m d HRN_2.out (by omega) (by have := HDN.out; omega) hd32).mono ?_
   rintro e w3 ⟨v3, rfl, hv3, hb3⟩
   have HB3 := Hd (HB2.out.trans (hb3.mono HB2.out.size))
   have HV3 := Hd hv3
   obtain ⟨r, hr⟩ : ∃ r, r = m % d := ⟨_, rfl⟩
   rw [← hr]
   have hrl : r < 4294967296 := by
    rw [hr]
    exact Nat.lt_trans (Nat.mod_lt _ (by have := HDN.out; omega)) hd32
   have HRr := Hd hr
   have f1 : IntKind.u64.wrap (r : Int) = (r : Int) := IntWalk.u64_in _ (by omega)
   clear hr hb3 hv3
   go_wp2_with fail
   refine (of_calls _ r (by omega)).mono ?_
   rintro e w4 ⟨v4, rfl, hv4, hb4⟩
   have HB4 := Hd (HB3.out.trans (hb4.mono HB3.out.size))
   have HV34 := Hd (Rd.below HV3.out hb4)
   go_wp2_with fail
   go_ret2
   exact ⟨_, _, rfl, by have := HV34.out; rw [HDN.out] at this; exact this, by rw [HRr.out, HDN.out] at hv4; exact hv4, HB4.out⟩
  ·have q1 : ((ys.length : Int) == 1) = false := by
    have : (ys.length : Int) ≠ 1 := by omega
    simpa using this
   have hRy : Rd w2 (.slice A2 ys.length c2) ys := by have := HRN2_2.out; unfold RN at this; rw [← HY.out] at this; exact this
   obtain ⟨g, o, rfl, hg, hcell⟩ := hRy.cell (j := ys.length - 1) (by omega)
   obtain ⟨d, hd⟩ : ∃ d, d = nat ys (ys.length - 1) := ⟨_, rfl⟩
   rw [← hd] at hcell
   have hd32 : d < 4294967296 := by rw [hd]; exact nat_lt hRy.wd _
   have hd0 : d ≠ 0 := by rw [hd, HY.out]; exact dg_top n hn0
   have HD := Hd hd
   have hyb : ys.length ≤ 10000000000 := by rw [HY.out]; exact hn
   have k1 : IntKind.i64.wrap ((ys.length : Int) - 1) = (ys.length : Int) - 1 := IntWalk.i64_in _ (by omega)
   have k2 : (ys.length : Int) - 1 < (ys.length : Int) := by omega
   have k3 : ((ys.length : Int) - 1).toNat = ys.length - 1 := by omega
   have k4 : 0 ≤ (ys.length : Int) - 1 := by omega
   have k5 : (1 : Int) ≤ (ys.length : Int) := by omega
   have k6 : 1 ≤ ys.length := by omega
   clear hd hRy
   go_wp2_with fail
   refine (zeros_calls d _ hd32).mono ?_
   rintro e w3 ⟨rfl, rfl⟩
   obtain ⟨s, hs, hse, hs1, hs2⟩ := zeros_norm hd0 hd32
   rw [hse]
   clear hse
   clear k1 k2 k3 k4 k5 k6
   go_wp2_with fail
   refine (shifted_calls _ _ m s HRN_2.out (by omega) hs).mono ?_
   rintro e w4 ⟨BU, us, rfl, hBU, hul, huw, huv, hua, hb4⟩
   have HB4 := Hd (HB2.out.trans (hb4.mono HB2.out.size))
   have HRN2_4 := Hd (Rd.below HRN2_2.out hb4)
   have HUV := Hd huv
   have HUL := Hd hul
   have HUW := Hd huw
   have HUA := Hd hua
   have HBU : Hid (w.heap.size ≤ BU) := Nat.le_trans HB2.out.size hBU
   have hBU4 := hua.lt
   clear hb4 huv hul huw hua hBU
   go_wp2_with fail
   refine (shifted_calls _ _ n s HRN2_4.out (by omega) hs).mono ?_
   rintro e w5 ⟨BV, vr, rfl, hBV, hvl, hvw, hvv, hva, hb5⟩
   have HB5 := Hd (HB4.out.trans (hb5.mono HB4.out.size))
   have HUA5 := Hd (HUA.out.below hb5 hBU4)
   have hrv := Rd.of_arr hva hvw
   have hBV5 := hva.lt
   rw [hvl] at hrv
   have htr := trim_calls w5 (some ⟨BV, 0, none⟩) (wlen n + 1) vr (by rw [hvl]; exact hrv) (by rw [hvl]; omega) (by rw [hvl]; exact Nat.le_refl _)
   rw [hvl] at htr
   clear hb5 hva
   go_wp2_with fail
   refine htr.mono ?_
   rintro e w6 ⟨t, htl, rfl, htk, hb6⟩
   obtain ⟨hsl, hst⟩ := shift_norm hn0 hs (by rw [← HY.out, ← HD.out]; exact hs1) (by rw [← HY.out, ← HD.out]; exact hs2)
   have hRv6 : Rd w6 (.slice (some ⟨BV, 0, none⟩) t t) (dg (n * 2 ^ s)) := by
    have h1 := (Rd.take (by rw [hvl]; exact hrv) t htl).below hb6
    rw [htk, hvv] at h1
    exact h1
   have htn : t = ys.length := by
    have : (vr.take t).length = t := by rw [List.length_take, Nat.min_eq_left htl]
    rw [← this, htk, hvv, hsl, ← HY.out]
   obtain ⟨vs, hvs⟩ : ∃ vs, vs = dg (n * 2 ^ s) := ⟨_, rfl⟩
   rw [← hvs] at hRv6 hsl hst
   rw [← HY.out] at hsl hst
   have HB6 := Hd (HB5.out.trans (hb6.mono HB5.out.size))
   have HUA6 := Hd (HUA5.out.below hb6 (by have := HUA5.out.lt; exact this))
   have HVS := Hd hvs
   have HRV6 := Hd hRv6
   have hVv : valN vs = n * 2 ^ s := by rw [hvs, valN_dg]
   have HVv := Hd hVv
   have HST := Hd hst
   have HSL := Hd hsl
   have hlm : wlen m = xs.length := by rw [HX.out]; rfl
   have hBV6 : BV < w6.heap.size := Nat.lt_of_lt_of_le hBV5 hb6.size
   have hBUV : BU ≠ BV := by omega
   have hly2 : 2 ≤ ys.length := by omega
   have hlxy : ys.length ≤ xs.length := by rw [HX.out, HY.out]; exact wlen_mono hle
   have hlx : xs.length ≤ 10000000000 := by rw [HX.out]; exact hm
   clear htr hrv hb6 htk htl hvs hRv6 hVv hst hsl hvl hvw hvv
   subst htn
   rw [hlm] at HUL ⊢
   obtain ⟨L, hL⟩ : ∃ L, L = xs.length + 1 := ⟨_, rfl⟩
   obtain ⟨K, hK⟩ : ∃ K, K + ys.length = L := ⟨L - ys.length, by omega⟩
   rw [← hL] at HUL ⊢
   have wl : IntKind.i64.wrap ((L : Int) - (ys.length : Int)) = (K : Int) := by rw [IntWalk.i64_in _ (by omega)]; omega
   have hmk := make_words 55 Tryd.underlying55 K (by omega)
   have wk1 : IntKind.i64.wrap ((K : Int) - 1) = (K : Int) - 1 := IntWalk.i64_in _ (by omega)
   have HLL := Hd hL
   have hLb : L ≤ 10000000001 := by omega
   clear hL
   go_wp2_with fail
   clear hmk wl wk1
   have hw7 := gb_alloc (gb_refl w6 none) (zw K)
   have hq7 := zw_arr w6 K
   generalize w6.alloc (zw K) = W7 at *
   obtain ⟨V, hV⟩ : ∃ V, V = valN vs := ⟨_, rfl⟩
   have HV := Hd hV
   have hV0 : V = n * 2 ^ s := by rw [hV]; exact HVv.out
   have HV0 := Hd hV0
   have hVlt : V < 4294967296 ^ ys.length := by
    have := valN_lt vs HRV6.out.wd
    rwa [← hV, HSL.out] at this
   have HVLT := Hd hVlt
   have hVpos : 0 < V := by rw [hV0]; exact Nat.mul_pos (by omega) (Nat.pow_pos (by decide))
   have hVge : 2147483648 * 4294967296 ^ (ys.length - 1) ≤ V := by
    have := top_ge (V := V) (lb := ys.length - 1) (by rw [hV0, ← HVS.out, HSL.out]; omega) (by rw [hV0, ← HVS.out]; exact HST.out)
    exact this
   have hm0 : m * 2 ^ s < V * 4294967296 ^ K := shift_first hs hVge K xs.length (by have := lt_dg_len m; rw [← HX.out] at this; exact this) (by have := HLL.out; omega)
   have HM0 := Hd hm0
   have hBUQ : BU ≠ w6.heap.size := by have := HUA6.out.lt; omega
   have hBVQ : BV ≠ w6.heap.size := by omega
   clear hV hV0 hVlt hVge hm0
   go_loopw [16] (fun vi wr => ∃ (k : Nat) (U qs : List Nat), k ≤ K ∧ vi = .int .i64 ((k : Int) - 1) ∧ U.length = L ∧ Wd U ∧ qs.length = K - k ∧ Wd qs ∧ valN U < V * 4294967296 ^ k ∧ m * 2 ^ s = valN U + V * 4294967296 ^ k * valN qs ∧
     Arr .u32 wr BU 44 (ints U) ∧ Arr .u32 wr w6.heap.size 44 (ints (List.replicate k 0 ++ qs)) ∧ Rd wr (.slice (some ⟨BV, 0, none⟩) ys.length ys.length) vs ∧ w.grownBy wr none) (fun vi _ => (intOf vi + 1).toNat)
   case atStart =>
    exact ⟨K, us, [], Nat.le_refl _, by go_num, HUL.out, HUW.out, by simp, (fun x hx => (by cases hx)), by rw [HUV.out]; exact HM0.out, by rw [HUV.out]; simp [valN], HUA6.out.grown hw7 (by simp), by rw [List.append_nil]; exact hq7, HRV6.out.gb hw7, gb_trans (grown_of_below HB6.out none) hw7⟩
   case round =>
    obtain ⟨k, U, qs, hk, rfl, hUl, hUw, hql, hqw, hUlt, hM, hua, hqa, hrv, hgb⟩ := hrel
    have HUl := Hd hUl
    have HUw := Hd hUw
    have HQl := Hd hql
    have HQw := Hd hqw
    have HUlt := Hd hUlt
    have HM := Hd hM
    have HUA7 := Hd hua
    have HQA7 := Hd hqa
    have HRV7 := Hd hrv
    have HG7 := Hd hgb
    clear hUl hUw hql hqw hUlt hM hua hqa hrv hgb
    by_cases h0 : 0 < k
    ·obtain ⟨j, rfl⟩ : ∃ j, k = j + 1 := ⟨k - 1, by omega⟩
     rw [show ((j + 1 : Nat) : Int) - 1 = (j : Int) by omega]
     have n1 : (j : Int) ≥ 0 := by omega
     have n2 : (j : Int).toNat = j := by omega
     have s1 : IntKind.i64.wrap ((j : Int) + (ys.length : Int)) = (j : Int) + (ys.length : Int) := IntWalk.i64_in _ (by omega)
     have s2 : IntKind.i64.wrap ((j : Int) + (ys.length : Int) + 1) = (j : Int) + (ys.length : Int) + 1 := IntWalk.i64_in _ (by omega)
     have s3 : (j : Int) ≤ (j : Int) + (ys.length : Int) + 1 := by omega
     have s4 : (j : Int) + (ys.length : Int) + 1 ≤ (L : Int) := by omega
     have s5 : ((j : Int) + (ys.length : Int) + 1).toNat = j + ys.length + 1 := by omega
     have s6 : ¬ (j + ys.length + 1 = j) := by omega
     have s7 : j + ys.length + 1 - j = ys.length + 1 := by omega
     have hjl : j + (ys.length + 1) ≤ U.length := by rw [HUl.out]; omega
     obtain ⟨c1, c2, c3⟩ := div_cut HUw.out hjl HUlt.out HVLT.out
     obtain ⟨P, hP⟩ : ∃ P, P = U.take j := ⟨_, rfl⟩
     obtain ⟨seg, hsg⟩ : ∃ seg, seg = (U.drop j).take (ys.length + 1) := ⟨_, rfl⟩
     obtain ⟨Z, hZ⟩ : ∃ Z, Z = U.drop (j + (ys.length + 1)) := ⟨_, rfl⟩
     have hU : U = P ++ seg ++ Z := by
      rw [hP, hsg, hZ, ← List.drop_drop, List.append_assoc, List.take_append_drop, List.take_append_drop]
     have hPl : P.length = j := by rw [hP, List.length_take]; omega
     have hsl : seg.length = ys.length + 1 := by rw [hsg, List.length_take, List.length_drop]; omega
     have hPw : Wd P := by rw [hP]; exact HUw.out.take _
     have hsw : Wd seg := by rw [hsg]; exact (HUw.out.drop _).take _
     have hZw : Wd Z := by rw [hZ]; exact HUw.out.drop _
     rw [← hsg] at c1 c2
     rw [← hP] at c2
     rw [← hZ] at c3
     have hdg := digit_calls wr BU j (ys.length + 1) ys.length P seg Z vs (some ⟨BV, 0, none⟩) ys.length (by rw [← hU]; exact HUA7.out) hPl hsw (by omega) HSL.out hsl (by rw [HSL.out]; exact HRV7.out)
      (fun b hb => by simp [Value.ownBlock] at hb; omega) hly2 HST.out (by rw [← HV.out]; exact c1) (Nat.le_refl _)
     rw [HSL.out] at hdg
     have HDG := Hd hdg
     have HC1 := Hd c1
     have HC2 := Hd c2
     have HC3 := Hd c3
     have HSGL := Hd hsl
     have HPl := Hd hPl
     have HPw := Hd hPw
     have HZw := Hd hZw
     have HUe := Hd hU
     clear hdg c1 c2 c3 hP hsg hZ hU hPl hsl hPw hsw hZw hjl
     go_wp2_with fail
     refine HDG.out.mono ?_
     rintro e w8 ⟨seg', rfl, hsl', hsw', hsv', hua', hgb'⟩
     obtain ⟨qd, hqd⟩ : ∃ qd, qd = valN seg / valN vs := ⟨_, rfl⟩
     rw [← hqd]
     have hqdb : qd < 4294967296 := by rw [hqd, ← HV.out]; exact quot_small HC1.out
     have HQD := Hd hqd
     have HSL' := Hd hsl'
     have HSW' := Hd hsw'
     have HSV' := Hd hsv'
     have HUA8 := Hd hua'
     have HQA8 := Hd (HQA7.out.grown hgb' (by intro e; injection e with e; omega))
     have HRV8 := Hd (HRV7.out.grown hgb' (by intro b hb e; simp [Value.ownBlock] at hb; injection e with e; omega))
     have HG8 : Hid (w.grownBy w8 none) := gb_row HG7.out hgb' HBU.out
     have hrep : List.replicate (j + 1) 0 ++ qs = List.replicate j 0 ++ 0 :: qs := by rw [List.replicate_succ', List.append_assoc]; rfl
     have HQA9 : Hid (Arr .u32 w8 w6.heap.size 44 (ints (List.replicate j 0 ++ 0 :: qs))) := by have := HQA8.out; rw [hrep] at this; exact this
     have hcq := HQA9.out.cell j (by rw [ints_length]; simp)
     have hfr := HQA9.out.frozen j
     obtain ⟨old, hold⟩ : ∃ old, old = (ints (List.replicate j 0 ++ 0 :: qs)).getD j 0 := ⟨_, rfl⟩
     rw [← hold] at hcq
     have k1 : (j : Int) < (K : Int) := by omega
     have k2 : j < K := by omega
     have wj : IntKind.i64.wrap ((j : Int) - 1) = (j : Int) - 1 := IntWalk.i64_in _ (by omega)
     clear hqd hsl' hsw' hsv' hua' hgb' hrep hold
     go_wp2_with fail
     go_roundw
     case rel =>
      have hsv : valN seg = V * qd + valN seg' := by
       rw [HSV'.out, HQD.out, HV.out]
       exact (Nat.div_add_mod _ _).symm
      have hvU : valN (P ++ seg' ++ Z) = valN P + 4294967296 ^ j * valN seg' := by
       rw [valN_append, HC3.out, Nat.mul_zero, Nat.add_zero, valN_append, HPl.out]
      have hsl : valN seg' < V := by rw [HSV'.out, ← HV.out]; exact Nat.mod_lt _ hVpos
      refine ⟨j, P ++ seg' ++ Z, qd :: qs, by omega, by go_num, ?_, (HPw.out.append HSW'.out).append HZw.out, by rw [List.length_cons, HQl.out]; omega, ?_, ?_, ?_, ?_, ?_, ?_, gb_set HG8.out (.inl (by have := HB6.out.size; exact this)) _⟩
      ·have := HUl.out
       rw [HUe.out] at this
       simp only [List.length_append] at this ⊢
       have h1 := HSL'.out
       rw [HSL.out] at h1
       have h2 := HSGL.out
       omega
      ·intro y hy
       rcases List.mem_cons.1 hy with rfl | hy
       ·exact hqdb
       ·exact HQw.out y hy
      ·rw [hvU]
       have hP0 := valN_lt P HPw.out
       rw [HPl.out] at hP0
       exact div_less hP0 hsl
      ·rw [hvU, valN]
       have := HM.out
       rw [HC2.out] at this
       exact div_round this hsv
      ·exact HUA8.out.other (by simpa using hBUQ) _
      ·have := HQA9.out.set j (qd : Int)
       rw [ints_set, List.set_append_right _ _ (by simp)] at this
       simp only [List.length_replicate, Nat.sub_self, List.set_cons_zero] at this
       exact this
      ·refine HRV8.out.move (by simp [World.setCell]) fun b hb _ => ?_
       simp [Value.ownBlock] at hb
       exact Below.heap_setCell w8 _ _ b (by intro e; simp at e <;> omega)
     case measure => simp [intOf] <;> omega
    ·obtain rfl : k = 0 := by omega
     have HQA9 : Hid (Arr .u32 wr w6.heap.size 44 (ints qs)) := by have := HQA7.out; rw [List.replicate_zero, List.nil_append] at this; exact this
     have hqrd := Rd.of_arr HQA9.out HQw.out
     have hql : qs.length = K := by have := HQl.out; omega
     have HQRD := Hd (show Rd wr (.slice (some ⟨w6.heap.size, 0, none⟩) qs.length K) qs by rw [hql] at hqrd ⊢; exact hqrd)
     have HUlt0 : Hid (valN U < V) := by have := HUlt.out; rw [Nat.pow_zero, Nat.mul_one] at this; exact this
     have HM0' : Hid (m * 2 ^ s = valN U + V * valN qs) := by have := HM.out; rw [Nat.pow_zero, Nat.mul_one] at this; exact this
     have htr := trim_rn HQRD.out (by omega)
     rw [hql] at htr
     clear hqrd hql
     go_wp2_with fail
     refine htr.mono ?_
     rintro e w8 ⟨v8, rfl, hv8, hb8⟩
     have HV8 := Hd hv8
     have HUA8 := Hd (HUA7.out.below hb8 HUA7.out.lt)
     have HG8 : Hid (w.grownBy w8 none) := gb_below HG7.out hb8
     clear htr hv8 hb8
     have hurd := Rd.of_arr HUA8.out HUw.out
     rw [HUl.out] at hurd
     go_wp2_with fail
     have hun := unshifted_calls w8 (some ⟨BU, 0, none⟩) L U s (by rw [HUl.out]; exact hurd) (by rw [HUl.out]; omega) hs
     rw [HUl.out] at hun
     refine hun.mono ?_
     rintro e w9 ⟨v9, rfl, hv9, hb9⟩
     have HV89 := Hd (Rd.below HV8.out hb9)
     have HG9 : Hid (w.grownBy w9 none) := gb_below HG8.out hb9
     obtain ⟨A9, c9, xs9, rfl, hc9, HX9, HR9⟩ := RN.opened hv9
     clear hun hurd hb9 hv9
     have htr := trim_rn HR9.out (by rw [HX9.out]; refine Nat.le_trans (dg_len_le (k := L) ?_) (by omega); exact Nat.lt_of_le_of_lt (Nat.div_le_self _ _) (by have := valN_lt U HUw.out; rwa [HUl.out] at this))
     go_wp2_with fail
     refine htr.mono ?_
     rintro e w10 ⟨v10, rfl, hv10, hb10⟩
     have HV810 := Hd (Rd.below HV89.out hb10)
     have HB10 := Hd (gb_to_below (gb_below HG9.out hb10))
     rw [HX9.out, valN_dg] at hv10
     have HV10 := Hd hv10
     clear hv10 hb10 htr
     go_wp2_with fail
     go_ret2
     obtain ⟨e1, e2⟩ := div_end (m := m) (n := n) (s := s) (by omega) (by rw [← HV0.out]; exact HM0'.out) (by rw [← HV0.out]; exact HUlt0.out)
     exact ⟨_, _, rfl, by have := HV810.out; rw [e1] at this; exact this, by have := HV10.out; rw [e2] at this; exact this, HB10.out⟩
theorem Below.drewN0 {B : Nat} {a w : World} (h : Below B a w) (n : Nat) : Below B a (w.drewN n) := ⟨h.os, h.tape, h.output, h.size, h.block⟩
theorem list_ext_nat {xs ys : List Nat} (hl : xs.length = ys.length) (h : ∀ j, j < xs.length → nat xs j = nat ys j) : xs = ys := by
 apply List.ext_getElem hl
 intro j h1 h2
 have := h j h1
 simpa [nat, List.getD_eq_getElem?_getD, List.getElem?_eq_getElem h1, List.getElem?_eq_getElem h2] using this
theorem Rd.unique {w : World} {v : Value} {xs ys : List Nat} (h : Rd w v xs) (h2 : Rd w v ys) : xs = ys := by
 obtain ⟨_, A, c, rfl, _, hc⟩ := h
 obtain ⟨_, A2, c2, e, _, hc2⟩ := h2
 injection e with e1 e2 e3
 refine list_ext_nat e2 fun j hj => ?_
 obtain ⟨g, o, eA, _, hj1⟩ := hc (by omega)
 obtain ⟨g2, o2, eA2, _, hj2⟩ := hc2 (by omega)
 rw [← e1, eA] at eA2
 injection eA2 with eA2
 injection eA2 with a1 a2
 subst a1
 subst a2
 have h1 := hj1 j hj
 rw [hj2 j (by omega)] at h1
 simp only [Option.some.injEq, Value.int.injEq, true_and] at h1
 omega
theorem RN.unique {w : World} {v : Value} {m n : Nat} (h : RN w v m) (h2 : RN w v n) : m = n := dg_inj (Rd.unique h h2)
open Classical in
noncomputable def numOf (w : World) (v : Value) : Nat := if h : ∃ n, RN w v n then h.choose else 0
theorem numOf_eq {w : World} {v : Value} {n : Nat} (h : RN w v n) : numOf w v = n := by
 unfold numOf
 rw [dif_pos ⟨n, h⟩]
 exact RN.unique (Exists.choose_spec (⟨n, h⟩ : ∃ n, RN w v n)) h
theorem RN.of_below {w w1 : World} {v : Value} {n : Nat} (h : RN w v n) (hb : Below w.heap.size w w1) : RN w1 v n := Rd.below h hb
set_option maxHeartbeats 16000000 in
set_option maxRecDepth 100000 in
theorem gcd_calls (w : World) (v v2 : Value) (m n : Nat) (h : RN w v m) (h2 : RN w v2 n) (hm : wlen m ≤ 10000000000) (hn : wlen n ≤ 10000000000) :
  Calls Tryd.prog 51 #[v, v2] w fun e w' => WPost w (Nat.gcd m n) e w' := by
 have HRN := Hd h
 have HRN2 := Hd h2
 clear h h2
 go_enter Tryd.func51, Tryd.ntmps51
 go_wp2_with fail
 go_loopw [0, 1] (fun va vb wr => ∃ a b : Nat, RN wr va a ∧ RN wr vb b ∧ Nat.gcd a b = Nat.gcd m n ∧ wlen a ≤ 10000000000 ∧ wlen b ≤ 10000000000 ∧ Below w.heap.size w wr) (fun va vb wr => numOf wr vb)
 case atStart => exact ⟨m, n, HRN.out, HRN2.out, rfl, hm, hn, Below.refl _ _⟩
 case round =>
  obtain ⟨a, b, ha, hb, hg, hal, hbl, hbr⟩ := hrel
  have HA := Hd ha
  have HB := Hd hb
  have HGC := Hd hg
  have HW := Hd hbr
  clear ha hb hg hbr
  obtain ⟨A1, c1, xs, e1, hc1, HX, HR⟩ := HA.out.opened
  obtain ⟨A2, c2, ys, e2, hc2, HY, HR2⟩ := HB.out.opened
  subst e1
  subst e2
  by_cases h0 : b = 0
  ·have hyl : ys.length = 0 := by rw [HY.out, h0]; rfl
   have q0 : ¬ (ys.length : Int) > 0 := by omega
   go_wp2_with fail
   go_ret
   refine ⟨_, rfl, ?_, HW.out⟩
   have := HGC.out
   rw [h0, Nat.gcd_zero_right] at this
   rw [← this]
   exact HA.out
  ·have hyl : 0 < ys.length := by rw [HY.out]; exact wlen_pos.2 h0
   have q0 : (ys.length : Int) > 0 := by omega
   go_wp2_with fail
   refine (small_calls _ _ a HA.out).mono ?_
   rintro e w2 ⟨⟨x, rfl, hx⟩, hb2⟩
   have HW2 := Hd (HW.out.trans (hb2.mono HW.out.size))
   have HA2 := Hd (HA.out.of_below hb2)
   have HB2 := Hd (HB.out.of_below hb2)
   have HXE := Hd hx
   clear hb2 hx
   by_cases hs : a < 18446744073709551616
   ·have d1 : decide (a < 18446744073709551616) = true := decide_eq_true hs
    go_wp2_with fail
    refine (small_calls _ _ b HB2.out).mono ?_
    rintro e w3 ⟨⟨y, rfl, hy⟩, hb3⟩
    have HW3 := Hd (HW2.out.trans (hb3.mono HW2.out.size))
    have HA3 := Hd (HA2.out.of_below hb3)
    have HB3 := Hd (HB2.out.of_below hb3)
    have HYE := Hd hy
    clear hb3 hy
    by_cases hs2 : b < 18446744073709551616
    ·have d2 : decide (b < 18446744073709551616) = true := decide_eq_true hs2
     obtain rfl := HXE.out hs
     obtain rfl := HYE.out hs2
     go_wp2_with fail
     go_loopw [5, 7] (fun vx vy wr => ∃ p q : Nat, vx = .int .u64 (p : Int) ∧ vy = .int .u64 (q : Int) ∧ Nat.gcd p q = Nat.gcd m n ∧ p < 18446744073709551616 ∧ q < 18446744073709551616 ∧ Below w.heap.size w wr) (fun _ vy _ => (intOf vy).toNat)
     case atStart => exact ⟨_, _, rfl, rfl, HGC.out, hs, hs2, HW3.out⟩
     case round =>
      obtain ⟨p, q, rfl, rfl, hpq, hp, hq, hbr⟩ := hrel
      have HPQ := Hd hpq
      have HWr := Hd hbr
      clear hpq hbr
      by_cases hq0 : q = 0
      ·have t1 : ((q : Int) != 0) = false := by rw [hq0]; rfl
       have HQ0 := Hd hq0
       clear hq0
       go_wp2_with fail
       refine (of_calls _ p hp).mono ?_
       rintro e w5 ⟨v5, rfl, hv5, hb5⟩
       have HV5 := Hd hv5
       have HW5 := Hd (HWr.out.trans (hb5.mono HWr.out.size))
       clear hv5 hb5
       go_wp2_with fail
       go_ret
       refine ⟨_, rfl, ?_, HW5.out⟩
       have := HPQ.out
       rw [HQ0.out, Nat.gcd_zero_right] at this
       rw [← this]
       exact HV5.out
      ·have t1 : ((q : Int) != 0) = true := by
        have : (q : Int) ≠ 0 := by omega
        simpa using this
       have t2 : ((q : Int) == 0) = false := by
        have : (q : Int) ≠ 0 := by omega
        simpa using this
       have t3 : (q : Int) ≠ 0 := by omega
       obtain ⟨r, hr⟩ : ∃ r, r = p % q := ⟨_, rfl⟩
       obtain ⟨⟨_, df2⟩, _, df4⟩ := div_facts (z := p) (d := q) rfl rfl
       rw [← hr] at df2 df4
       have hrq : r < q := by rw [hr]; exact Nat.mod_lt _ (by omega)
       have f1 : IntKind.u64.wrap (r : Int) = (r : Int) := IntWalk.u64_in _ (by omega)
       have HRr := Hd hr
       clear hr hq0
       go_wp2_with fail
       go_quiet (fail)
       go_wp2_with fail
       go_roundw
       case rel => exact ⟨q, r, rfl, rfl, by rw [HRr.out, Nat.gcd_comm, ← Nat.gcd_rec, Nat.gcd_comm]; exact HPQ.out, hq, by omega, (Below.drewN0 HWr.out _)⟩
       case measure => simp [intOf]; omega
    ·have d2 : decide (b < 18446744073709551616) = false := decide_eq_false hs2
     go_wp2_with fail
     refine (div_calls _ _ _ a b HA3.out HB3.out hal hbl h0).mono ?_
     rintro e w5 ⟨v5, v6, rfl, hv5, hv6, hb5⟩
     have HW5 := Hd (HW3.out.trans (hb5.mono HW3.out.size))
     have HB5 := Hd (HB3.out.of_below hb5)
     have HV6 := Hd hv6
     clear hv5 hv6 hb5
     go_wp2_with fail
     go_roundw
     case rel => exact ⟨b, a % b, HB5.out, HV6.out, by rw [Nat.gcd_comm, ← Nat.gcd_rec, Nat.gcd_comm]; exact HGC.out, hbl, Nat.le_trans (wlen_mono (Nat.le_of_lt (Nat.mod_lt _ (by omega)))) hbl, HW5.out⟩
     case measure =>
      show numOf w5 v6 < numOf wr (Value.slice A2 ys.length c2)
      rw [numOf_eq HV6.out, numOf_eq HB.out]
      exact Nat.mod_lt _ (by omega)
   ·have d1 : decide (a < 18446744073709551616) = false := decide_eq_false hs
    go_wp2_with fail
    refine (div_calls _ _ _ a b HA2.out HB2.out hal hbl h0).mono ?_
    rintro e w5 ⟨v5, v6, rfl, hv5, hv6, hb5⟩
    have HW5 := Hd (HW2.out.trans (hb5.mono HW2.out.size))
    have HB5 := Hd (HB2.out.of_below hb5)
    have HV6 := Hd hv6
    clear hv5 hv6 hb5
    go_wp2_with fail
    go_roundw
    case rel => exact ⟨b, a % b, HB5.out, HV6.out, by rw [Nat.gcd_comm, ← Nat.gcd_rec, Nat.gcd_comm]; exact HGC.out, hbl, Nat.le_trans (wlen_mono (Nat.le_of_lt (Nat.mod_lt _ (by omega)))) hbl, HW5.out⟩
    case measure =>
     show numOf w5 v6 < numOf wr (Value.slice A2 ys.length c2)
     rw [numOf_eq HV6.out, numOf_eq HB.out]
     exact Nat.mod_lt _ (by omega)
def sg (neg : Bool) (m : Nat) : Int := if neg then -(m : Int) else (m : Int)
def negQ (q : Rat) : Bool := decide (q.num < 0)
theorem sg_num (q : Rat) : sg (negQ q) q.num.natAbs = q.num := by
 unfold sg negQ
 by_cases h : q.num < 0
 ·rw [decide_eq_true h, if_pos rfl]; omega
 ·rw [decide_eq_false h, if_neg (by decide)]; omega
theorem sg_natAbs (neg : Bool) (m : Nat) : (sg neg m).natAbs = m := by
 unfold sg
 cases neg <;> simp
theorem sg_zero (neg : Bool) : sg neg 0 = 0 := by cases neg <;> rfl
theorem sg_div (neg : Bool) (m g : Nat) (hg : g ∣ m) : sg neg m / (g : Int) = sg neg (m / g) := by
 unfold sg
 cases neg
 ·simp
 ·simp only [if_true]
  rw [Int.neg_ediv_of_dvd (Int.natCast_dvd_natCast.2 hg)]
  simp
theorem mk_num (neg : Bool) (m n : Nat) (hn : n ≠ 0) : (mkRat (sg neg m) n).num = sg neg (m / Nat.gcd m n) := by
 rw [Rat.num_mkRat, if_neg hn, sg_natAbs, Nat.gcd_comm, sg_div _ _ _ (Nat.gcd_dvd_left m n)]
theorem mk_den (neg : Bool) (m n : Nat) (hn : n ≠ 0) : (mkRat (sg neg m) n).den = n / Nat.gcd m n := by
 rw [Rat.den_mkRat, if_neg hn, sg_natAbs, Nat.gcd_comm]
theorem mk_neg (neg : Bool) (m n : Nat) (hn : n ≠ 0) (hm : m ≠ 0) : negQ (mkRat (sg neg m) n) = neg := by
 unfold negQ
 rw [mk_num neg m n hn]
 have hp : 0 < m / Nat.gcd m n := Nat.div_pos (Nat.gcd_le_left _ (Nat.pos_of_ne_zero hm)) (Nat.gcd_pos_of_pos_left _ (Nat.pos_of_ne_zero hm))
 unfold sg
 cases neg
 ·exact decide_eq_false (by simp only [Bool.false_eq_true, if_false]; omega)
 ·exact decide_eq_true (by simp only [if_true]; omega)
theorem mk_self (q : Rat) : mkRat (sg (negQ q) q.num.natAbs) q.den = q := by rw [sg_num, Rat.mkRat_self]
theorem mk_zero (neg : Bool) (n : Nat) : mkRat (sg neg 0) n = 0 := by rw [sg_zero, Rat.zero_mkRat]
def RQ (w : World) (v : Value) (q : Rat) : Prop := ∃ v1 v2, v = .agg #[v1, v2, .bool (negQ q)] ∧ RN w v1 q.num.natAbs ∧ RN w v2 q.den
def FQ (w : World) (v : Value) (q : Rat) : Prop := ∃ v1 v2, v = .agg #[.bool (negQ q), v1, v2] ∧ RN w v1 q.num.natAbs ∧ RN w v2 q.den
def sizeQ (q : Rat) : Nat := wlen q.num.natAbs + wlen q.den
theorem RQ.of_below {w w1 : World} {v : Value} {q : Rat} (h : RQ w v q) (hb : Below w.heap.size w w1) : RQ w1 v q := by
 obtain ⟨v1, v2, e, h1, h2⟩ := h
 exact ⟨v1, v2, e, h1.of_below hb, h2.of_below hb⟩
theorem FQ.of_below {w w1 : World} {v : Value} {q : Rat} (h : FQ w v q) (hb : Below w.heap.size w w1) : FQ w1 v q := by
 obtain ⟨v1, v2, e, h1, h2⟩ := h
 exact ⟨v1, v2, e, h1.of_below hb, h2.of_below hb⟩
def QPost (w : World) (q : Rat) (e : Ending) (w' : World) : Prop := ∃ v, e = .returned v ∧ RQ w' v q ∧ Below w.heap.size w w'
def Blk (w : World) (g t : Nat) (cs : Array Value) : Prop := w.heap[g]? = some (.cells cs t (0, 0))
theorem Blk.lt {w : World} {g t : Nat} {cs : Array Value} (h : Blk w g t cs) : g < w.heap.size := (Array.getElem?_eq_some_iff.1 h).1
theorem Blk.cell {w : World} {g t : Nat} {cs : Array Value} (h : Blk w g t cs) {j : Nat} {v : Value} (hj : cs[j]? = some v) : w.cell? ⟨g, j, none⟩ = some v := by
 simp only [World.cell?]
 rw [show w.heap[g]? = some (.cells cs t (0, 0)) from h]
 simpa using hj
theorem Blk.frozen {w : World} {g t : Nat} {cs : Array Value} (h : Blk w g t cs) (j : Nat) : w.frozen? ⟨g, j, none⟩ = false := by
 simp only [World.frozen?]
 rw [show w.heap[g]? = some (.cells cs t (0, 0)) from h]
 simp
theorem Blk.below {w w1 : World} {g t B : Nat} {cs : Array Value} (h : Blk w g t cs) (hb : Below B w w1) (hg : g < B) : Blk w1 g t cs := (hb.block g hg).trans h
theorem Blk.new (w : World) (t : Nat) (cs : Array Value) : Blk (w.alloc (.cells cs t)) w.heap.size t cs := heap_alloc_new _ _
theorem Blk.alloc {w : World} {g t : Nat} {cs : Array Value} (h : Blk w g t cs) (o : Obj) : Blk (w.alloc o) g t cs := (Below.heap_alloc w o g h.lt).trans h
theorem Blk.put {w : World} {g t : Nat} {cs : Array Value} (h : Blk w g t cs) (j : Nat) (v : Value) : Blk (w.setCell ⟨g, j, none⟩ v) g t (cs.setIfInBounds j v) := by
 show (w.setCell ⟨g, j, none⟩ v).heap[g]? = _
 simp only [World.setCell, Array.getElem?_modify, if_true]
 rw [show w.heap[g]? = some (.cells cs t (0, 0)) from h]
 simp
theorem Blk.other {w : World} {g t : Nat} {cs : Array Value} (h : Blk w g t cs) {a : Addr} (ha : g ≠ a.block) (v : Value) : Blk (w.setCell a v) g t cs := (Below.heap_setCell w a v g ha).trans h
theorem Blk.put3 {w : World} {g t : Nat} {a b c : Value} (h : Blk w g t #[a, b, c]) (x y z : Value) : Blk (((w.setCell ⟨g, 0, none⟩ x).setCell ⟨g, 1, none⟩ y).setCell ⟨g, 2, none⟩ z) g t #[x, y, z] :=
 ((h.put 0 x).put 1 y).put 2 z
theorem info85 : (Tryd.prog.info? 57).map (·.size) = some 3 := by kernel_rfl
theorem info40 : (Tryd.prog.info? 27).map (·.size) = some 3 := by kernel_rfl
theorem rn_one (w : World) (e : Nat) : RN (w.alloc (.cells #[.int .u32 1] e)) (.slice (some ⟨w.heap.size, 0, none⟩) 1 1) 1 :=
 Rd.of_arr (xs := [1]) (e := e) (by show (World.alloc _ _).heap[w.heap.size]? = _; rw [heap_alloc_new]; rfl) (fun x hx => by simp at hx; omega)
theorem ret85 {fn : Func} {p : Tmp} {Post : Ending → World → Prop} {tmps : Array Value} {w : World} {g : Nat} {a b c : Value} (hres : fn.results = #[.cell p 57]) (hp : tmps.getD p undef = .pointer (some ⟨g, 0, none⟩)) (hb : Blk w g 57 #[a, b, c])
  (hP : Post (.returned (.agg #[a, b, c])) w) : bodyPost Tryd.prog fn Post Exit.ret { tmps := tmps, defers := [] } w :=
 bodyPost_ret (v := .agg #[a, b, c]) (results_cell_row hres _ _ g 57 #[a, b, c] (0, 0) _ hp hb Tryd.underlying57 rfl info85) rfl hP
theorem ret40 {fn : Func} {p : Tmp} {Post : Ending → World → Prop} {tmps : Array Value} {w : World} {g : Nat} {a b c : Value} (hres : fn.results = #[.cell p 27]) (hp : tmps.getD p undef = .pointer (some ⟨g, 0, none⟩)) (hb : Blk w g 27 #[a, b, c])
  (hP : Post (.returned (.agg #[a, b, c])) w) : bodyPost Tryd.prog fn Post Exit.ret { tmps := tmps, defers := [] } w :=
 bodyPost_ret (v := .agg #[a, b, c]) (results_cell_row hres _ _ g 27 #[a, b, c] (0, 0) _ hp hb Tryd.underlying27 rfl info40) rfl hP
theorem below_new (w : World) (o : Obj) : Below w.heap.size w (w.alloc o) := Below.alloc (Below.refl _ _) (Nat.le_refl _) o
theorem below_put {B : Nat} {w w1 : World} (h : Below B w w1) (a : Addr) (ha : B ≤ a.block) (v : Value) : Below B w (w1.setCell a v) := Below.setCell h ha v
def notInt : Value → Bool | .int _ _ => false | _ => true
theorem Rd.apart {w w1 : World} {v : Value} {xs : List Nat} (h : Rd w v xs) {g t : Nat} {cs : Array Value} (hb : Blk w g t cs) (hni : ∀ x ∈ cs, notInt x = true) (hs : w.heap.size ≤ w1.heap.size) (hk : ∀ k, k < w.heap.size → k ≠ g → w1.heap[k]? = w.heap[k]?) : Rd w1 v xs := by
 obtain ⟨hw, A, c, rfl, hc, hr⟩ := h
 refine ⟨hw, A, c, rfl, hc, fun hp => ?_⟩
 obtain ⟨g', o, rfl, hg, hj⟩ := hr hp
 refine ⟨g', o, rfl, by omega, fun j hjl => ?_⟩
 have hne : g' ≠ g := by
  rintro rfl
  have h1 := hj j hjl
  simp only [World.cell?] at h1
  rw [show w.heap[g']? = some (.cells cs t (0, 0)) from hb] at h1
  simp at h1
  obtain ⟨hlt, he⟩ := Array.getElem?_eq_some_iff.1 h1
  have := hni _ (Array.getElem_mem hlt)
  rw [he] at this
  cases this
 exact (World.cell?_of_block (a := ⟨g', o + j, none⟩) (hk g' hg hne)).trans (hj j hjl)
theorem RN.put3 {w : World} {v : Value} {n g t : Nat} {a b c : Value} (h : RN w v n) (hb : Blk w g t #[a, b, c]) (hni : ∀ x ∈ #[a, b, c], notInt x = true) (x y z : Value) : RN (((w.setCell ⟨g, 0, none⟩ x).setCell ⟨g, 1, none⟩ y).setCell ⟨g, 2, none⟩ z) v n :=
 Rd.apart h hb hni (by simp [World.setCell]) fun k _ hkg => by
  rw [Below.heap_setCell _ _ _ k hkg, Below.heap_setCell _ _ _ k hkg, Below.heap_setCell _ _ _ k hkg]
theorem below_put3 {B : Nat} {w w1 : World} (h : Below B w w1) {g : Nat} (ha : B ≤ g) (x y z : Value) : Below B w (((w1.setCell ⟨g, 0, none⟩ x).setCell ⟨g, 1, none⟩ y).setCell ⟨g, 2, none⟩ z) :=
 Below.setCell (Below.setCell (Below.setCell h (p := ⟨g, 0, none⟩) ha x) (p := ⟨g, 1, none⟩) ha y) (p := ⟨g, 2, none⟩) ha z
theorem ni85 : ∀ x ∈ #[Value.slice none 0 0, .slice none 0 0, .bool false], notInt x = true := by simp [notInt]
theorem ni40 : ∀ x ∈ #[Value.bool false, .slice none 0 0, .slice none 0 0], notInt x = true := by simp [notInt]
theorem size_alloc (w : World) (o : Obj) : (w.alloc o).heap.size = w.heap.size + 1 := by simp
theorem rq_int {w : World} {v1 v2 : Value} (n : Int) (h1 : RN w v1 n.natAbs) (h2 : RN w v2 1) : RQ w (.agg #[v1, v2, .bool (decide (n < 0))]) (n : Rat) := ⟨v1, v2, rfl, h1, h2⟩
set_option maxHeartbeats 16000000 in
set_option maxRecDepth 100000 in
theorem whole_calls (w : World) (n : Int) (h0 : -9223372036854775808 ≤ n) (h1 : n < 9223372036854775808) :
  Calls Tryd.prog 39 #[.int .i64 n] w fun e w' => QPost w (n : Rat) e w' := by
 go_enter Tryd.func39, Tryd.ntmps39
 by_cases hn : n < 0
 ·have t1 : decide (n < 0) = true := decide_eq_true hn
  obtain ⟨k, hk⟩ : ∃ k : Nat, n = -((k : Int) + 1) := ⟨(-(n + 1)).toNat, by omega⟩
  have f1 : IntKind.i64.wrap (n + 1) = -(k : Int) := by rw [IntWalk.i64_in _ (by omega)]; omega
  have f2 : IntKind.i64.wrap (k : Int) = (k : Int) := IntWalk.i64_in _ (by omega)
  have f3 : IntKind.u64.wrap (k : Int) = (k : Int) := IntWalk.u64_in _ (by omega)
  have f4 : IntKind.u64.wrap ((k : Int) + 1) = ((k + 1 : Nat) : Int) := by rw [IntWalk.u64_in _ (by omega)]; omega
  have hm : k + 1 < 18446744073709551616 := by omega
  obtain ⟨m, hmk⟩ : ∃ m, k + 1 = m := ⟨_, rfl⟩
  rw [hmk] at f4 hm
  have HK := Hd hk
  have HM := Hd hmk
  clear hk hmk hn
  go_wp2_with fail
  have HBK := Hd (Blk.new w 57 #[.slice none 0 0, .slice none 0 0, .bool false])
  have HB1 := Hd (below_new w (.cells #[.slice none 0 0, .slice none 0 0, .bool false] 57))
  generalize w.alloc (.cells #[.slice none 0 0, .slice none 0 0, .bool false] 57) = w1 at *
  refine (of_calls _ m hm).mono ?_
  rintro e w2 ⟨v2, rfl, hv2, hb2⟩
  obtain ⟨A1, c1, xs, e1, hc1, HX, HR⟩ := hv2.opened
  subst e1
  have HV := Hd hv2
  have HB2 := Hd (HB1.out.trans (hb2.mono HB1.out.size))
  have HBK2 := Hd (HBK.out.below hb2 HBK.out.lt)
  clear hv2 hb2
  have HBK3 := Hd (HBK2.out.alloc (.cells #[.int .u32 1] 44))
  have HV3 := Hd (HV.out.of_below (below_new w2 (.cells #[.int .u32 1] 44)))
  have HO3 := Hd (rn_one w2 44)
  have HB3 := Hd (HB2.out.trans ((below_new w2 (.cells #[.int .u32 1] 44)).mono HB2.out.size))
  have c0 := HBK3.out.cell (j := 0) rfl
  have c1' := HBK3.out.cell (j := 1) rfl
  have c2' := HBK3.out.cell (j := 2) rfl
  have f0 := HBK3.out.frozen 0
  have f1 := HBK3.out.frozen 1
  have f2 := HBK3.out.frozen 2
  go_wp2_with fail
  have hres := rq_int (w := (((w2.alloc (Obj.cells #[Value.int IntKind.u32 1] 44)).setCell ⟨w.heap.size, 0, none⟩ (.slice A1 xs.length c1)).setCell ⟨w.heap.size, 1, none⟩ (.slice (some ⟨w2.heap.size, 0, none⟩) 1 1)).setCell ⟨w.heap.size, 2, none⟩ (.bool true)) n
   (by rw [show n.natAbs = m by have := HK.out; have := HM.out; omega]; exact HV3.out.put3 HBK3.out ni85 _ _ _) (HO3.out.put3 HBK3.out ni85 _ _ _)
  rw [t1] at hres
  exact ret85 Tryd.results39 rfl (HBK3.out.put3 _ _ _) ⟨_, rfl, hres, below_put3 HB3.out (Nat.le_refl _) _ _ _⟩
 ·have t1 : decide (n < 0) = false := decide_eq_false hn
  obtain ⟨m, hm⟩ : ∃ m : Nat, n = (m : Int) := ⟨n.toNat, by omega⟩
  subst hm
  have f1 : IntKind.u64.wrap (m : Int) = (m : Int) := IntWalk.u64_in _ (by omega)
  go_wp2_with fail
  have HBK := Hd (Blk.new w 57 #[.slice none 0 0, .slice none 0 0, .bool false])
  have HB1 := Hd (below_new w (.cells #[.slice none 0 0, .slice none 0 0, .bool false] 57))
  generalize w.alloc (.cells #[.slice none 0 0, .slice none 0 0, .bool false] 57) = w1 at *
  refine (of_calls _ m (by omega)).mono ?_
  rintro e w2 ⟨v2, rfl, hv2, hb2⟩
  obtain ⟨A1, c1, xs, e1, hc1, HX, HR⟩ := hv2.opened
  subst e1
  have HV := Hd hv2
  have HB2 := Hd (HB1.out.trans (hb2.mono HB1.out.size))
  have HBK2 := Hd (HBK.out.below hb2 HBK.out.lt)
  clear hv2 hb2
  have HBK3 := Hd (HBK2.out.alloc (.cells #[.int .u32 1] 44))
  have HV3 := Hd (HV.out.of_below (below_new w2 (.cells #[.int .u32 1] 44)))
  have HO3 := Hd (rn_one w2 44)
  have HB3 := Hd (HB2.out.trans ((below_new w2 (.cells #[.int .u32 1] 44)).mono HB2.out.size))
  have c0 := HBK3.out.cell (j := 0) rfl
  have c1' := HBK3.out.cell (j := 1) rfl
  have c2' := HBK3.out.cell (j := 2) rfl
  have f0 := HBK3.out.frozen 0
  have f1 := HBK3.out.frozen 1
  have f2 := HBK3.out.frozen 2
  go_wp2_with fail
  have hres := rq_int (w := (((w2.alloc (Obj.cells #[Value.int IntKind.u32 1] 44)).setCell ⟨w.heap.size, 0, none⟩ (.slice A1 xs.length c1)).setCell ⟨w.heap.size, 1, none⟩ (.slice (some ⟨w2.heap.size, 0, none⟩) 1 1)).setCell ⟨w.heap.size, 2, none⟩ (.bool false)) (m : Int)
   (HV3.out.put3 HBK3.out ni85 _ _ _) (HO3.out.put3 HBK3.out ni85 _ _ _)
  rw [t1] at hres
  exact ret85 Tryd.results39 rfl (HBK3.out.put3 _ _ _) ⟨_, rfl, hres, below_put3 HB3.out (Nat.le_refl _) _ _ _⟩
theorem RQ.opened {w : World} {v : Value} {q : Rat} (h : RQ w v q) : ∃ A1 n1 c1 A2 n2 c2, v = .agg #[.slice A1 n1 c1, .slice A2 n2 c2, .bool (negQ q)] ∧ n1 = wlen q.num.natAbs ∧ n2 = wlen q.den ∧ Hid (RN w (.slice A1 n1 c1) q.num.natAbs) ∧ Hid (RN w (.slice A2 n2 c2) q.den) := by
 obtain ⟨v1, v2, rfl, h1, h2⟩ := h
 obtain ⟨A1, c1, xs, rfl, _, hx, _⟩ := h1.opened
 obtain ⟨A2, c2, ys, rfl, _, hy, _⟩ := h2.opened
 exact ⟨A1, _, c1, A2, _, c2, rfl, by rw [hx.out]; rfl, by rw [hy.out]; rfl, h1, h2⟩
def HX (w : World) (g1 g2 g3 t3 : Nat) (cs1 cs2 : Array Value) (W : World) : Prop := Blk W g1 57 cs1 ∧ Blk W g2 57 cs2 ∧ (∃ x y z, (∀ u ∈ #[x, y, z], notInt u = true) ∧ Blk W g3 t3 #[x, y, z]) ∧ Below w.heap.size w W
theorem HX.step {w W W' : World} {g1 g2 g3 t3 : Nat} {cs1 cs2 : Array Value} (h : HX w g1 g2 g3 t3 cs1 cs2 W) (hb : Below W.heap.size W W') : HX w g1 g2 g3 t3 cs1 cs2 W' := by
 obtain ⟨h1, h2, ⟨x, y, z, hn, h3⟩, h4⟩ := h
 exact ⟨h1.below hb h1.lt, h2.below hb h2.lt, ⟨x, y, z, hn, h3.below hb h3.lt⟩, h4.trans (hb.mono h4.size)⟩
theorem HX.drew {w W : World} {g1 g2 g3 t3 : Nat} {cs1 cs2 : Array Value} (h : HX w g1 g2 g3 t3 cs1 cs2 W) : HX w g1 g2 g3 t3 cs1 cs2 W.drew := h.step (Below.drew (Below.refl _ _))
theorem HX.put {w W : World} {g1 g2 g3 t3 : Nat} {cs1 cs2 : Array Value} (h : HX w g1 g2 g3 t3 cs1 cs2 W) (h13 : g1 ≠ g3) (h23 : g2 ≠ g3) (hg : w.heap.size ≤ g3) (x y z : Value) (hn : ∀ u ∈ #[x, y, z], notInt u = true) :
  HX w g1 g2 g3 t3 cs1 cs2 (((W.setCell ⟨g3, 0, none⟩ x).setCell ⟨g3, 1, none⟩ y).setCell ⟨g3, 2, none⟩ z) := by
 obtain ⟨h1, h2, ⟨_, _, _, _, h3⟩, h4⟩ := h
 exact ⟨((h1.other (a := ⟨g3, 0, none⟩) h13 x).other (a := ⟨g3, 1, none⟩) h13 y).other (a := ⟨g3, 2, none⟩) h13 z, ((h2.other (a := ⟨g3, 0, none⟩) h23 x).other (a := ⟨g3, 1, none⟩) h23 y).other (a := ⟨g3, 2, none⟩) h23 z, ⟨x, y, z, hn, h3.put3 x y z⟩, below_put3 h4 hg x y z⟩
theorem HX.at3 {w W : World} {g1 g2 g3 t3 : Nat} {cs1 cs2 : Array Value} (h : HX w g1 g2 g3 t3 cs1 cs2 W) : ∃ x y z, (∀ u ∈ #[x, y, z], notInt u = true) ∧ Blk W g3 t3 #[x, y, z] := h.2.2.1
theorem HX.cells {w W : World} {g1 g2 g3 t3 : Nat} {a b c d e f : Value} (h : HX w g1 g2 g3 t3 #[a, b, c] #[d, e, f] W) : W.cell? ⟨g1, 0, none⟩ = some a ∧ W.cell? ⟨g1, 1, none⟩ = some b ∧ W.cell? ⟨g1, 2, none⟩ = some c ∧ W.cell? ⟨g2, 0, none⟩ = some d ∧ W.cell? ⟨g2, 1, none⟩ = some e ∧ W.cell? ⟨g2, 2, none⟩ = some f :=
 ⟨h.1.cell rfl, h.1.cell rfl, h.1.cell rfl, h.2.1.cell rfl, h.2.1.cell rfl, h.2.1.cell rfl⟩
def HY (w : World) (g1 g2 : Nat) (cs1 cs2 : Array Value) (W : World) : Prop := Blk W g1 57 cs1 ∧ Blk W g2 57 cs2 ∧ Below w.heap.size w W
theorem HY.step {w W W' : World} {g1 g2 : Nat} {cs1 cs2 : Array Value} (h : HY w g1 g2 cs1 cs2 W) (hb : Below W.heap.size W W') : HY w g1 g2 cs1 cs2 W' :=
 ⟨h.1.below hb h.1.lt, h.2.1.below hb h.2.1.lt, h.2.2.trans (hb.mono h.2.2.size)⟩
theorem HY.drew {w W : World} {g1 g2 : Nat} {cs1 cs2 : Array Value} (h : HY w g1 g2 cs1 cs2 W) : HY w g1 g2 cs1 cs2 W.drew := h.step (Below.drew (Below.refl _ _))
theorem HY.cells {w W : World} {g1 g2 : Nat} {a b c d e f : Value} (h : HY w g1 g2 #[a, b, c] #[d, e, f] W) : W.cell? ⟨g1, 0, none⟩ = some a ∧ W.cell? ⟨g1, 1, none⟩ = some b ∧ W.cell? ⟨g1, 2, none⟩ = some c ∧ W.cell? ⟨g2, 0, none⟩ = some d ∧ W.cell? ⟨g2, 1, none⟩ = some e ∧ W.cell? ⟨g2, 2, none⟩ = some f :=
 ⟨h.1.cell rfl, h.1.cell rfl, h.1.cell rfl, h.2.1.cell rfl, h.2.1.cell rfl, h.2.1.cell rfl⟩
def HP (w : World) (g1 g2 g3 t3 : Nat) (cs1 cs2 : Array Value) (vx vy vd : Value) (x y d : Nat) (W : World) : Prop := HX w g1 g2 g3 t3 cs1 cs2 W ∧ RN W vx x ∧ RN W vy y ∧ RN W vd d
theorem HP.step {w W W' : World} {g1 g2 g3 t3 : Nat} {cs1 cs2 : Array Value} {vx vy vd : Value} {x y d : Nat} (h : HP w g1 g2 g3 t3 cs1 cs2 vx vy vd x y d W) (hb : Below W.heap.size W W') : HP w g1 g2 g3 t3 cs1 cs2 vx vy vd x y d W' :=
 ⟨h.1.step hb, h.2.1.of_below hb, h.2.2.1.of_below hb, h.2.2.2.of_below hb⟩
theorem HP.put {w W : World} {g1 g2 g3 t3 : Nat} {cs1 cs2 : Array Value} {vx vy vd : Value} {x y d : Nat} (h : HP w g1 g2 g3 t3 cs1 cs2 vx vy vd x y d W) (h13 : g1 ≠ g3) (h23 : g2 ≠ g3) (hg : w.heap.size ≤ g3) (p q r : Value) (hn : ∀ u ∈ #[p, q, r], notInt u = true) :
  HP w g1 g2 g3 t3 cs1 cs2 vx vy vd x y d (((W.setCell ⟨g3, 0, none⟩ p).setCell ⟨g3, 1, none⟩ q).setCell ⟨g3, 2, none⟩ r) := by
 obtain ⟨a, b, c, hn0, hk⟩ := h.1.at3
 exact ⟨h.1.put h13 h23 hg p q r hn, h.2.1.put3 hk hn0 _ _ _, h.2.2.1.put3 hk hn0 _ _ _, h.2.2.2.put3 hk hn0 _ _ _⟩
def capQ (q : Rat) : Rat := if sizeQ q ≤ 4096 then q else 0
def FPost (w : World) (q : Rat) (e : Ending) (w' : World) : Prop := ∃ v, e = .returned v ∧ FQ w' v q ∧ Below w.heap.size w w'
def HT (w : World) (g1 g3 t3 : Nat) (cs1 : Array Value) (W : World) : Prop := Blk W g1 57 cs1 ∧ (∃ x y z, (∀ u ∈ #[x, y, z], notInt u = true) ∧ Blk W g3 t3 #[x, y, z]) ∧ Below w.heap.size w W
theorem HT.step {w W W' : World} {g1 g3 t3 : Nat} {cs1 : Array Value} (h : HT w g1 g3 t3 cs1 W) (hb : Below W.heap.size W W') : HT w g1 g3 t3 cs1 W' := by
 obtain ⟨h1, ⟨x, y, z, hn, h3⟩, h4⟩ := h
 exact ⟨h1.below hb h1.lt, ⟨x, y, z, hn, h3.below hb h3.lt⟩, h4.trans (hb.mono h4.size)⟩
theorem HT.put {w W : World} {g1 g3 t3 : Nat} {cs1 : Array Value} (h : HT w g1 g3 t3 cs1 W) (h13 : g1 ≠ g3) (hg : w.heap.size ≤ g3) (x y z : Value) (hn : ∀ u ∈ #[x, y, z], notInt u = true) :
  HT w g1 g3 t3 cs1 (((W.setCell ⟨g3, 0, none⟩ x).setCell ⟨g3, 1, none⟩ y).setCell ⟨g3, 2, none⟩ z) := by
 obtain ⟨h1, ⟨_, _, _, _, h3⟩, h4⟩ := h
 exact ⟨((h1.other (a := ⟨g3, 0, none⟩) h13 x).other (a := ⟨g3, 1, none⟩) h13 y).other (a := ⟨g3, 2, none⟩) h13 z, ⟨x, y, z, hn, h3.put3 x y z⟩, below_put3 h4 hg x y z⟩
theorem HT.cells {w W : World} {g1 g3 t3 : Nat} {a b c : Value} (h : HT w g1 g3 t3 #[a, b, c] W) : W.cell? ⟨g1, 0, none⟩ = some a ∧ W.cell? ⟨g1, 1, none⟩ = some b ∧ W.cell? ⟨g1, 2, none⟩ = some c := ⟨h.1.cell rfl, h.1.cell rfl, h.1.cell rfl⟩
structure RawF where
 neg : Bool
 num : List Nat
 den : List Nat
def FR (w : World) (v : Value) (f : RawF) : Prop := (f.num.length ≤ 1000000000 ∧ f.den.length ≤ 1000000000) ∧ ∃ v1 v2, v = .agg #[.bool f.neg, v1, v2] ∧ Rd w v1 f.num ∧ Rd w v2 f.den
def rawQ (q : Rat) : RawF := ⟨negQ q, dg q.num.natAbs, dg q.den⟩
def RightF (f : RawF) : Prop := ∃ q, sizeQ q ≤ 4096 ∧ f = rawQ q
theorem rawQ_inj {p q : Rat} (h : rawQ p = rawQ q) : p = q := by
 unfold rawQ at h
 injection h with h1 h2 h3
 rw [← mk_self p, ← mk_self q, h1, dg_inj h2, dg_inj h3]
open Classical in
noncomputable def fixQ (f : RawF) : Rat := if h : RightF f then h.choose else 0
theorem fixQ_raw (q : Rat) (h : sizeQ q ≤ 4096) : fixQ (rawQ q) = q := by
 have hr : RightF (rawQ q) := ⟨q, h, rfl⟩
 unfold fixQ
 rw [dif_pos hr]
 exact (rawQ_inj hr.choose_spec.2).symm
theorem fixQ_wrong {f : RawF} (h : ¬ RightF f) : fixQ f = 0 := by unfold fixQ; rw [dif_neg h]
theorem sizeQ_zero : sizeQ 0 = 1 := by unfold sizeQ; decide +kernel
theorem sizeQ_fix (f : RawF) : sizeQ (fixQ f) ≤ 4096 := by
 unfold fixQ
 split
 ·rename_i h; exact h.choose_spec.1
 ·rw [sizeQ_zero]; decide
theorem right_raw {f : RawF} (h : RightF f) : f = rawQ (fixQ f) := by
 unfold fixQ
 rw [dif_pos h]
 exact h.choose_spec.2
theorem FR.of_fq {w : World} {v : Value} {q : Rat} (h : FQ w v q) (hs : sizeQ q ≤ 4096) : FR w v (rawQ q) := ⟨by unfold sizeQ wlen at hs; unfold rawQ; simp only; omega, h⟩
theorem FR.of_below {w w1 : World} {v : Value} {f : RawF} (h : FR w v f) (hb : Below w.heap.size w w1) : FR w1 v f := by
 obtain ⟨hl, v1, v2, e, h1, h2⟩ := h
 exact ⟨hl, v1, v2, e, h1.below hb, h2.below hb⟩
theorem FR.opened {w : World} {v : Value} {f : RawF} (h : FR w v f) : ∃ A1 n1 c1 A2 n2 c2, v = .agg #[.bool f.neg, .slice A1 n1 c1, .slice A2 n2 c2] ∧ Hid (FR w (.agg #[.bool f.neg, .slice A1 n1 c1, .slice A2 n2 c2]) f) := by
 have h0 := h
 obtain ⟨hl, v1, v2, rfl, h1, h2⟩ := h
 obtain ⟨A1, c1, rfl, _⟩ := h1.slice
 obtain ⟨A2, c2, rfl, _⟩ := h2.slice
 exact ⟨A1, _, c1, A2, _, c2, rfl, h0⟩
theorem FQ.opened {w : World} {v : Value} {q : Rat} (h : FQ w v q) : ∃ A1 n1 c1 A2 n2 c2, v = .agg #[.bool (negQ q), .slice A1 n1 c1, .slice A2 n2 c2] ∧ Hid (FQ w (.agg #[.bool (negQ q), .slice A1 n1 c1, .slice A2 n2 c2]) q) := by
 have h0 := h
 obtain ⟨v1, v2, rfl, h1, h2⟩ := h
 obtain ⟨A1, c1, rfl, _⟩ := Rd.slice h1
 obtain ⟨A2, c2, rfl, _⟩ := Rd.slice h2
 exact ⟨A1, _, c1, A2, _, c2, rfl, h0⟩
theorem den_words {q : Rat} : dg q.den ≠ [] := fun h => q.den_nz (dg_nil.1 h)
theorem rightF_den {f : RawF} (h : RightF f) : f.den ≠ [] ∧ f.num.length + f.den.length ≤ 4096 ∧ nat f.den (f.den.length - 1) ≠ 0 := by
 obtain ⟨q, hs, rfl⟩ := h
 exact ⟨den_words, hs, dg_top _ q.den_nz⟩
theorem rightF_zero {f : RawF} (h : RightF f) (h0 : f.num = []) : valN f.den = 1 ∧ f.neg = false := by
 obtain ⟨q, hs, rfl⟩ := h
 have hz : q.num = 0 := Int.natAbs_eq_zero.1 (dg_nil.1 h0)
 have hq : q = 0 := Rat.num_eq_zero.1 hz
 subst hq
 exact ⟨by show valN (dg _) = 1; rw [valN_dg]; rfl, rfl⟩
theorem rightF_num {f : RawF} (h : RightF f) (h0 : f.num ≠ []) : nat f.num (f.num.length - 1) ≠ 0 ∧ Nat.gcd (valN f.num) (valN f.den) = 1 := by
 obtain ⟨q, hs, rfl⟩ := h
 have hz : q.num.natAbs ≠ 0 := fun h => h0 (dg_nil.2 h)
 refine ⟨dg_top _ hz, ?_⟩
 show Nat.gcd (valN (dg _)) (valN (dg _)) = 1
 rw [valN_dg, valN_dg]
 exact q.reduced
theorem rightF_mk0 {f : RawF} (h1 : nat f.den (f.den.length - 1) ≠ 0) (h2 : f.num = []) (hd : Wd f.den) (h3 : valN f.den = 1) (h4 : f.neg = false) : RightF f := by
 obtain ⟨s, xs, ys⟩ := f
 simp only at h1 h2 hd h3 h4
 subst h2 h4
 refine ⟨0, by rw [sizeQ_zero]; decide, ?_⟩
 have := canon hd (.inr h1)
 rw [h3] at this
 subst this
 rfl
theorem rightF_mk {f : RawF} (hl : f.num.length + f.den.length ≤ 4096) (hd0 : f.den ≠ []) (h1 : nat f.den (f.den.length - 1) ≠ 0) (h2 : nat f.num (f.num.length - 1) ≠ 0) (hn : Wd f.num) (hd : Wd f.den) (hn0 : f.num ≠ []) (hg : Nat.gcd (valN f.num) (valN f.den) = 1) : RightF f := by
 obtain ⟨s, xs, ys⟩ := f
 simp only at *
 have e1 := canon hn (.inr h2)
 have e2 := canon hd (.inr h1)
 have m0 : valN xs ≠ 0 := fun h => hn0 (by rw [e1, h]; rfl)
 have n0 : valN ys ≠ 0 := fun h => hd0 (by rw [e2, h]; rfl)
 have hr : rawQ (mkRat (sg s (valN xs)) (valN ys)) = ⟨s, xs, ys⟩ := by
  unfold rawQ
  rw [mk_neg s _ _ n0 m0, mk_num s _ _ n0, mk_den s _ _ n0, hg, Nat.div_one, Nat.div_one, sg_natAbs, ← e1, ← e2]
 refine ⟨_, ?_, hr.symm⟩
 have h5 := hr
 unfold rawQ at h5
 injection h5 with h6 h7 h8
 unfold sizeQ wlen
 rw [h7, h8]
 exact hl
open Classical in
noncomputable def rightB (f : RawF) : Bool := decide (RightF f)
theorem rightB_true {f : RawF} (h : RightF f) : rightB f = true := by unfold rightB; simp [h]
theorem rightB_false {f : RawF} (h : ¬ RightF f) : rightB f = false := by unfold rightB; simp [h]
def BPost (w : World) (b : Bool) (e : Ending) (w' : World) : Prop := e = .returned (.bool b) ∧ Below w.heap.size w w'
theorem bcell {W w1 : World} (hb : Below W.heap.size W w1) : (∀ b o, b < W.heap.size → w1.cell? ⟨b, o, none⟩ = W.cell? ⟨b, o, none⟩) ∧ (∀ b o, b < W.heap.size → w1.frozen? ⟨b, o, none⟩ = W.frozen? ⟨b, o, none⟩) :=
 ⟨fun b o h => hb.cell (p := ⟨b, o, none⟩) h, fun b o h => hb.frozen (p := ⟨b, o, none⟩) h⟩
theorem eqb0 {n : Nat} (h : n = 0) : ((n : Int) == 0) = true := by subst h; rfl
theorem neb0 {n : Nat} (h : n ≠ 0) : ((n : Int) == 0) = false := by
 have : (n : Int) ≠ 0 := by omega
 simpa using this
theorem Rd.at_ {w : World} {A : Option Addr} {c : Nat} {xs : List Nat} (h : Rd w (.slice A xs.length c) xs) (hp : 0 < xs.length) : ∃ g o, A = some ⟨g, o, none⟩ ∧ g < w.heap.size ∧ w.cell? ⟨g, o + (xs.length - 1), none⟩ = some (.int .u32 (nat xs (xs.length - 1) : Nat)) :=
 h.cell (by omega)
set_option maxHeartbeats 16000000 in
set_option maxRecDepth 100000 in
theorem right_calls (w : World) (v : Value) (f : RawF) (h : FR w v f) :
  Calls Tryd.prog 38 #[v] w fun e w' => BPost w (rightB f) e w' := by
 obtain ⟨⟨hl, hl2⟩, v1, v2, rfl, h1, h2⟩ := h
 obtain ⟨A1, c1, rfl, hc1⟩ := h1.slice
 obtain ⟨A2, c2, rfl, hc2⟩ := h2.slice
 obtain ⟨s, xs, ys⟩ := f
 simp only at *
 have R1 := Hd h1
 have R2 := Hd h2
 clear h1 h2
 go_enter Tryd.func38, Tryd.ntmps38
 go_wp2_with fail
 go_quiet (fail)
 have HB := Hd (pw_drewN (below_new w (.cells #[.bool s, .slice A1 xs.length c1, .slice A2 ys.length c2] 27)) nq)
 by_cases d0 : ys.length = 0
 ·have q0 := eqb0 d0
  have HR := Hd (rightB_false (f := ⟨s, xs, ys⟩) fun h => (rightF_den h).1 (List.eq_nil_of_length_eq_zero d0))
  clear d0
  go_wp2_with fail
  go_ret
  exact ⟨by rw [HR.out]; rfl, pw_drewN (below_new w _) _⟩
 have q0 := neb0 d0
 have wl : IntKind.i64.wrap ((xs.length : Int) + (ys.length : Int)) = (xs.length : Int) + (ys.length : Int) := IntWalk.i64_in _ (by omega)
 by_cases d1 : 4096 < xs.length + ys.length
 ·have q1 : decide ((xs.length : Int) + (ys.length : Int) > 4096) = true := decide_eq_true (by omega)
  have HR := Hd (rightB_false (f := ⟨s, xs, ys⟩) fun h => by have h1 := (rightF_den h).2.1; simp only at h1; omega)
  clear d0 d1
  go_wp2_with fail
  go_ret
  exact ⟨by rw [HR.out]; rfl, pw_drewN (below_new w _) _⟩
 have q1 : decide ((xs.length : Int) + (ys.length : Int) > 4096) = false := decide_eq_false (by omega)
 obtain ⟨g2, o2, rfl, hg2, hcell2⟩ := R2.out.at_ (by omega)
 have n2 : ((ys.length : Int) - 1).toNat = ys.length - 1 := by omega
 have n3 : 0 ≤ (ys.length : Int) - 1 := by omega
 have n4 : (ys.length : Int) - 1 < (ys.length : Int) := by omega
 have nw : IntKind.i64.wrap ((ys.length : Int) - 1) = (ys.length : Int) - 1 := IntWalk.i64_in _ (by omega)
 have hcw := (bcell (pw_drewN (below_new w (.cells #[.bool s, .slice A1 xs.length c1, .slice (some ⟨g2, o2, none⟩) ys.length c2] 27)) nq)).1
 by_cases d2 : nat ys (ys.length - 1) = 0
 ·rw [d2] at hcell2
  have hcell0 : w.cell? ⟨g2, o2 + (ys.length - 1), none⟩ = some (.int .u32 0) := hcell2
  have HR := Hd (rightB_false (f := ⟨s, xs, ys⟩) fun h => (rightF_den h).2.2 d2)
  have hz0 : ((0 : Int) == 0) = true := rfl
  clear d0 d1 d2 hcell2
  go_wp2_with fail
  go_ret
  exact ⟨by rw [HR.out]; rfl, pw_drewN (below_new w _) _⟩
 have z2 : ((nat ys (ys.length - 1) : Int) == 0) = false := neb0 d2
 have HCN2 := Hd (canon R2.out.wd (.inr d2))
 have HW1 := Hd (pw_drewN (below_new w (.cells #[.bool s, .slice A1 xs.length c1, .slice (some ⟨g2, o2, none⟩) ys.length c2] 27)) nq)
 have RN2 : Hid (RN w (.slice (some ⟨g2, o2, none⟩) ys.length c2) (valN ys)) := by have := R2.out; unfold Hid RN; rw [← HCN2.out]; exact this
 by_cases x0 : xs.length = 0
 ·have y0 := eqb0 x0
  have HX0 := Hd (List.eq_nil_of_length_eq_zero x0)
  have HL0 := Hd d0
  have HD2 := Hd d2
  clear d0 d1 d2 x0
  go_wp2_with fail
  refine (one_calls _ _ _ (RN2.out.of_below HW1.out)).mono ?_
  rintro e w2 ⟨rfl, hb2⟩
  have HB2 := Hd (HW1.out.trans (hb2.mono HW1.out.size))
  have hc2 := (bcell hb2).1
  clear hb2
  by_cases v1 : valN ys = 1
  ·have u1 : decide (valN ys = 1) = true := decide_eq_true v1
   have HV1 := Hd v1
   clear v1
   cases s with
   | true =>
    have HR := Hd (rightB_false (f := ⟨true, xs, ys⟩) fun h => absurd (rightF_zero h HX0.out).2 (by simp))
    go_wp2_with fail
    go_ret
    exact ⟨by rw [HR.out]; rfl, HB2.out⟩
   | false =>
    have HR := Hd (rightB_true (f := ⟨false, xs, ys⟩) (rightF_mk0 HD2.out HX0.out R2.out.wd HV1.out rfl))
    go_wp2_with fail
    go_ret
    exact ⟨by rw [HR.out]; rfl, HB2.out⟩
  ·have u1 : decide (valN ys = 1) = false := decide_eq_false v1
   have HR := Hd (rightB_false (f := ⟨s, xs, ys⟩) fun h => v1 (rightF_zero h HX0.out).1)
   clear v1
   go_wp2_with fail
   go_ret
   exact ⟨by rw [HR.out]; rfl, HB2.out⟩
 have y0 := neb0 x0
 obtain ⟨g1, o1, rfl, hg1, hcell1⟩ := R1.out.at_ (by omega)
 have m2 : ((xs.length : Int) - 1).toNat = xs.length - 1 := by omega
 have m3 : 0 ≤ (xs.length : Int) - 1 := by omega
 have m4 : (xs.length : Int) - 1 < (xs.length : Int) := by omega
 have mw : IntKind.i64.wrap ((xs.length : Int) - 1) = (xs.length : Int) - 1 := IntWalk.i64_in _ (by omega)
 have HX0 : Hid (xs ≠ []) := fun h => x0 (by rw [h]; rfl)
 have HY0 : Hid (ys ≠ []) := fun h => d0 (by rw [h]; rfl)
 have HLL : Hid (xs.length + ys.length ≤ 4096) := by unfold Hid; omega
 have HD2 := Hd d2
 by_cases e2 : nat xs (xs.length - 1) = 0
 ·rw [e2] at hcell1
  have hcell0 : w.cell? ⟨g1, o1 + (xs.length - 1), none⟩ = some (.int .u32 0) := hcell1
  have HR := Hd (rightB_false (f := ⟨s, xs, ys⟩) fun h => (rightF_num h HX0.out).1 e2)
  have hz0 : ((0 : Int) != 0) = false := rfl
  clear d0 d1 d2 x0 e2 hcell1
  go_wp2_with fail
  go_ret
  exact ⟨by rw [HR.out]; rfl, pw_drewN (below_new w _) _⟩
 have z3 : ((nat xs (xs.length - 1) : Int) != 0) = true := by
  have : (nat xs (xs.length - 1) : Int) ≠ 0 := by omega
  simpa using this
 have HCN1 := Hd (canon R1.out.wd (.inr e2))
 have RN1 : Hid (RN w (.slice (some ⟨g1, o1, none⟩) xs.length c1) (valN xs)) := by have := R1.out; unfold Hid RN; rw [← HCN1.out]; exact this
 have HE2 := Hd e2
 have hlm : wlen (valN xs) ≤ 10000000000 := by unfold wlen; rw [← HCN1.out]; omega
 have hln : wlen (valN ys) ≤ 10000000000 := by unfold wlen; rw [← HCN2.out]; omega
 clear d0 d1 d2 x0 e2
 go_wp2_with fail
 refine (one_calls _ _ _ (RN2.out.of_below HW1.out)).mono ?_
 rintro e w2 ⟨rfl, hb2⟩
 have HB2 := Hd (HW1.out.trans (hb2.mono HW1.out.size))
 have hc2 := (bcell hb2).1
 by_cases v1 : valN ys = 1
 ·have u1 : decide (valN ys = 1) = true := decide_eq_true v1
  have HR := Hd (rightB_true (f := ⟨s, xs, ys⟩) (rightF_mk HLL.out HY0.out HD2.out HE2.out R1.out.wd R2.out.wd HX0.out (by simp only; rw [v1, Nat.gcd_one_right])))
  clear v1
  go_wp2_with fail
  go_ret
  exact ⟨by rw [HR.out]; rfl, HB2.out⟩
 ·have u1 : decide (valN ys = 1) = false := decide_eq_false v1
  clear v1
  go_wp2_with fail
  refine (gcd_calls _ _ _ _ _ (RN1.out.of_below HB2.out) (RN2.out.of_below HB2.out) hlm hln).mono ?_
  rintro e w3 ⟨v3, rfl, hv3, hb3⟩
  have HB3 := Hd (HB2.out.trans (hb3.mono HB2.out.size))
  have HV3 := Hd hv3
  obtain ⟨A3, c3, zs, rfl, _, _, _⟩ := hv3.opened
  clear hb3 hv3
  go_wp2_with fail
  refine (one_calls _ _ _ HV3.out).mono ?_
  rintro e w4 ⟨rfl, hb4⟩
  have HB4 := Hd (HB3.out.trans (hb4.mono HB3.out.size))
  clear hb4
  by_cases g1 : Nat.gcd (valN xs) (valN ys) = 1
  ·have u2 : decide (Nat.gcd (valN xs) (valN ys) = 1) = true := decide_eq_true g1
   have HR := Hd (rightB_true (f := ⟨s, xs, ys⟩) (rightF_mk HLL.out HY0.out HD2.out HE2.out R1.out.wd R2.out.wd HX0.out g1))
   clear g1
   go_wp2_with fail
   go_ret
   exact ⟨by rw [HR.out]; rfl, HB4.out⟩
  ·have u2 : decide (Nat.gcd (valN xs) (valN ys) = 1) = false := decide_eq_false g1
   have HR := Hd (rightB_false (f := ⟨s, xs, ys⟩) fun h => g1 (rightF_num h HX0.out).2)
   clear g1
   go_wp2_with fail
   go_ret
   exact ⟨by rw [HR.out]; rfl, HB4.out⟩
theorem below_next {a b c : World} (h : Below a.heap.size a b) (h2 : Below b.heap.size b c) : Below a.heap.size a c := h.trans (h2.mono h.size)
def HS (w : World) (bs : List (Nat × Nat × Array Value)) (W : World) : Prop := (∀ b ∈ bs, Blk W b.1 b.2.1 b.2.2) ∧ Below w.heap.size w W
theorem HS.step {w W W' : World} {bs : List (Nat × Nat × Array Value)} (h : HS w bs W) (hb : Below W.heap.size W W') : HS w bs W' := ⟨fun b hm => (h.1 b hm).below hb (h.1 b hm).lt, below_next h.2 hb⟩
theorem HS.drew {w W : World} {bs : List (Nat × Nat × Array Value)} (h : HS w bs W) : HS w bs W.drew := h.step (Below.drew (Below.refl _ _))
theorem HS.drewN {w W : World} {bs : List (Nat × Nat × Array Value)} (h : HS w bs W) (n : Nat) : HS w bs (W.drewN n) := h.step (pw_drewN (Below.refl _ _) n)
theorem HS.nil (w : World) : HS w [] w := ⟨fun b hm => (by cases hm), Below.refl _ _⟩
theorem HS.new {w W : World} {bs : List (Nat × Nat × Array Value)} (h : HS w bs W) (cs : Array Value) (t : Nat) : HS w ((W.heap.size, t, cs) :: bs) (W.alloc (.cells cs t)) := by
 have h2 := h.step (below_new W (.cells cs t))
 refine ⟨fun b hm => ?_, h2.2⟩
 rcases List.mem_cons.1 hm with rfl | hm
 ·exact Blk.new W t cs
 ·exact h2.1 b hm
theorem HS.more {w W : World} {bs : List (Nat × Nat × Array Value)} (h : HS w bs W) (o : Obj) : HS w bs (W.alloc o) := h.step (below_new W o)
theorem HS.one {w : World} (cs : Array Value) (t : Nat) : HS w [(w.heap.size, t, cs)] (w.alloc (.cells cs t)) := (HS.nil w).new cs t
theorem HS.two {w : World} (cs cs2 : Array Value) (t t2 : Nat) : HS w [(w.heap.size + 1, t2, cs2), (w.heap.size, t, cs)] ((w.alloc (.cells cs t)).alloc (.cells cs2 t2)) := by
 have := ((HS.nil w).new cs t).new cs2 t2
 rwa [size_alloc] at this
theorem HS.blk {w W : World} {bs : List (Nat × Nat × Array Value)} (h : HS w bs W) (i : Nat) {g t : Nat} {cs : Array Value} (hi : bs[i]? = some (g, t, cs)) : Blk W g t cs := h.1 (g, t, cs) (List.mem_of_getElem? hi)
theorem Blk.c3 {W : World} {g t : Nat} {a b c : Value} (h : Blk W g t #[a, b, c]) : W.cell? ⟨g, 0, none⟩ = some a ∧ W.cell? ⟨g, 1, none⟩ = some b ∧ W.cell? ⟨g, 2, none⟩ = some c := ⟨h.cell rfl, h.cell rfl, h.cell rfl⟩
theorem Blk.f3 {W : World} {g t : Nat} {cs : Array Value} (h : Blk W g t cs) : W.frozen? ⟨g, 0, none⟩ = false ∧ W.frozen? ⟨g, 1, none⟩ = false ∧ W.frozen? ⟨g, 2, none⟩ = false := ⟨h.frozen 0, h.frozen 1, h.frozen 2⟩
theorem HS.put3 {w W : World} {bs : List (Nat × Nat × Array Value)} {g t : Nat} {cs : Array Value} {a b c : Value} (h : HS w ((g, t, #[a, b, c]) :: bs) W) (hg : w.heap.size ≤ g) (hne : ∀ b ∈ bs, b.1 ≠ g) (x y z : Value) :
  HS w ((g, t, #[x, y, z]) :: bs) (((W.setCell ⟨g, 0, none⟩ x).setCell ⟨g, 1, none⟩ y).setCell ⟨g, 2, none⟩ z) := by
 refine ⟨fun b hm => ?_, below_put3 h.2 hg x y z⟩
 rcases List.mem_cons.1 hm with rfl | hm'
 ·exact (h.blk 0 rfl).put3 x y z
 ·exact (((h.1 b (List.mem_cons_of_mem _ hm')).other (a := ⟨g, 0, none⟩) (hne b hm') x).other (a := ⟨g, 1, none⟩) (hne b hm') y).other (a := ⟨g, 2, none⟩) (hne b hm') z
theorem RQ.put3 {w : World} {v : Value} {q : Rat} {g t : Nat} {a b c : Value} (h : RQ w v q) (hb : Blk w g t #[a, b, c]) (hni : ∀ x ∈ #[a, b, c], notInt x = true) (x y z : Value) : RQ (((w.setCell ⟨g, 0, none⟩ x).setCell ⟨g, 1, none⟩ y).setCell ⟨g, 2, none⟩ z) v q := by
 obtain ⟨v1, v2, e, h1, h2⟩ := h
 exact ⟨v1, v2, e, h1.put3 hb hni x y z, h2.put3 hb hni x y z⟩
theorem FQ.put3 {w : World} {v : Value} {q : Rat} {g t : Nat} {a b c : Value} (h : FQ w v q) (hb : Blk w g t #[a, b, c]) (hni : ∀ x ∈ #[a, b, c], notInt x = true) (x y z : Value) : FQ (((w.setCell ⟨g, 0, none⟩ x).setCell ⟨g, 1, none⟩ y).setCell ⟨g, 2, none⟩ z) v q := by
 obtain ⟨v1, v2, e, h1, h2⟩ := h
 exact ⟨v1, v2, e, h1.put3 hb hni x y z, h2.put3 hb hni x y z⟩
theorem end85 {fn : Func} {p : Tmp} {tmps : Array Value} {w W : World} {g : Nat} {x y z : Value} {q : Rat} (hres : fn.results = #[.cell p 57]) (hp : tmps.getD p undef = .pointer (some ⟨g, 0, none⟩)) (hb : Blk W g 57 #[.slice none 0 0, .slice none 0 0, .bool false])
  (hq : RQ W (.agg #[x, y, z]) q) (hg : w.heap.size ≤ g) (hbl : Below w.heap.size w W) : bodyPost Tryd.prog fn (fun e w' => QPost w q e w') Exit.ret { tmps := tmps, defers := [] } (((W.setCell ⟨g, 0, none⟩ x).setCell ⟨g, 1, none⟩ y).setCell ⟨g, 2, none⟩ z) :=
 ret85 hres hp (hb.put3 x y z) ⟨_, rfl, hq.put3 hb ni85 x y z, below_put3 hbl hg x y z⟩
theorem end40 {fn : Func} {p : Tmp} {tmps : Array Value} {w W : World} {g : Nat} {x y z : Value} {q : Rat} (hres : fn.results = #[.cell p 27]) (hp : tmps.getD p undef = .pointer (some ⟨g, 0, none⟩)) (hb : Blk W g 27 #[.bool false, .slice none 0 0, .slice none 0 0])
  (hq : FQ W (.agg #[x, y, z]) q) (hg : w.heap.size ≤ g) (hbl : Below w.heap.size w W) : bodyPost Tryd.prog fn (fun e w' => FPost w q e w') Exit.ret { tmps := tmps, defers := [] } (((W.setCell ⟨g, 0, none⟩ x).setCell ⟨g, 1, none⟩ y).setCell ⟨g, 2, none⟩ z) :=
 ret40 hres hp (hb.put3 x y z) ⟨_, rfl, hq.put3 hb ni40 x y z, below_put3 hbl hg x y z⟩
theorem RQ.opened' {w : World} {v : Value} {q : Rat} (h : RQ w v q) : ∃ A1 n1 c1 A2 n2 c2, v = .agg #[.slice A1 n1 c1, .slice A2 n2 c2, .bool (negQ q)] ∧ Hid (RQ w (.agg #[.slice A1 n1 c1, .slice A2 n2 c2, .bool (negQ q)]) q) := by
 have h0 := h
 obtain ⟨A1, n1, c1, A2, n2, c2, rfl, _⟩ := h.opened
 exact ⟨A1, n1, c1, A2, n2, c2, rfl, h0⟩
theorem rq_of_fr {w : World} {A1 A2 : Option Addr} {n1 c1 n2 c2 : Nat} {f : RawF} {s : Bool} (h : FR w (.agg #[.bool s, .slice A1 n1 c1, .slice A2 n2 c2]) f) (hr : RightF f) : RQ w (.agg #[.slice A1 n1 c1, .slice A2 n2 c2, .bool s]) (fixQ f) := by
 obtain ⟨hl, v1, v2, e, h1, h2⟩ := h
 injection e with e
 have e1 : Value.bool s = .bool f.neg ∧ Value.slice A1 n1 c1 = v1 ∧ Value.slice A2 n2 c2 = v2 := by simpa using e
 obtain ⟨e1, rfl, rfl⟩ := e1
 injection e1 with e1
 subst e1
 have e := right_raw hr
 refine ⟨.slice A1 n1 c1, .slice A2 n2 c2, ?_, ?_, ?_⟩
 ·rw [show f.neg = negQ (fixQ f) by rw [show f.neg = (rawQ (fixQ f)).neg from congrArg RawF.neg e]; rfl]
 ·have : f.num = dg (fixQ f).num.natAbs := congrArg RawF.num e
  rw [this] at h1; exact h1
 ·have : f.den = dg (fixQ f).den := congrArg RawF.den e
  rw [this] at h2; exact h2
def FitQ (k : Nat) (q : Rat) : Prop := wlen q.num.natAbs ≤ k ∧ wlen q.den ≤ k
theorem FitQ.size {k : Nat} {q : Rat} (h : FitQ k q) : sizeQ q ≤ 2 * k := by unfold sizeQ; have := h.1; have := h.2; omega
set_option maxHeartbeats 16000000 in
set_option maxRecDepth 100000 in
theorem taken_calls (w : World) (v : Value) (f : RawF) (h : FR w v f) : Calls Tryd.prog 29 #[v] w fun e w' => QPost w (fixQ f) e w' := by
 obtain ⟨A1, n1, c1, A2, n2, c2, rfl, H⟩ := h.opened
 clear h
 obtain ⟨s, hs⟩ : ∃ s, s = f.neg := ⟨_, rfl⟩
 rw [← hs] at H ⊢
 clear hs
 go_enter Tryd.func29, Tryd.ntmps29
 go_wp2_with fail
 have H0 := Hd (HS.two (w := w) #[.bool s, .slice A1 n1 c1, .slice A2 n2 c2] #[.slice none 0 0, .slice none 0 0, .bool false] 27 57)
 generalize (w.alloc (.cells #[.bool s, .slice A1 n1 c1, .slice A2 n2 c2] 27)).alloc (.cells #[.slice none 0 0, .slice none 0 0, .bool false] 57) = W0 at *
 refine (right_calls _ _ f (H.out.of_below H0.out.2)).mono ?_
 rintro e w1 ⟨rfl, hb⟩
 have H1 := Hd (H0.out.step hb)
 clear hb
 by_cases hr : RightF f
 ·have t := rightB_true hr
  have HR := Hd hr
  obtain ⟨d0, d1, d2⟩ := (H1.out.blk 1 rfl).c3
  obtain ⟨e0, e1, e2⟩ := (H1.out.blk 0 rfl).c3
  obtain ⟨f0, f1, f2⟩ := (H1.out.blk 0 rfl).f3
  clear hr
  go_wp2_with fail
  exact end85 Tryd.results29 rfl (H1.out.blk 0 rfl) (rq_of_fr (H.out.of_below H1.out.2) HR.out) (by omega) H1.out.2
 ·have t := rightB_false hr
  have HQ := Hd (fixQ_wrong hr)
  clear hr
  go_wp2_with fail
  refine (whole_calls w1 0 (by decide) (by decide)).mono ?_
  rintro e w2 ⟨v, rfl, hv, hb⟩
  obtain ⟨A5, n5, c5, A6, n6, c6, rfl, HV⟩ := hv.opened'
  have H2 := Hd (H1.out.step hb)
  clear hb hv
  obtain ⟨e0, e1, e2⟩ := (H2.out.blk 0 rfl).c3
  obtain ⟨f0, f1, f2⟩ := (H2.out.blk 0 rfl).f3
  go_wp2_with fail
  exact end85 Tryd.results29 rfl (H2.out.blk 0 rfl) (by rw [HQ.out]; exact HV.out) (by omega) H2.out.2
end Go.Proofs.YthpkoidlpfllaaaDoor

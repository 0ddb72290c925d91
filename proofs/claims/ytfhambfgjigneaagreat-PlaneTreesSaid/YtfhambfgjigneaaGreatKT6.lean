/- Contracts of Go functions that the statement reaches, proved by walking their text, and plain laws over them (texts put together). -/
import Derived.Test.YtfhambfgjigneaaGreatKT5
import Derived.Test.YtfhambfgjigneaaGreatKT3
import Derived.Test.YtfhambfgjigneaaGreatKT4
import Derived.Test.YtfhambfgjigneaaGreatKT1
set_option linter.unusedVariables false
set_option linter.unusedSimpArgs false
namespace Go.Proofs.YtfhambfgjigneaaGreat
open Go.RowKit
theorem info140 : (Tryz.prog.info? 160).map (·.size) = some 2 := by kernel_rfl
def PartsPost (w : World) (m n : Nat) (e : Ending) (w' : World) : Prop := ∃ v v2, e = .returned (.agg #[v, v2]) ∧ RN w' v (m / n) ∧ RN w' v2 (m % n) ∧ Below w.heap.size w w'
theorem ret140 {fn : Func} {p : Tmp} {Post : Ending → World → Prop} {tmps : Array Value} {w : World} {g : Nat} {a b : Value} (hres : fn.results = #[.cell p 160]) (hp : tmps.getD p undef = .pointer (some ⟨g, 0, none⟩)) (hb : Blk w g 160 #[a, b])
  (hP : Post (.returned (.agg #[a, b])) w) : bodyPost Tryz.prog fn Post Exit.ret { tmps := tmps, defers := [] } w :=
 bodyPost_ret (v := .agg #[a, b]) (results_cell_row hres _ _ g 160 #[a, b] (0, 0) _ hp hb Tryz.underlying160 rfl info140) rfl hP
theorem ni140 : ∀ x ∈ #[Value.slice none 0 0, .slice none 0 0], notInt x = true := by simp [notInt]
theorem RN.put2 {w : World} {v : Value} {n g t : Nat} {a b : Value} (h : RN w v n) (hb : Blk w g t #[a, b]) (hni : ∀ x ∈ #[a, b], notInt x = true) (x y : Value) : RN ((w.setCell ⟨g, 0, none⟩ x).setCell ⟨g, 1, none⟩ y) v n :=
 Rd.apart h hb hni (by simp [World.setCell]) fun k _ hkg => by
  rw [Below.heap_setCell _ _ _ k hkg, Below.heap_setCell _ _ _ k hkg]
theorem end140 {fn : Func} {p : Tmp} {tmps : Array Value} {w W : World} {g : Nat} {x y : Value} {m n : Nat} (hres : fn.results = #[.cell p 160]) (hp : tmps.getD p undef = .pointer (some ⟨g, 0, none⟩)) (hb : Blk W g 160 #[.slice none 0 0, .slice none 0 0])
  (h1 : RN W x (m / n)) (h2 : RN W y (m % n)) (hg : w.heap.size ≤ g) (hbl : Below w.heap.size w W) : bodyPost Tryz.prog fn (fun e w' => PartsPost w m n e w') Exit.ret { tmps := tmps, defers := [] } ((W.setCell ⟨g, 0, none⟩ x).setCell ⟨g, 1, none⟩ y) :=
 ret140 hres hp ((hb.put 0 x).put 1 y) ⟨_, _, rfl, h1.put2 hb ni140 x y, h2.put2 hb ni140 x y, Below.setCell (Below.setCell hbl (p := ⟨g, 0, none⟩) hg x) (p := ⟨g, 1, none⟩) hg y⟩
theorem cmpI_lt {m n : Nat} (h : m < n) : cmpI m n = -1 := by unfold cmpI; rw [if_neg (by omega), if_pos h]
theorem cmpI_ge {m n : Nat} (h : n ≤ m) : decide (cmpI m n < 0) = false := by
 refine decide_eq_false ?_
 unfold cmpI
 split
 ·omega
 ·rw [if_neg (by omega)]; omega
theorem parts_end0 {D g V S : Nat} (h : D + g * V = S) (hq : S / V ≤ g) (hV : 0 < V) : g = S / V ∧ D = S % V := by
 have h1 : g ≤ S / V := by rw [Nat.le_div_iff_mul_le hV]; omega
 have h2 : g = S / V := by omega
 refine ⟨h2, ?_⟩
 have := Nat.div_add_mod S V
 rw [← h2, Nat.mul_comm] at this
 omega
theorem parts_end1 {D g V S L : Nat} (h : D + g * V = S + L) (hD : D < L) (hlt : g * V < S + V) (hq : S / V ≤ g) (hV : 0 < V) : 0 < g ∧ g - 1 = S / V ∧ D + V = S % V + L := by
 have hg : S / V < g := by rw [Nat.div_lt_iff_lt_mul hV]; omega
 have hgp : 0 < g := Nat.lt_of_le_of_lt (Nat.zero_le _) hg
 have h1 : (g - 1) * V ≤ S := by
  have : (g - 1) * V + V = g * V := by rw [← Nat.succ_mul]; congr 1; omega
  omega
 have h2 : g - 1 ≤ S / V := by rw [Nat.le_div_iff_mul_le hV]; exact h1
 have h3 : g - 1 = S / V := by omega
 refine ⟨by omega, h3, ?_⟩
 have := Nat.div_add_mod S V
 rw [← h3, Nat.mul_comm] at this
 have h4 : (g - 1) * V + V = g * V := by rw [← Nat.succ_mul]; congr 1; omega
 omega
theorem top_bit {z : Nat} (h : z < 4294967296) : bits .and .u32 (z : Int) 2147483648 = if z < 2147483648 then 0 else 2147483648 := by
 show IntKind.u32.wrap ((BitVec.ofInt 32 (z : Int) &&& BitVec.ofInt 32 2147483648).toNat : Int) = _
 rw [BitVec.toNat_and, BitVec.ofInt_natCast, BitVec.toNat_ofNat, Nat.mod_eq_of_lt (by omega), show (BitVec.ofInt 32 2147483648).toNat = 2 ^ 31 from rfl]
 by_cases hz : z < 2147483648
 ·have e : z &&& 2 ^ 31 = 0 := by
   refine Nat.eq_of_testBit_eq fun i => ?_
   rw [Nat.testBit_and, Nat.testBit_two_pow, Nat.zero_testBit]
   by_cases h31 : 31 = i
   ·subst h31; rw [Nat.testBit_lt_two_pow (by omega)]; rfl
   ·simp [h31]
  rw [if_pos hz, e]
  rfl
 ·have e : z &&& 2 ^ 31 = 2 ^ 31 := by
   refine Nat.eq_of_testBit_eq fun i => ?_
   rw [Nat.testBit_and, Nat.testBit_two_pow]
   by_cases h31 : 31 = i
   ·subst h31
    have : z.testBit 31 = true := by
     rw [Nat.testBit_eq_decide_div_mod_eq]
     exact decide_eq_true (by omega)
    rw [this]; rfl
   ·simp [h31]
  rw [if_neg hz, e]
  rfl
set_option maxHeartbeats 40000000 in
set_option maxRecDepth 100000 in
theorem rparts_calls (w : World) (v v2 : Value) (m n : Nat) (h : RN w v m) (h2 : RN w v2 n) (hm : wlen m ≤ 10000000000) (hn : wlen n ≤ 10000000000) (hn0 : n ≠ 0) :
  Calls Tryz.prog 151 #[v, v2] w fun e w' => PartsPost w m n e w' := by
 have HRN := Hd h
 have HRN2 := Hd h2
 obtain ⟨A, c, xs, rfl, hc, HX, _⟩ := h.opened
 obtain ⟨A2, c2, ys, rfl, hc2, HY, _⟩ := h2.opened
 clear h h2
 go_enter Tryz.func151, Tryz.ntmps151
 go_wp2_with fail
 have H0 := Hd (HS.one (w := w) #[.slice none 0 0, .slice none 0 0] 160)
 generalize w.alloc (.cells #[.slice none 0 0, .slice none 0 0] 160) = W0 at *
 refine (rorder_calls W0 _ _ m n (HRN.out.of_below H0.out.2) (HRN2.out.of_below H0.out.2) (by omega) (by omega)).mono ?_
 rintro e w1 ⟨rfl, hb⟩
 have H1 := Hd (H0.out.step hb)
 clear hb
 have HRN_1 := Hd (HRN.out.of_below H1.out.2)
 have HRN2_1 := Hd (HRN2.out.of_below H1.out.2)
 by_cases hlt : m < n
 ·have t0 : decide (cmpI m n < 0) = true := by rw [cmpI_lt hlt]; rfl
  have e0 := (H1.out.blk 0 rfl).cell (j := 0) rfl
  have e1 := (H1.out.blk 0 rfl).cell (j := 1) rfl
  have f0 := (H1.out.blk 0 rfl).frozen 0
  have f1 := (H1.out.blk 0 rfl).frozen 1
  have HLT := Hd hlt
  clear hlt
  go_wp2_with fail
  exact end140 Tryz.results151 rfl (H1.out.blk 0 rfl) (by rw [Nat.div_eq_of_lt HLT.out]; exact Rd.nil _) (by rw [Nat.mod_eq_of_lt HLT.out]; exact HRN_1.out) (Nat.le_refl _) H1.out.2
 have hle : n ≤ m := by omega
 have t0 := cmpI_ge hle
 have hyl : 0 < ys.length := by rw [HY.out]; exact wlen_pos.2 hn0
 have hRy : Rd w1 (.slice A2 ys.length c2) ys := by have := HRN2_1.out; unfold RN at this; rw [← HY.out] at this; exact this
 by_cases hy1 : ys.length = 1
 ·have q1 : ((ys.length : Int) == 1) = true := by rw [hy1]; rfl
  obtain ⟨g, o, rfl, hg, hcell⟩ := hRy.cell (j := 0) (by omega)
  rw [Nat.add_zero] at hcell
  have l2 : (0 : Int) < (ys.length : Int) := by omega
  obtain ⟨d, hd⟩ : ∃ d, d = nat ys 0 := ⟨_, rfl⟩
  rw [← hd] at hcell
  have hdn : d = n := by
   rw [hd, ← valN_dg n, ← HY.out]
   match ys, hy1 with
   | [y], _ => simp [nat, valN]
  have hd32 : d < 4294967296 := by rw [hd]; exact nat_lt hRy.wd 0
  have HDN := Hd hdn
  clear hd hRy hdn hlt
  go_wp2_with fail
  refine (rhalves_calls _ _ m d HRN_1.out (by omega) (by have := HDN.out; omega) hd32).mono ?_
  rintro e w3 ⟨v3, rfl, hv3, hb3⟩
  have H3 := Hd (H1.out.step hb3)
  have HV3 := Hd hv3
  obtain ⟨r, hr⟩ : ∃ r, r = m % d := ⟨_, rfl⟩
  rw [← hr]
  have hrl : r < 4294967296 := by
   rw [hr]
   exact Nat.lt_trans (Nat.mod_lt _ (by have := HDN.out; omega)) hd32
  have HRr := Hd hr
  obtain ⟨A5, c5, l5, rfl, _, _, _⟩ := hv3.opened
  clear hr hb3 hv3
  go_wp2_with fail
  have hone : Rd (w3.alloc (.cells #[.int .u32 (r : Int)] 103)) (.slice (some ⟨w3.heap.size, 0, none⟩) 1 1) [r] := Rd.of_arr (xs := [r]) (e := 103) (by show (World.alloc _ _).heap[w3.heap.size]? = _; rw [heap_alloc_new]; rfl) (fun x hx => by simp at hx; omega)
  refine (rtrim_rn hone (by simp)).mono ?_
  rintro e w4 ⟨v4, rfl, hv4, hb4⟩
  rw [show valN [r] = r by simp [valN]] at hv4
  have hbx := below_next (below_new w3 (.cells #[.int .u32 (r : Int)] 103)) hb4
  have HV34 := Hd (Rd.below HV3.out hbx)
  have H4 := Hd (H3.out.step hbx)
  have HV4 := Hd hv4
  obtain ⟨A6, c6, l6, rfl, _, _, _⟩ := hv4.opened
  clear hbx hb4 hv4
  have e0 := (H4.out.blk 0 rfl).cell (j := 0) rfl
  have e1 := (H4.out.blk 0 rfl).cell (j := 1) rfl
  have f0 := (H4.out.blk 0 rfl).frozen 0
  have f1 := (H4.out.blk 0 rfl).frozen 1
  go_wp2_with fail
  exact end140 Tryz.results151 rfl (H4.out.blk 0 rfl) (by have := HV34.out; rw [HDN.out] at this; exact this) (by have := HV4.out; rw [HRr.out, HDN.out] at this; exact this) (Nat.le_refl _) H4.out.2
 have q1 : ((ys.length : Int) == 1) = false := by
  have : (ys.length : Int) ≠ 1 := by omega
  simpa using this
 obtain ⟨g, o, rfl, hg, hcell⟩ := hRy.cell (j := ys.length - 1) (by omega)
 obtain ⟨d, hd⟩ : ∃ d, d = nat ys (ys.length - 1) := ⟨_, rfl⟩
 rw [← hd] at hcell
 have hd32 : d < 4294967296 := by rw [hd]; exact nat_lt hRy.wd _
 have hd0 : d ≠ 0 := by rw [hd, HY.out]; exact dg_top n hn0
 have HD := Hd hd
 have hyb : ys.length ≤ 10000000000 := by rw [HY.out]; exact hn
 obtain ⟨s, hs, _, hs1, hs2⟩ := zeros_norm hd0 hd32
 have k1 : IntKind.i64.wrap ((ys.length : Int) - 1) = (ys.length : Int) - 1 := IntWalk.i64_in _ (by omega)
 have k2 : (ys.length : Int) - 1 < (ys.length : Int) := by omega
 have k3 : ((ys.length : Int) - 1).toNat = ys.length - 1 := by omega
 have k4 : 0 ≤ (ys.length : Int) - 1 := by omega
 have k5 : (1 : Int) ≤ (ys.length : Int) := by omega
 have k6 : 1 ≤ ys.length := by omega
 have HS1 := Hd hs1
 have HS2 := Hd hs2
 clear hd hRy hlt hs1 hs2
 go_wp2_with fail
 go_loop [7] (fun v => ∃ k : Nat, k ≤ s ∧ v = .int .u64 (k : Int)) (fun v => s - (intOf v).toNat)
 case atStart => exact ⟨0, Nat.zero_le _, rfl⟩
 case round =>
  obtain ⟨k, hk, rfl⟩ := hrel
  have p1 : (0 : Int) ≤ (k : Int) := by omega
  have p2 : (k : Int).toNat = k := by omega
  obtain ⟨z, hz⟩ : ∃ z, z = d * 2 ^ k := ⟨_, rfl⟩
  have hzs : z * 2 ^ (s - k) = d * 2 ^ s := by rw [hz, Nat.mul_assoc, ← Nat.pow_add, Nat.add_sub_cancel' hk]
  have hz32 : z < 4294967296 := by
   have h1 : z * 1 ≤ z * 2 ^ (s - k) := Nat.mul_le_mul_left z (Nat.pow_pos (by decide))
   have := HS2.out
   omega
  have p3 : IntKind.u32.wrap ((d : Int) * 2 ^ k) = (z : Int) := by
   have e : (d : Int) * 2 ^ k = (z : Int) := by rw [hz]; push_cast; rfl
   rw [e, IntKind.wrap_u32]; omega
  have p4 := top_bit hz32
  by_cases hks : k < s
  ·have hzb : z < 2147483648 := by
    have h1 : z * 2 ≤ z * 2 ^ (s - k) := Nat.mul_le_mul_left z (by have := Nat.pow_le_pow_right (n := 2) (by decide) (show 1 ≤ s - k by omega); simpa using this)
    have := HS2.out
    omega
   rw [if_pos hzb] at p4
   have p5 : ((0 : Int) == 0) = true := rfl
   have p6 : IntKind.u64.wrap ((k : Int) + 1) = (k : Int) + 1 := IntWalk.u64_in _ (by omega)
   clear hz hzs
   go_wp2_with fail
   go_round
   case rel => exact ⟨k + 1, by omega, by go_num⟩
   case measure => simp [intOf]; omega
  ·obtain rfl : k = s := by omega
   have hzb : ¬ z < 2147483648 := by rw [hz]; have := HS1.out; omega
   rw [if_neg hzb] at p4
   have p5 : ((2147483648 : Int) == 0) = false := rfl
   clear hz hzs
   have w0 : (ys.length : Int) ≤ (ys.length : Int) + 1 := by omega
   go_wp2_with fail
   refine (rshift_calls _ _ n k HRN2_1.out (by omega) hs).mono ?_
   rintro e w5 ⟨BV, vr, rfl, hBV, hvl, hvw, hvv, hva, hb5⟩
   have H5 := Hd (H1.out.step hb5)
   have HRN_5 := Hd (HRN_1.out.of_below hb5)
   have hlw : wlen n = ys.length := by rw [HY.out]; rfl
   rw [hlw] at hvl ⊢
   have hBV5 := hva.lt
   have hrv := Rd.of_arr hva hvw
   rw [hvl] at hrv
   have hrv2 := Rd.takeC (c := ys.length + 1) (xs := vr) (by rw [hvl]; exact hrv) ys.length (by omega)
   obtain ⟨hsl, hst⟩ := shift_norm hn0 hs (by rw [← HY.out, ← HD.out]; exact HS1.out) (by rw [← HY.out, ← HD.out]; exact HS2.out)
   have htk : vr.take ys.length = dg (n * 2 ^ k) := by
    have hlt := lt_dg_len (n * 2 ^ k)
    rw [hsl, ← HY.out] at hlt
    have h0 : valN vr = valN (vr.take ys.length) + 4294967296 ^ ys.length * valN (vr.drop ys.length) := valN_split vr _ (by omega)
    rw [hvv] at h0
    have hd0 : valN (vr.drop ys.length) = 0 := by
     rcases Nat.eq_zero_or_pos (valN (vr.drop ys.length)) with h | h
     ·exact h
     ·have : 4294967296 ^ ys.length * 1 ≤ 4294967296 ^ ys.length * valN (vr.drop ys.length) := Nat.mul_le_mul_left _ h
      omega
    rw [hd0, Nat.mul_zero, Nat.add_zero] at h0
    have hw' := hvw.take ys.length
    have hl' : (vr.take ys.length).length = ys.length := by rw [List.length_take]; omega
    rw [h0]
    refine canon hw' (.inr fun hz => ?_)
    have h1 := valN_lt ((vr.take ys.length).take (ys.length - 1)) (hw'.take _)
    have h2 : valN (vr.take ys.length) = valN ((vr.take ys.length).take (ys.length - 1)) + 4294967296 ^ (ys.length - 1) * nat (vr.take ys.length) (ys.length - 1) := by
     have := valN_take_succ (vr.take ys.length) (ys.length - 1) (by omega)
     rw [Nat.sub_add_cancel (by omega), List.take_take, Nat.min_self] at this
     exact this
    rw [hl'] at hz
    rw [hz, Nat.mul_zero, Nat.add_zero] at h2
    rw [List.length_take, hl', Nat.min_eq_left (by omega), ← h2, ← h0] at h1
    have h3 := wlen_lower (n := n * 2 ^ k) (Nat.mul_ne_zero hn0 (Nat.ne_of_gt (Nat.pow_pos (by decide))))
    have h4 : wlen (n * 2 ^ k) = ys.length := by unfold wlen; rw [hsl, HY.out]
    rw [h4] at h3
    omega
   rw [htk] at hrv2
   obtain ⟨vs, hvs⟩ : ∃ vs, vs = dg (n * 2 ^ k) := ⟨_, rfl⟩
   rw [← hvs] at hrv2 hsl hst
   rw [← HY.out] at hsl hst
   have HVS := Hd hvs
   have HRV5 := Hd hrv2
   have hVv : valN vs = n * 2 ^ k := by rw [hvs, valN_dg]
   have HVv := Hd hVv
   have HST := Hd hst
   have HSL := Hd hsl
   have HBV := Hd hBV
   clear hb5 hva hrv hrv2 hvs hVv hst hsl htk hvl hvw hvv hlw hBV
   go_wp2_with fail
   refine (rshift_calls _ _ m k HRN_5.out (by omega) hs).mono ?_
   rintro e w6 ⟨BU, us, rfl, hBU, hul, huw, huv, hua, hb6⟩
   have H6 := Hd (H5.out.step hb6)
   have HRV6 := Hd (HRV5.out.below hb6)
   have HUV := Hd huv
   have HUL := Hd hul
   have HUW := Hd huw
   have HUA6 := Hd hua
   have hlm : wlen m = xs.length := by rw [HX.out]; rfl
   have hBUV : BU ≠ BV := by omega
   have hBV6 : BV < w6.heap.size := Nat.lt_of_lt_of_le hBV5 hb6.size
   have hBU6 := hua.lt
   have hly2 : 2 ≤ ys.length := by omega
   have hlxy : ys.length ≤ xs.length := by rw [HX.out, HY.out]; exact wlen_mono hle
   have hlx : xs.length ≤ 10000000000 := by rw [HX.out]; exact hm
   have hBU0 : w.heap.size < BU := by have := (H5.out.blk 0 rfl).lt; omega
   have hBV0 : w.heap.size < BV := by have := (H1.out.blk 0 rfl).lt; have := HBV.out; omega
   rw [hlm] at HUL ⊢
   clear hb6 huv hul huw hua hlm
   obtain ⟨L, hL⟩ : ∃ L, L = xs.length + 1 := ⟨_, rfl⟩
   obtain ⟨K, hK⟩ : ∃ K, K + ys.length = L := ⟨L - ys.length, by omega⟩
   rw [← hL] at HUL ⊢
   have wl0 : IntKind.i64.wrap ((xs.length : Int) - (ys.length : Int)) = (K : Int) - 1 := by rw [IntWalk.i64_in _ (by omega)]; omega
   have wl : IntKind.i64.wrap ((K : Int) - 1 + 1) = (K : Int) := by rw [IntWalk.i64_in _ (by omega)]; omega
   have hmk := make_words 44 Tryz.underlying44 K (by omega)
   have HLL := Hd hL
   have hLb : L ≤ 10000000001 := by omega
   clear hL
   go_wp2_with fail
   clear hmk wl
   have hw7 := gb_alloc (gb_refl w6 none) (zw K)
   have hq7 := zw_arr w6 K
   generalize w6.alloc (zw K) = W7 at *
   obtain ⟨V, hV⟩ : ∃ V, V = valN vs := ⟨_, rfl⟩
   have HV := Hd hV
   have hV0 : V = n * 2 ^ k := by rw [hV]; exact HVv.out
   have HV0 := Hd hV0
   have hVlt : V < 4294967296 ^ ys.length := by
    have := valN_lt vs HRV6.out.wd
    rwa [← hV, HSL.out] at this
   have HVLT := Hd hVlt
   have hVpos : 0 < V := by rw [hV0]; exact Nat.mul_pos (by omega) (Nat.pow_pos (by decide))
   have hVge : 2147483648 * 4294967296 ^ (ys.length - 1) ≤ V := by
    have := top_ge (V := V) (lb := ys.length - 1) (by rw [hV0, ← HVS.out, HSL.out]; omega) (by rw [hV0, ← HVS.out]; exact HST.out)
    exact this
   have hm0 : m * 2 ^ k < V * 4294967296 ^ K := shift_first hs hVge K xs.length (by have := lt_dg_len m; rw [← HX.out] at this; exact this) (by have := HLL.out; omega)
   have HM0 := Hd hm0
   have hBUQ : BU ≠ w6.heap.size := by omega
   have hBVQ : BV ≠ w6.heap.size := by omega
   have hBRQ : w.heap.size < w6.heap.size := by omega
   clear hV hV0 hVlt hVge hm0 hle hyl hy1 q1 t0 hg hcell hd32 hd0 k1 k2 k3 k4 k5 k6 p1 p2 p3 p4 p5 hzb wl0 w0
   have HB7 : Hid (w.grownBy W7 none) := gb_trans (grown_of_below H6.out.2 none) hw7
   have hbk7 : Blk W7 w.heap.size 160 #[.slice none 0 0, .slice none 0 0] := (hw7.block _ (H6.out.blk 0 rfl).lt (by simp)).trans (H6.out.blk 0 rfl)
   go_loopg [12] K (fun gk vi wr => ∃ (U qs : List Nat), gk ≤ K ∧ vi = .int .i64 ((gk : Int) - 1) ∧ U.length = L ∧ Wd U ∧ qs.length = K - gk ∧ Wd qs ∧ valN U < V * 4294967296 ^ gk ∧ m * 2 ^ k = valN U + V * 4294967296 ^ gk * valN qs ∧ Arr .u32 wr BU 103 (ints U) ∧ Arr .u32 wr w6.heap.size 103 (ints (List.replicate gk 0 ++ qs)) ∧ Rd wr (.slice (some ⟨BV, 0, none⟩) ys.length (ys.length + 1)) vs ∧ Blk wr w.heap.size 160 #[.slice none 0 0, .slice none 0 0] ∧ w.grownBy wr none)
   case atStart =>
    exact ⟨us, [], Nat.le_refl _, by go_num, HUL.out, HUW.out, by simp, (fun x hx => (by cases hx)), by rw [HUV.out]; exact HM0.out, by rw [HUV.out]; simp [valN], HUA6.out.grown hw7 (by simp), by rw [List.append_nil]; exact hq7, HRV6.out.gb hw7, hbk7, HB7.out⟩
   case round =>
    obtain ⟨U, qs, hk', rfl, hUl, hUw, hql, hqw, hUlt, hM, hua, hqa, hrv, hbk, hgb⟩ := hrel
    have HUl := Hd hUl
    have HUw := Hd hUw
    have HQl := Hd hql
    have HQw := Hd hqw
    have HUlt := Hd hUlt
    have HM := Hd hM
    have HUA7 := Hd hua
    have HQA7 := Hd hqa
    have HRV7 := Hd hrv
    have HBK7 := Hd hbk
    have HG7 := Hd hgb
    clear hUl hUw hql hqw hUlt hM hua hqa hrv hbk hgb hbk7 hw7 hq7
    obtain ⟨wo, rfl⟩ : ∃ wo : World, wo = wr := ⟨_, rfl⟩
    by_cases h0 : 0 < gk
    ·obtain ⟨j, rfl⟩ : ∃ j, gk = j + 1 := ⟨gk - 1, by omega⟩
     rw [show ((j + 1 : Nat) : Int) - 1 = (j : Int) by omega]
     have hjl : j + (ys.length + 1) ≤ U.length := by rw [HUl.out]; omega
     obtain ⟨c1, c2', c3⟩ := div_cut HUw.out hjl HUlt.out HVLT.out
     obtain ⟨P, hP⟩ : ∃ P, P = U.take j := ⟨_, rfl⟩
     obtain ⟨seg, hsg⟩ : ∃ seg, seg = (U.drop j).take (ys.length + 1) := ⟨_, rfl⟩
     obtain ⟨Z, hZ⟩ : ∃ Z, Z = U.drop (j + (ys.length + 1)) := ⟨_, rfl⟩
     have hU : U = P ++ seg ++ Z := by
      rw [hP, hsg, hZ, ← List.drop_drop, List.append_assoc, List.take_append_drop, List.take_append_drop]
     have hPl : P.length = j := by rw [hP, List.length_take]; omega
     have hsl : seg.length = ys.length + 1 := by rw [hsg, List.length_take, List.length_drop]; omega
     have hPw : Wd P := by rw [hP]; exact HUw.out.take _
     have hsw : Wd seg := by rw [hsg]; exact (HUw.out.drop _).take _
     have hZw : Wd Z := by rw [hZ]; exact HUw.out.drop _
     rw [← hsg] at c1 c2'
     rw [← hP] at c2'
     rw [← hZ] at c3
     obtain ⟨S, hS⟩ : ∃ S, S = valN seg := ⟨_, rfl⟩
     rw [← hS] at c1 c2'
     have HUA8 : Hid (Arr .u32 wo BU 103 (ints (P ++ seg ++ Z))) := by have := HUA7.out; rw [hU] at this; exact this
     obtain ⟨lowV, hlv, hVe⟩ := valN_top2 (v := vs) HRV6.out.wd (by rw [HSL.out]; exact hly2)
     obtain ⟨lowS, hls, hSe⟩ := valN_top3 hsw ys.length hly2 hsl
     rw [HSL.out] at hlv hVe
     rw [← HV.out] at hVe
     rw [← hS] at hSe
     obtain ⟨v1, hv1⟩ : ∃ v1, v1 = nat vs (ys.length - 1) := ⟨_, rfl⟩
     obtain ⟨v2, hv2⟩ : ∃ v2, v2 = nat vs (ys.length - 2) := ⟨_, rfl⟩
     obtain ⟨s0, hs0⟩ : ∃ s0, s0 = nat seg (ys.length - 2) := ⟨_, rfl⟩
     obtain ⟨s1, hs1⟩ : ∃ s1, s1 = nat seg (ys.length - 1) := ⟨_, rfl⟩
     obtain ⟨s2, hs2⟩ : ∃ s2, s2 = nat seg ys.length := ⟨_, rfl⟩
     have b1 : v1 < 4294967296 := by rw [hv1]; exact nat_lt HRV6.out.wd _
     have b2 : v2 < 4294967296 := by rw [hv2]; exact nat_lt HRV6.out.wd _
     have b3 : s0 < 4294967296 := by rw [hs0]; exact nat_lt hsw _
     have b4 : s1 < 4294967296 := by rw [hs1]; exact nat_lt hsw _
     have b5 : s2 < 4294967296 := by rw [hs2]; exact nat_lt hsw _
     have htop : 2147483648 ≤ v1 := by rw [hv1]; exact HST.out
     rw [← hv1, ← hv2] at hVe
     rw [← hs0, ← hs1, ← hs2] at hSe
     obtain ⟨top, htp⟩ : ∃ top, top = s2 * 4294967296 + s1 := ⟨_, rfl⟩
     rw [← htp] at hSe
     have hs2v : s2 ≤ v1 := head_le hVe hlv b2 (by rw [hSe, htp]) c1
     have htop64 : top < 18446744073709551616 := by omega
     have cu2 : wo.cell? ⟨BU, j + ys.length, none⟩ = some (.int .u32 (s2 : Int)) := by rw [hs2]; exact arr_cell HUA8.out hPl (by omega)
     have cu1 : wo.cell? ⟨BU, j + (ys.length - 1), none⟩ = some (.int .u32 (s1 : Int)) := by rw [hs1]; exact arr_cell HUA8.out hPl (by omega)
     have cv1 : wo.cell? ⟨BV, ys.length - 1, none⟩ = some (.int .u32 (v1 : Int)) := by
      have := Rd.cell' (c := ys.length + 1) (by rw [HSL.out]; exact HRV7.out) rfl (show ys.length - 1 < vs.length by rw [HSL.out]; omega)
      rw [Nat.zero_add, ← hv1] at this
      exact this
     obtain ⟨g0, r0, hg0, hr0⟩ : ∃ g0 r0, top / v1 = g0 ∧ top % v1 = r0 := ⟨_, _, rfl, rfl⟩
     have hgr0 : g0 * v1 + r0 = top := by rw [← hg0, ← hr0, Nat.mul_comm]; exact Nat.div_add_mod top v1
     have hr0v : r0 < v1 := by rw [← hr0]; exact Nat.mod_lt _ (by omega)
     have hq0 : S / V ≤ g0 := quot_first hVe hSe hls b3 hgr0 hr0v
     obtain ⟨⟨df1, df2⟩, df3, df4⟩ := div_facts hg0 hr0
     have hgl0 : g0 ≤ top := by rw [← hg0]; exact Nat.div_le_self _ _
     have hor := or_word s2 s1 b5 b4
     rw [← htp] at hor
     have HC1 := Hd c1
     have HC2 := Hd c2'
     have HC3 := Hd c3
     have HSGL := Hd hsl
     have HPl := Hd hPl
     have HPw := Hd hPw
     have HZw := Hd hZw
     have HSW := Hd hsw
     have HS := Hd hS
     have HVE := Hd hVe
     have HSE := Hd hSe
     have HTP := Hd htp
     have HV1 := Hd hv1
     have HV2 := Hd hv2
     have HS0 := Hd hs0
     have HS2 := Hd hs2
     have HGR := Hd hgr0
     have HQ0 := Hd hq0
     have HLV := Hd hlv
     have HLS := Hd hls
     clear c1 c2' c3 hP hsg hZ hU hPl hsl hPw hsw hZw hjl hS hVe hSe htp hv1 hv2 hs0 hs1 hs2 hgr0 hq0 hlv hls hg0 hr0
     have n1 : (j : Int) ≥ 0 := by omega
     have n2 : (j : Int).toNat = j := by omega
     have i1 : IntKind.i64.wrap ((j : Int) + (ys.length : Int)) = (j : Int) + (ys.length : Int) := IntWalk.i64_in _ (by omega)
     have i2 : IntKind.i64.wrap ((j : Int) + (ys.length : Int) - 1) = (j : Int) + (ys.length : Int) - 1 := IntWalk.i64_in _ (by omega)
     have i3 : ((j : Int) + (ys.length : Int)).toNat = j + ys.length := by omega
     have i4 : ((j : Int) + (ys.length : Int) - 1).toNat = j + (ys.length - 1) := by omega
     have i5 : (0 : Int) ≤ (j : Int) + (ys.length : Int) := by omega
     have i6 : (0 : Int) ≤ (j : Int) + (ys.length : Int) - 1 := by omega
     have i7 : (j : Int) + (ys.length : Int) < (L : Int) := by omega
     have i8 : (j : Int) + (ys.length : Int) - 1 < (L : Int) := by omega
     have i9 : IntKind.i64.wrap ((ys.length : Int) - 1) = (ys.length : Int) - 1 := IntWalk.i64_in _ (by omega)
     have i10 : ((ys.length : Int) - 1).toNat = ys.length - 1 := by omega
     have i11 : (0 : Int) ≤ (ys.length : Int) - 1 := by omega
     have i12 : (ys.length : Int) - 1 < (ys.length : Int) := by omega
     have i13 : (1 : Int) ≤ (j : Int) + (ys.length : Int) := by omega
     have i14 : (1 : Int) ≤ (ys.length : Int) := by omega
     have i15 : j + ys.length < L := by omega
     have i16 : 1 ≤ ys.length := by omega
     have w1' : IntKind.u64.wrap (s2 : Int) = (s2 : Int) := IntWalk.u64_in _ (by omega)
     have w2 : IntKind.u64.wrap (s1 : Int) = (s1 : Int) := IntWalk.u64_in _ (by omega)
     have w3 : IntKind.u64.wrap ((s2 : Int) * 4294967296) = (s2 : Int) * 4294967296 := IntWalk.u64_in _ (by omega)
     have w4 : IntKind.u64.wrap (v1 : Int) = (v1 : Int) := IntWalk.u64_in _ (by omega)
     have w5 : IntKind.u64.wrap (g0 : Int) = (g0 : Int) := IntWalk.u64_in _ (by omega)
     have w6' : IntKind.u64.wrap (r0 : Int) = (r0 : Int) := IntWalk.u64_in _ (by omega)
     have d0 : ((v1 : Int) == 0) = false := by
      have : (v1 : Int) ≠ 0 := by omega
      simpa using this
     have d1 : (v1 : Int) ≠ 0 := by omega
     go_wp2_with fail
     go_quiet (fail)
     go_upto_block 4 with (fail)
     clear cu2 cu1 cv1 i1 i2 i3 i4 i5 i6 i7 i8 i9 i10 i11 i12 i13 i14 i15 i16 w1' w2 w3 hor df1 df2 df3 df4
     go_cut [14] (fun vg wc => ∃ gu : Nat, vg = .int .u64 (gu : Int) ∧ gu < 4294967296 ∧ Hid (S / V ≤ gu) ∧ Hid (gu * V < S + V) ∧ wo.grownBy wc none)
     case first =>
      go_wp2_with fail
      go_loopw [14, 15] (fun vg vr wz => ∃ (gu r : Nat), vg = .int .u64 (gu : Int) ∧ vr = .int .u64 (r : Int) ∧ gu * v1 + r = top ∧ S / V ≤ gu ∧ r < 4294967296 ∧ wo.grownBy wz none) (fun vg _ _ => (intOf vg).toNat)
      case atStart => exact ⟨g0, r0, rfl, rfl, HGR.out, HQ0.out, by omega, gb_drewN (gb_refl wo none) _⟩
      case round =>
       obtain ⟨gu, r, rfl, rfl, hgr, hq, hrb, hgb⟩ := hrel
       have HUX := Hd (HUA8.out.grown hgb (by simp))
       have HGX := Hd hgb
       have cu0 : wr.cell? ⟨BU, j + (ys.length - 2), none⟩ = some (.int .u32 (s0 : Int)) := by rw [HS0.out]; exact arr_cell HUX.out HPl.out (by rw [HSGL.out]; omega)
       have hcv := HRV7.out.gb hgb
       have cv2 : wr.cell? ⟨BV, ys.length - 2, none⟩ = some (.int .u32 (v2 : Int)) := by
        have := Rd.cell' (c := ys.length + 1) (by rw [HSL.out]; exact hcv) rfl (show ys.length - 2 < vs.length by rw [HSL.out]; omega)
        rw [Nat.zero_add, ← HV2.out] at this
        exact this
       have cv1 : wr.cell? ⟨BV, ys.length - 1, none⟩ = some (.int .u32 (v1 : Int)) := by
        have := Rd.cell' (c := ys.length + 1) (by rw [HSL.out]; exact hcv) rfl (show ys.length - 1 < vs.length by rw [HSL.out]; omega)
        rw [Nat.zero_add, ← HV1.out] at this
        exact this
       have hgul : gu ≤ top := by
        have : gu * 1 ≤ gu * v1 := Nat.mul_le_mul_left gu (by omega)
        omega
       have i1 : IntKind.i64.wrap ((j : Int) + (ys.length : Int)) = (j : Int) + (ys.length : Int) := IntWalk.i64_in _ (by omega)
       have i2 : IntKind.i64.wrap ((j : Int) + (ys.length : Int) - 2) = (j : Int) + (ys.length : Int) - 2 := IntWalk.i64_in _ (by omega)
       have i4 : ((j : Int) + (ys.length : Int) - 2).toNat = j + (ys.length - 2) := by omega
       have i6 : (0 : Int) ≤ (j : Int) + (ys.length : Int) - 2 := by omega
       have i8 : (j : Int) + (ys.length : Int) - 2 < (L : Int) := by omega
       have i9 : IntKind.i64.wrap ((ys.length : Int) - 1) = (ys.length : Int) - 1 := IntWalk.i64_in _ (by omega)
       have i10 : ((ys.length : Int) - 1).toNat = ys.length - 1 := by omega
       have i11 : (0 : Int) ≤ (ys.length : Int) - 1 := by omega
       have i12 : (ys.length : Int) - 1 < (ys.length : Int) := by omega
       have i14 : (1 : Int) ≤ (ys.length : Int) := by omega
       have j9 : IntKind.i64.wrap ((ys.length : Int) - 2) = (ys.length : Int) - 2 := IntWalk.i64_in _ (by omega)
       have j10 : ((ys.length : Int) - 2).toNat = ys.length - 2 := by omega
       have j11 : (0 : Int) ≤ (ys.length : Int) - 2 := by omega
       have j12 : (ys.length : Int) - 2 < (ys.length : Int) := by omega
       have j14 : (2 : Int) ≤ (ys.length : Int) := by omega
       have j13 : (2 : Int) ≤ (j : Int) + (ys.length : Int) := by omega
       have w7 : IntKind.u64.wrap (v2 : Int) = (v2 : Int) := IntWalk.u64_in _ (by omega)
       have w8 : IntKind.u64.wrap (s0 : Int) = (s0 : Int) := IntWalk.u64_in _ (by omega)
       have e1 : IntKind.u64.wrap ((r : Int) * 4294967296) = (r : Int) * 4294967296 := IntWalk.u64_in _ (by omega)
       have hor2 := or_word r s0 hrb b3
       obtain ⟨z, hz⟩ : ∃ z, z = r * 4294967296 + s0 := ⟨_, rfl⟩
       rw [← hz] at hor2
       obtain ⟨r2, hr2⟩ : ∃ r2, r2 = r + v1 := ⟨_, rfl⟩
       have e2 : IntKind.u64.wrap ((r : Int) + (v1 : Int)) = (r2 : Int) := by rw [IntWalk.u64_in _ (by omega)]; omega
       have HZ := Hd hz
       have HGRR := Hd hgr
       have HQQ0 := Hd hq
       have down : ∀ g1, gu = g1 + 1 → S / V ≤ g1 → (4294967296 ≤ r2 → g1 < 4294967296 ∧ g1 * V < S + V) ∧ g1 * v1 + r2 = top := fun g1 hg1 hq1 => by
        have hgr1 : g1 * v1 + r2 = top := by
         have : gu * v1 = g1 * v1 + v1 := by rw [hg1]; exact Nat.succ_mul g1 v1
         omega
        refine ⟨fun hr2b => ?_, hgr1⟩
        have hgq : g1 < 4294967296 := guess_small hgr1 HTP.out b4 hs2v hr2b
        exact ⟨hgq, guess_pass HVE.out HLV.out HSE.out (by omega) hgr1 hgq (by
         have := Nat.mul_le_mul (show g1 ≤ 4294967295 by omega) (show v2 ≤ 4294967295 by omega)
         omega)⟩
       have HDN := Hd down
       clear hz hgb hcv down
       by_cases hbig : 4294967295 < gu
       ·have t1 : decide ((gu : Int) > 4294967295) = true := decide_eq_true (by omega)
        obtain ⟨g1, hg1⟩ : ∃ g1, gu = g1 + 1 := ⟨gu - 1, by omega⟩
        have e3 : IntKind.u64.wrap ((gu : Int) - 1) = (g1 : Int) := by rw [IntWalk.u64_in _ (by omega)]; omega
        have hq1 : S / V ≤ g1 := by
         have := quot_small HC1.out
         omega
        obtain ⟨h1, h2⟩ := HDN.out g1 hg1 hq1
        have HH1 := Hd h1
        have HH2 := Hd h2
        have HQ1 := Hd hq1
        have hglt : g1 < gu := by omega
        clear hgr hq hr2 hg1 h1 h2 hq1
        by_cases hr2b : 4294967295 < r2
        ·have t3 : decide ((r2 : Int) > 4294967295) = true := decide_eq_true (by omega)
         go_wp2_with fail
         go_quiet (fail)
         go_wp2_with fail
         go_meet
         case rel => exact ⟨g1, rfl, (HH1.out (by omega)).1, HQ1.out, (HH1.out (by omega)).2, gb_drewN HGX.out _⟩
        ·have t3 : decide ((r2 : Int) > 4294967295) = false := decide_eq_false (by omega)
         go_wp2_with fail
         go_quiet (fail)
         go_wp2_with fail
         go_roundw
         case rel => exact ⟨g1, r2, rfl, rfl, HH2.out, HQ1.out, by omega, gb_drewN HGX.out _⟩
         case measure => simp [intOf]; omega
       ·have t1 : decide ((gu : Int) > 4294967295) = false := decide_eq_false (by omega)
        obtain ⟨p, hp⟩ : ∃ p, p = gu * v2 := ⟨_, rfl⟩
        have e4 : IntKind.u64.wrap ((gu : Int) * (v2 : Int)) = (p : Int) := mul_wrap (by omega) b2 hp
        by_cases hmz : z < p
        ·have t2 : decide ((p : Int) > (z : Int)) = true := decide_eq_true (by omega)
         have hmpos : 0 < gu := by
          rcases Nat.eq_zero_or_pos gu with h | h
          ·rw [h, Nat.zero_mul] at hp; omega
          ·exact h
         obtain ⟨g1, hg1⟩ : ∃ g1, gu = g1 + 1 := ⟨gu - 1, by omega⟩
         have e3 : IntKind.u64.wrap ((gu : Int) - 1) = (g1 : Int) := by rw [IntWalk.u64_in _ (by omega)]; omega
         have hq1 : S / V ≤ g1 := by
          have h1 := guess_down HVE.out HSE.out HLS.out HGRR.out (by rw [← hp, ← HZ.out]; exact hmz)
          have h2 : S / V < gu := Nat.div_lt_of_lt_mul (by rw [Nat.mul_comm]; exact h1)
          omega
         obtain ⟨h1, h2⟩ := HDN.out g1 hg1 hq1
         have HH1 := Hd h1
         have HH2 := Hd h2
         have HQ1 := Hd hq1
         have hglt : g1 < gu := by omega
         clear hgr hq hr2 hg1 h1 h2 hq1 hp
         by_cases hr2b : 4294967295 < r2
         ·have t3 : decide ((r2 : Int) > 4294967295) = true := decide_eq_true (by omega)
          go_wp2_with fail
          go_quiet (fail)
          go_wp2_with fail
          go_meet
          case rel => exact ⟨g1, rfl, (HH1.out (by omega)).1, HQ1.out, (HH1.out (by omega)).2, gb_drewN HGX.out _⟩
         ·have t3 : decide ((r2 : Int) > 4294967295) = false := decide_eq_false (by omega)
          go_wp2_with fail
          go_quiet (fail)
          go_wp2_with fail
          go_roundw
          case rel => exact ⟨g1, r2, rfl, rfl, HH2.out, HQ1.out, by omega, gb_drewN HGX.out _⟩
          case measure => simp [intOf]; omega
        ·have t2 : decide ((p : Int) > (z : Int)) = false := decide_eq_false (by omega)
         have HQ2 : Hid (gu * V < S + V) := guess_pass HVE.out HLV.out HSE.out (by omega) HGRR.out (by omega) (by rw [← hp, ← HZ.out]; omega)
         have hgq : gu < 4294967296 := by omega
         clear hp hgr hq hr2
         go_wp2_with fail
         go_quiet (fail)
         go_wp2_with fail
         go_meet
         case rel => exact ⟨gu, rfl, hgq, HQQ0.out, HQ2.out, gb_drewN HGX.out _⟩
     case rest =>
      obtain ⟨gu, rfl, hgu, HQ0', HQ1', hgb⟩ := hcut
      have HUX := Hd (HUA8.out.grown hgb (by simp))
      have HVX := Hd (HRV7.out.gb hgb)
      have HGX := Hd hgb
      have hNE : ∀ g' : Nat, (Value.slice (some ⟨BV, 0, none⟩) ys.length (ys.length + 1)).ownBlock = some g' → some g' ≠ some BU := fun g' he e => by
       simp [Value.ownBlock] at he
       injection e with e
       omega
      have HNE := Hd hNE
      have FIN : ∀ (seg' : List Nat) (wz : World), seg'.length = ys.length + 1 → Wd seg' → valN seg' = S % V → Arr .u32 wz BU 103 (ints (P ++ seg' ++ Z)) → wo.grownBy wz (some BU) →
        (∃ old, wz.cell? ⟨w6.heap.size, j, none⟩ = some (.int .u32 old) ∧ wz.frozen? ⟨w6.heap.size, j, none⟩ = false) ∧ ∀ qd : Nat, qd = S / V →
         (∃ (U' qs' : List Nat), j ≤ K ∧ Value.int .i64 ((j : Int) - 1) = .int .i64 ((j : Int) - 1) ∧ U'.length = L ∧ Wd U' ∧ qs'.length = K - j ∧ Wd qs' ∧ valN U' < V * 4294967296 ^ j ∧ m * 2 ^ k = valN U' + V * 4294967296 ^ j * valN qs' ∧ Arr .u32 (wz.setCell ⟨w6.heap.size, j, none⟩ (.int .u32 (qd : Int))) BU 103 (ints U') ∧ Arr .u32 (wz.setCell ⟨w6.heap.size, j, none⟩ (.int .u32 (qd : Int))) w6.heap.size 103 (ints (List.replicate j 0 ++ qs')) ∧ Rd (wz.setCell ⟨w6.heap.size, j, none⟩ (.int .u32 (qd : Int))) (.slice (some ⟨BV, 0, none⟩) ys.length (ys.length + 1)) vs ∧ Blk (wz.setCell ⟨w6.heap.size, j, none⟩ (.int .u32 (qd : Int))) w.heap.size 160 #[.slice none 0 0, .slice none 0 0] ∧ w.grownBy (wz.setCell ⟨w6.heap.size, j, none⟩ (.int .u32 (qd : Int))) none) := by
       intro seg' wz hsl' hsw' hsv' hua' hgb'
       have hqa8 := HQA7.out.grown hgb' (by intro e; injection e with e; omega)
       have hrep : List.replicate (j + 1) 0 ++ qs = List.replicate j 0 ++ 0 :: qs := by rw [List.replicate_succ', List.append_assoc]; rfl
       rw [hrep] at hqa8
       refine ⟨⟨_, hqa8.cell j (by rw [ints_length]; simp), hqa8.frozen j⟩, fun qd hqd => ?_⟩
       have hqdb : qd < 4294967296 := by rw [hqd]; exact quot_small HC1.out
       have hsv : S = V * qd + valN seg' := by rw [hsv', hqd]; exact (Nat.div_add_mod _ _).symm
       have hvU : valN (P ++ seg' ++ Z) = valN P + 4294967296 ^ j * valN seg' := by
        rw [valN_append, HC3.out, Nat.mul_zero, Nat.add_zero, valN_append, HPl.out]
       have hsl : valN seg' < V := by rw [hsv']; exact Nat.mod_lt _ hVpos
       refine ⟨P ++ seg' ++ Z, qd :: qs, by omega, rfl, ?_, (HPw.out.append hsw').append HZw.out, by rw [List.length_cons, HQl.out]; omega, ?_, ?_, ?_, hua'.other (by simpa using hBUQ) _, ?_, ?_, ?_, gb_set (gb_row HG7.out hgb' (Nat.le_of_lt hBU0)) (.inl (Nat.le_of_lt hBRQ)) _⟩
       ·have h0 := HUl.out
        rw [show U.length = (P ++ seg ++ Z).length by
         have h1 := HUA7.out
         have h2 := HUA8.out
         have e := h1.symm.trans h2
         injection e with e
         injection e with e
         have e3 := congrArg Array.size e
         simpa [nums, ints] using e3] at h0
        simp only [List.length_append] at h0 ⊢
        have h2 := HSGL.out
        omega
       ·intro y hy
        rcases List.mem_cons.1 hy with rfl | hy
        ·exact hqdb
        ·exact HQw.out y hy
       ·rw [hvU]
        have hP0 := valN_lt P HPw.out
        rw [HPl.out] at hP0
        exact div_less hP0 hsl
       ·rw [hvU, valN]
        have := HM.out
        rw [HC2.out] at this
        exact div_round this hsv
       ·have := hqa8.set j (qd : Int)
        rw [ints_set, List.set_append_right _ _ (by simp)] at this
        simp only [List.length_replicate, Nat.sub_self, List.set_cons_zero] at this
        exact this
       ·refine (HRV7.out.grown hgb' HNE.out).move (by simp [World.setCell]) fun b hb _ => ?_
        simp [Value.ownBlock] at hb
        exact Below.heap_setCell wz _ _ b (by intro e; simp at e; omega)
       ·exact Blk.other ((hgb'.block _ HBK7.out.lt (by intro e; injection e with e; omega)).trans HBK7.out) (by simp; omega) _
      have HFIN := Hd FIN
      have hwk : IntKind.i64.wrap ((j : Int) - 1) = (j : Int) - 1 := IntWalk.i64_in _ (by omega)
      have hjK : (j : Int) < (K : Int) := by omega
      have hjK2 : j < K := by omega
      have gw : IntKind.u64.wrap (gu : Int) = (gu : Int) := IntWalk.u64_in _ (by omega)
      clear hgb hNE FIN
      go_wp2_with fail
      go_loopw [16, 17, 18] (fun vc vb vi wr => ∃ (i b cy : Nat) (dn : List Nat), i ≤ ys.length + 1 ∧ vi = .int .i64 (i : Int) ∧ vb = .int .u64 (b : Int) ∧ vc = .int .u64 (cy : Int) ∧ b ≤ 1 ∧ cy < 4294967296 ∧ (i = ys.length + 1 → cy = 0) ∧ dn.length = i ∧ Wd dn ∧
        valN dn + gu * valN (vs.take i) = valN (seg.take i) + (cy + b) * 4294967296 ^ i ∧ Arr .u32 wr BU 103 (ints (P ++ (dn ++ seg.drop i) ++ Z)) ∧ wo.grownBy wr (some BU)) (fun _ _ vi _ => ys.length + 1 - (intOf vi).toNat)
      case atStart => exact ⟨0, 0, 0, [], by omega, rfl, rfl, rfl, by omega, by omega, by omega, rfl, (fun x hx => (by cases hx)), by simp [valN], by rw [List.nil_append, List.drop_zero]; exact HUX.out, gb_none HGX.out⟩
      case round =>
       obtain ⟨i, b, cy, dn, hi, rfl, rfl, rfl, hb, hcy, hcy0, hdl, hdw, hval, harr, hgb⟩ := hrel
       have HD := Hd hdw
       have HVA := Hd hval
       have HA := Hd harr
       have HG := Hd hgb
       have HL := Hd hdl
       have HCY0 := Hd hcy0
       have hml : (dn ++ seg.drop i).length = ys.length + 1 := by rw [List.length_append, List.length_drop, HL.out, HSGL.out]; omega
       clear hdw hval harr hdl hcy0
       by_cases hin : i ≤ ys.length
       ·have hcv := (HRV7.out.grown hgb HNE.out)
        clear hgb
        obtain ⟨x, hx⟩ : ∃ x, x = nat seg i := ⟨_, rfl⟩
        have hxb : x < 4294967296 := by rw [hx]; exact nat_lt HSW.out _
        have cu : wr.cell? ⟨BU, j + i, none⟩ = some (.int .u32 (x : Int)) := by
         have := arr_cell HA.out HPl.out (k := i) (by rw [hml]; omega)
         rw [nat_pass _ _ _ HL.out, ← hx] at this
         exact this
        have fu := HA.out.frozen (j + i)
        have HX' := Hd hx
        clear hx
        have n1 : (i : Int) ≤ (ys.length : Int) := by omega
        have n2 : (i : Int).toNat = i := by omega
        have n3 : (0 : Int) ≤ (i : Int) := by omega
        have o1 : IntKind.i64.wrap ((j : Int) + (i : Int)) = (j : Int) + (i : Int) := IntWalk.i64_in _ (by omega)
        have o2 : ((j : Int) + (i : Int)).toNat = j + i := by omega
        have o3 : (0 : Int) ≤ (j : Int) + (i : Int) := by omega
        have o4 : (j : Int) + (i : Int) < (L : Int) := by omega
        have o5 : j + i < L := by omega
        have f3 : IntKind.u64.wrap (x : Int) = (x : Int) := IntWalk.u64_in _ (by omega)
        have wi : IntKind.i64.wrap ((i : Int) + 1) = (i : Int) + 1 := IntWalk.i64_in _ (by omega)
        have step : ∀ (y lo cy2 b' nx : Nat), cy + gu * y = lo + 4294967296 * cy2 → x + b' * 4294967296 = nx + (lo + b) → nx < 4294967296 → cy2 < 4294967296 → b' ≤ 1 → (i = ys.length → cy2 = 0) → valN (vs.take (i + 1)) = valN (vs.take i) + 4294967296 ^ i * y →
          (∃ (i' b'' cy' : Nat) (dn' : List Nat), i' ≤ ys.length + 1 ∧ Value.int .i64 ((i : Int) + 1) = .int .i64 (i' : Int) ∧ Value.int .u64 (b' : Int) = .int .u64 (b'' : Int) ∧ Value.int .u64 (cy2 : Int) = .int .u64 (cy' : Int) ∧ b'' ≤ 1 ∧ cy' < 4294967296 ∧ (i' = ys.length + 1 → cy' = 0) ∧ dn'.length = i' ∧ Wd dn' ∧
           valN dn' + gu * valN (vs.take i') = valN (seg.take i') + (cy' + b'') * 4294967296 ^ i' ∧ Arr .u32 (wr.setCell ⟨BU, j + i, none⟩ (.int .u32 (nx : Int))) BU 103 (ints (P ++ (dn' ++ seg.drop i') ++ Z)) ∧ wo.grownBy (wr.setCell ⟨BU, j + i, none⟩ (.int .u32 (nx : Int))) (some BU)) := by
         intro y lo cy2 b' nx h1 h2 h3 h4 h5 h6 h7
         refine ⟨i + 1, b', cy2, dn ++ [nx], by omega, by go_num, rfl, rfl, h5, h4, fun h => h6 (by omega), by simp [HL.out], HD.out.snoc h3, ?_, ?_, gb_set HG.out (.inr rfl) _⟩
         ·rw [valN_snoc, HL.out, h7, valN_take_succ _ _ (by rw [HSGL.out]; omega), ← HX'.out, Nat.pow_succ]
          exact take_step HVA.out h1 h2
         ·have := arr_set (x := nx) HA.out HPl.out (k := i) (by rw [hml]; omega)
          rw [set_pass _ _ _ _ HL.out (by rw [HSGL.out]; omega)] at this
          exact this
        have HST' := Hd step
        clear step
        by_cases hil : i < ys.length
        ·obtain ⟨y, hy⟩ : ∃ y, y = nat vs i := ⟨_, rfl⟩
         have hyb : y < 4294967296 := by rw [hy]; exact nat_lt HRV6.out.wd _
         have cv : wr.cell? ⟨BV, i, none⟩ = some (.int .u32 (y : Int)) := by
          have := Rd.cell' (c := ys.length + 1) (by rw [HSL.out]; exact hcv) rfl (show i < vs.length by rw [HSL.out]; exact hil)
          rw [Nat.zero_add, ← hy] at this
          exact this
         have HY' : Hid (valN (vs.take (i + 1)) = valN (vs.take i) + 4294967296 ^ i * y) := by unfold Hid; rw [valN_take_succ _ _ (by rw [HSL.out]; exact hil), ← hy]
         clear hy hcv
         obtain ⟨p, hp⟩ : ∃ p, p = gu * y := ⟨_, rfl⟩
         have hple : p ≤ 18446744065119617025 := by rw [hp]; exact mul_le_word hgu hyb
         have f1 : IntKind.u64.wrap ((gu : Int) * (y : Int)) = (p : Int) := mul_wrap hgu hyb hp
         have HPP := Hd hp
         clear hp
         obtain ⟨lo, cy2, hs', hlo⟩ := split_word (cy + p)
         have hcy2 : cy2 < 4294967296 := by omega
         have m1 : (i : Int) < (ys.length : Int) := by omega
         have f2 : IntKind.u64.wrap (y : Int) = (y : Int) := IntWalk.u64_in _ (by omega)
         have f4 : IntKind.u64.wrap ((cy : Int) + (p : Int)) = (cy : Int) + (p : Int) := IntWalk.u64_in _ (by omega)
         have f5 : bits .and .u64 ((cy : Int) + (p : Int)) 4294967295 = (lo : Int) := mask_any (hi := cy2) (by omega) hlo hcy2
         have f6 : ((cy : Int) + (p : Int)) / 4294967296 = (cy2 : Int) := by omega
         have f8 : IntKind.u64.wrap ((lo : Int) + (b : Int)) = (lo : Int) + (b : Int) := IntWalk.u64_in _ (by omega)
         have HSW' : Hid (cy + gu * y = lo + 4294967296 * cy2) := by unfold Hid; rw [← HPP.out]; exact hs'
         have hine : ¬ i = ys.length := by omega
         have HINE := Hd hine
         clear hs' hine
         by_cases hxt : x < lo + b
         ·skip
          have q1 : decide ((x : Int) < (lo : Int) + (b : Int)) = true := decide_eq_true (by omega)
          obtain ⟨nx, hnx⟩ : ∃ nx, x + 1 * 4294967296 = nx + (lo + b) := ⟨x + 1 * 4294967296 - (lo + b), by omega⟩
          have hnxb : nx < 4294967296 := by omega
          have f9 : IntKind.u64.wrap ((x : Int) + 4294967296) = (x : Int) + 4294967296 := IntWalk.u64_in _ (by omega)
          have f10 : IntKind.u64.wrap ((x : Int) + 4294967296 - ((lo : Int) + (b : Int))) = (nx : Int) := by rw [IntWalk.u64_in _ (by omega)]; omega
          have f11 := mask_word hnxb
          have f12 : IntKind.u32.wrap (nx : Int) = (nx : Int) := by rw [IntKind.wrap_u32]; omega
          have HNX := Hd hnx
          clear hnx
          go_wp2_with fail
          go_roundw
          case rel => exact HST'.out y lo cy2 1 nx HSW'.out HNX.out hnxb hcy2 (by omega) (fun h => absurd h HINE.out) HY'.out
          case measure => simp [intOf] <;> omega
         ·skip
          have q1 : decide ((x : Int) < (lo : Int) + (b : Int)) = false := decide_eq_false (by omega)
          obtain ⟨nx, hnx⟩ : ∃ nx, x + 0 * 4294967296 = nx + (lo + b) := ⟨x + 0 * 4294967296 - (lo + b), by omega⟩
          have hnxb : nx < 4294967296 := by omega
          have f10 : IntKind.u64.wrap ((x : Int) - ((lo : Int) + (b : Int))) = (nx : Int) := by rw [IntWalk.u64_in _ (by omega)]; omega
          have f11 := mask_word hnxb
          have f12 : IntKind.u32.wrap (nx : Int) = (nx : Int) := by rw [IntKind.wrap_u32]; omega
          have HNX := Hd hnx
          clear hnx
          go_wp2_with fail
          go_roundw
          case rel => exact HST'.out y lo cy2 0 nx HSW'.out HNX.out hnxb hcy2 (by omega) (fun h => absurd h HINE.out) HY'.out
          case measure => simp [intOf] <;> omega
        ·obtain rfl : i = ys.length := by omega
         have m1 : ¬ (ys.length : Int) < (ys.length : Int) := by omega
         obtain ⟨lo, hlo'⟩ : ∃ lo, lo = cy := ⟨_, rfl⟩
         have hlo : lo < 4294967296 := by omega
         have f5 : bits .and .u64 (cy : Int) 4294967295 = (lo : Int) := by rw [hlo']; exact mask_word hcy
         have f6 : (cy : Int) / 4294967296 = ((0 : Nat) : Int) := by omega
         have f8 : IntKind.u64.wrap ((lo : Int) + (b : Int)) = (lo : Int) + (b : Int) := IntWalk.u64_in _ (by omega)
         have HSW' : Hid (cy + gu * 0 = lo + 4294967296 * 0) := by unfold Hid; omega
         have HY' : Hid (valN (vs.take (ys.length + 1)) = valN (vs.take ys.length) + 4294967296 ^ ys.length * 0) := by unfold Hid; rw [take_all HSL.out, List.take_of_length_le (by rw [HSL.out]; omega)]; rfl
         have hz0 : (0 : Nat) < 4294967296 := by omega
         clear hlo' hcv
         by_cases hxt : x < lo + b
         ·skip
          have q1 : decide ((x : Int) < (lo : Int) + (b : Int)) = true := decide_eq_true (by omega)
          obtain ⟨nx, hnx⟩ : ∃ nx, x + 1 * 4294967296 = nx + (lo + b) := ⟨x + 1 * 4294967296 - (lo + b), by omega⟩
          have hnxb : nx < 4294967296 := by omega
          have f9 : IntKind.u64.wrap ((x : Int) + 4294967296) = (x : Int) + 4294967296 := IntWalk.u64_in _ (by omega)
          have f10 : IntKind.u64.wrap ((x : Int) + 4294967296 - ((lo : Int) + (b : Int))) = (nx : Int) := by rw [IntWalk.u64_in _ (by omega)]; omega
          have f11 := mask_word hnxb
          have f12 : IntKind.u32.wrap (nx : Int) = (nx : Int) := by rw [IntKind.wrap_u32]; omega
          have HNX := Hd hnx
          clear hnx
          go_wp2_with fail
          go_roundw
          case rel => exact HST'.out 0 lo 0 1 nx HSW'.out HNX.out hnxb hz0 (by omega) (fun _ => rfl) HY'.out
          case measure => simp [intOf] <;> omega
         ·skip
          have q1 : decide ((x : Int) < (lo : Int) + (b : Int)) = false := decide_eq_false (by omega)
          obtain ⟨nx, hnx⟩ : ∃ nx, x + 0 * 4294967296 = nx + (lo + b) := ⟨x + 0 * 4294967296 - (lo + b), by omega⟩
          have hnxb : nx < 4294967296 := by omega
          have f10 : IntKind.u64.wrap ((x : Int) - ((lo : Int) + (b : Int))) = (nx : Int) := by rw [IntWalk.u64_in _ (by omega)]; omega
          have f11 := mask_word hnxb
          have f12 : IntKind.u32.wrap (nx : Int) = (nx : Int) := by rw [IntKind.wrap_u32]; omega
          have HNX := Hd hnx
          clear hnx
          go_wp2_with fail
          go_roundw
          case rel => exact HST'.out 0 lo 0 0 nx HSW'.out HNX.out hnxb hz0 (by omega) (fun _ => rfl) HY'.out
          case measure => simp [intOf] <;> omega
       ·obtain rfl : i = ys.length + 1 := by omega
        have hc0 := HCY0.out rfl
        subst hc0
        have n1 : ¬ ((ys.length + 1 : Nat) : Int) ≤ (ys.length : Int) := by omega
        have hsgd : seg.drop (ys.length + 1) = [] := List.drop_of_length_le (by rw [HSGL.out]; exact Nat.le_refl _)
        have HA2 : Hid (Arr .u32 wr BU 103 (ints (P ++ dn ++ Z))) := by have := HA.out; rw [hsgd, List.append_nil] at this; exact this
        have HE : Hid (valN dn + gu * V = S + b * 4294967296 ^ (ys.length + 1)) := by
         have := HVA.out
         rw [List.take_of_length_le (by rw [HSL.out]; omega), List.take_of_length_le (by rw [HSGL.out]; exact Nat.le_refl _), ← HV.out, ← HS.out, Nat.zero_add] at this
         exact this
        clear hsgd hgb
        have hDL : valN dn < 4294967296 ^ (ys.length + 1) := by
         have := valN_lt dn HD.out
         rwa [HL.out] at this
        have HDL := Hd hDL
        clear hDL
        have v3 : IntKind.u32.wrap (gu : Int) = (gu : Int) := by rw [IntKind.wrap_u32]; omega
        by_cases hb0 : b = 0
        ·subst hb0
         have u1 : ((0 : Int) == 1) = false := rfl
         obtain ⟨e1, e2⟩ := parts_end0 (by have := HE.out; rw [Nat.zero_mul, Nat.add_zero] at this; exact this) HQ0'.out hVpos
         obtain ⟨⟨old, hcq, hfq⟩, hend⟩ := HFIN.out dn wr HL.out HD.out e2 HA2.out HG.out
         have HEND := Hd (hend gu e1)
         clear hend e1 e2
         go_wp2_with fail
         go_roundg j
         case measure => omega
         case rel =>
          obtain ⟨U', qs', h1, _, h3⟩ := HEND.out
          exact ⟨U', qs', h1, by go_num, h3⟩
        ·obtain rfl : b = 1 := by omega
         have u1 : ((1 : Int) == 1) = true := rfl
         obtain ⟨hgp, e1, e2⟩ := parts_end1 (by have := HE.out; rw [Nat.one_mul] at this; exact this) HDL.out HQ1'.out HQ0'.out hVpos
         obtain ⟨g1, hg1⟩ : ∃ g1, gu = g1 + 1 := ⟨gu - 1, by omega⟩
         rw [hg1, Nat.add_sub_cancel] at e1
         have v4 : IntKind.u64.wrap ((gu : Int) - 1) = (g1 : Int) := by rw [IntWalk.u64_in _ (by omega)]; omega
         have v5 : IntKind.u32.wrap (g1 : Int) = (g1 : Int) := by rw [IntKind.wrap_u32]; omega
         have HE1 := Hd e1
         have HE2 := Hd e2
         clear hg1 e1 e2
         obtain ⟨wc2, rfl⟩ : ∃ w_ : World, w_ = wr := ⟨_, rfl⟩
         go_wp2_with fail
         go_loopw [22, 23] (fun vc vi wz => ∃ (i cy : Nat) (d2 : List Nat), i ≤ ys.length + 1 ∧ vi = .int .i64 (i : Int) ∧ vc = .int .u64 (cy : Int) ∧ cy ≤ 1 ∧ d2.length = i ∧ Wd d2 ∧
           valN d2 + cy * 4294967296 ^ i = valN (dn.take i) + valN (vs.take i) ∧ Arr .u32 wz BU 103 (ints (P ++ (d2 ++ dn.drop i) ++ Z)) ∧ wo.grownBy wz (some BU)) (fun _ vi _ => ys.length + 1 - (intOf vi).toNat)
         case atStart => exact ⟨0, 0, [], by omega, rfl, rfl, by omega, rfl, (fun x hx => (by cases hx)), by simp [valN], by rw [List.nil_append, List.drop_zero]; exact HA2.out, HG.out⟩
         case round =>
          obtain ⟨wr_w, rfl⟩ : ∃ w_ : World, w_ = wr := ⟨_, rfl⟩
          obtain ⟨i, cy, d2, hi2, rfl, rfl, hcy2, hdl2, hdw2, hval2, harr2, hgb2⟩ := hrel
          have HD2 := Hd hdw2
          have HVA2 := Hd hval2
          have HA3 := Hd harr2
          have HG2 := Hd hgb2
          have HL2 := Hd hdl2
          have hml2 : (d2 ++ dn.drop i).length = ys.length + 1 := by rw [List.length_append, List.length_drop, HL2.out, HL.out]; omega
          clear hdw2 hval2 harr2 hdl2
          by_cases hin2 : i ≤ ys.length
          ·have hcv := (HRV7.out.grown hgb2 HNE.out)
           clear hgb2
           obtain ⟨x, hx⟩ : ∃ x, x = nat dn i := ⟨_, rfl⟩
           have hxb : x < 4294967296 := by rw [hx]; exact nat_lt HD.out _
           have cu : wr_w.cell? ⟨BU, j + i, none⟩ = some (.int .u32 (x : Int)) := by
            have := arr_cell HA3.out HPl.out (k := i) (by rw [hml2]; omega)
            rw [nat_pass _ _ _ HL2.out, ← hx] at this
            exact this
           have fu := HA3.out.frozen (j + i)
           have HX' := Hd hx
           clear hx
           have n1' : (i : Int) ≤ (ys.length : Int) := by omega
           have n2' : (i : Int).toNat = i := by omega
           have n3' : (0 : Int) ≤ (i : Int) := by omega
           have o1 : IntKind.i64.wrap ((j : Int) + (i : Int)) = (j : Int) + (i : Int) := IntWalk.i64_in _ (by omega)
           have o2 : ((j : Int) + (i : Int)).toNat = j + i := by omega
           have o3 : (0 : Int) ≤ (j : Int) + (i : Int) := by omega
           have o4 : (j : Int) + (i : Int) < (L : Int) := by omega
           have o5 : j + i < L := by omega
           have f3 : IntKind.u64.wrap (x : Int) = (x : Int) := IntWalk.u64_in _ (by omega)
           have f4 : IntKind.u64.wrap ((x : Int) + (cy : Int)) = (x : Int) + (cy : Int) := IntWalk.u64_in _ (by omega)
           have wi : IntKind.i64.wrap ((i : Int) + 1) = (i : Int) + 1 := IntWalk.i64_in _ (by omega)
           have step : ∀ (y lo cy' : Nat), x + cy + y = lo + 4294967296 * cy' → lo < 4294967296 → cy' ≤ 1 → valN (vs.take (i + 1)) = valN (vs.take i) + 4294967296 ^ i * y →
             (∃ (i' cy'' : Nat) (d' : List Nat), i' ≤ ys.length + 1 ∧ Value.int .i64 ((i : Int) + 1) = .int .i64 (i' : Int) ∧ Value.int .u64 (cy' : Int) = .int .u64 (cy'' : Int) ∧ cy'' ≤ 1 ∧ d'.length = i' ∧ Wd d' ∧
              valN d' + cy'' * 4294967296 ^ i' = valN (dn.take i') + valN (vs.take i') ∧ Arr .u32 (wr_w.setCell ⟨BU, j + i, none⟩ (.int .u32 (lo : Int))) BU 103 (ints (P ++ (d' ++ dn.drop i') ++ Z)) ∧ wo.grownBy (wr_w.setCell ⟨BU, j + i, none⟩ (.int .u32 (lo : Int))) (some BU)) := by
            intro y lo cy' h1 h2 h3 h4
            refine ⟨i + 1, cy', d2 ++ [lo], by omega, by go_num, rfl, h3, by simp [HL2.out], HD2.out.snoc h2, ?_, ?_, gb_set HG2.out (.inr rfl) _⟩
            ·rw [valN_snoc, HL2.out, h4, valN_take_succ _ _ (by rw [HL.out]; omega), ← HX'.out, Nat.pow_succ]
             exact add_step HVA2.out h1
            ·have := arr_set (x := lo) HA3.out HPl.out (k := i) (by rw [hml2]; omega)
             rw [set_pass _ _ _ _ HL2.out (by rw [HL.out]; omega)] at this
             exact this
           have HST' := Hd step
           clear step
           by_cases hil : i < ys.length
           ·obtain ⟨y, hy⟩ : ∃ y, y = nat vs i := ⟨_, rfl⟩
            have hyb : y < 4294967296 := by rw [hy]; exact nat_lt HRV6.out.wd _
            have cv : wr_w.cell? ⟨BV, i, none⟩ = some (.int .u32 (y : Int)) := by
             have := Rd.cell' (c := ys.length + 1) (by rw [HSL.out]; exact hcv) rfl (show i < vs.length by rw [HSL.out]; exact hil)
             rw [Nat.zero_add, ← hy] at this
             exact this
            have HY' : Hid (valN (vs.take (i + 1)) = valN (vs.take i) + 4294967296 ^ i * y) := by unfold Hid; rw [valN_take_succ _ _ (by rw [HSL.out]; exact hil), ← hy]
            clear hy hcv
            obtain ⟨lo, cy', hs', hlo⟩ := split_word (x + cy + y)
            have hcy' : cy' ≤ 1 := by omega
            have m1 : (i : Int) < (ys.length : Int) := by omega
            have f2 : IntKind.u64.wrap (y : Int) = (y : Int) := IntWalk.u64_in _ (by omega)
            have f5 : IntKind.u64.wrap ((x : Int) + (cy : Int) + (y : Int)) = (x : Int) + (cy : Int) + (y : Int) := IntWalk.u64_in _ (by omega)
            have f6 : bits .and .u64 ((x : Int) + (cy : Int) + (y : Int)) 4294967295 = (lo : Int) := mask_any (hi := cy') (by omega) hlo (by omega)
            have f7 : IntKind.u32.wrap (lo : Int) = (lo : Int) := by rw [IntKind.wrap_u32]; omega
            have f8 : ((x : Int) + (cy : Int) + (y : Int)) / 4294967296 = (cy' : Int) := by omega
            have HSS' := Hd hs'
            clear hs'
            go_wp2_with fail
            go_roundw
            case rel => exact HST'.out y lo cy' HSS'.out hlo hcy' HY'.out
            case measure => simp [intOf] <;> omega
           ·obtain rfl : i = ys.length := by omega
            have m1 : ¬ (ys.length : Int) < (ys.length : Int) := by omega
            obtain ⟨lo, cy', hs', hlo⟩ := split_word (x + cy + 0)
            have hcy' : cy' ≤ 1 := by omega
            have f6 : bits .and .u64 ((x : Int) + (cy : Int)) 4294967295 = (lo : Int) := mask_any (hi := cy') (by omega) hlo (by omega)
            have f7 : IntKind.u32.wrap (lo : Int) = (lo : Int) := by rw [IntKind.wrap_u32]; omega
            have f8 : ((x : Int) + (cy : Int)) / 4294967296 = (cy' : Int) := by omega
            have HY' : Hid (valN (vs.take (ys.length + 1)) = valN (vs.take ys.length) + 4294967296 ^ ys.length * 0) := by unfold Hid; rw [take_all HSL.out, List.take_of_length_le (by rw [HSL.out]; omega)]; rfl
            have HSS' := Hd hs'
            clear hs' hcv
            go_wp2_with fail
            go_roundw
            case rel => exact HST'.out 0 lo cy' HSS'.out hlo hcy' HY'.out
            case measure => simp [intOf] <;> omega
          ·obtain rfl : i = ys.length + 1 := by omega
           have n1' : ¬ ((ys.length + 1 : Nat) : Int) ≤ (ys.length : Int) := by omega
           have hdd : dn.drop (ys.length + 1) = [] := List.drop_of_length_le (by rw [HL.out]; exact Nat.le_refl _)
           have HA4 : Hid (Arr .u32 wr_w BU 103 (ints (P ++ d2 ++ Z))) := by have := HA3.out; rw [hdd, List.append_nil] at this; exact this
           have hfin2 : valN d2 = S % V := by
            have h1 := HVA2.out
            rw [List.take_of_length_le (by rw [HL.out]; exact Nat.le_refl _), List.take_of_length_le (by rw [HSL.out]; omega), ← HV.out, HE2.out] at h1
            have h2 := valN_lt d2 HD2.out
            rw [HL2.out] at h2
            have h3 : S % V < 4294967296 ^ (ys.length + 1) := Nat.lt_of_lt_of_le (Nat.mod_lt _ hVpos) (Nat.le_trans (Nat.le_of_lt HVLT.out) (Nat.pow_le_pow_right (by decide) (by omega)))
            rcases Nat.le_one_iff_eq_zero_or_eq_one.1 hcy2 with rfl | rfl
            ·omega
            ·omega
           obtain ⟨⟨old, hcq, hfq⟩, hend⟩ := HFIN.out d2 wr_w HL2.out HD2.out hfin2 HA4.out HG2.out
           have HEND := Hd (hend g1 HE1.out)
           clear hend hdd hfin2 hgb2
           go_wp2_with fail
           go_roundg j
           case measure => omega
           case rel =>
            obtain ⟨U', qs', h1, _, h3⟩ := HEND.out
            exact ⟨U', qs', h1, by go_num, h3⟩
    ·obtain rfl : gk = 0 := by omega
     have HQA9 : Hid (Arr .u32 wo w6.heap.size 103 (ints qs)) := by have := HQA7.out; rw [List.replicate_zero, List.nil_append] at this; exact this
     have hqrd := Rd.of_arr HQA9.out HQw.out
     have hql : qs.length = K := by have := HQl.out; omega
     have HQRD := Hd (show Rd wo (.slice (some ⟨w6.heap.size, 0, none⟩) qs.length K) qs by rw [hql] at hqrd ⊢; exact hqrd)
     have HUlt0 : Hid (valN U < V) := by have := HUlt.out; rw [Nat.pow_zero, Nat.mul_one] at this; exact this
     have HM0' : Hid (m * 2 ^ k = valN U + V * valN qs) := by have := HM.out; rw [Nat.pow_zero, Nat.mul_one] at this; exact this
     have htr := rtrim_rn HQRD.out (by omega)
     rw [hql] at htr
     have HTR := Hd htr
     clear hqrd hql htr
     go_wp2_with fail
     refine HTR.out.mono ?_
     rintro e w8 ⟨v8, rfl, hv8, hb8⟩
     have HV8 := Hd hv8
     have HUA9 := Hd (HUA7.out.below hb8 HUA7.out.lt)
     have HBK8 := Hd (HBK7.out.below hb8 HBK7.out.lt)
     have HG8 : Hid (w.grownBy w8 none) := gb_below HG7.out hb8
     obtain ⟨A8, c8, x8, rfl, _, _, _⟩ := RN.opened hv8
     clear hv8 hb8
     have hurd := Rd.of_arr HUA9.out HUw.out
     rw [HUl.out] at hurd
     have hun := rback_calls w8 (some ⟨BU, 0, none⟩) L U k (by rw [HUl.out]; exact hurd) (by rw [HUl.out]; omega) hs
     rw [HUl.out] at hun
     have HUN := Hd hun
     clear hurd hun
     go_wp2_with fail
     refine HUN.out.mono ?_
     rintro e w9 ⟨v9, rfl, hv9, hb9⟩
     have HV89 := Hd (Rd.below HV8.out hb9)
     have HV9 := Hd hv9
     have HBK9 := Hd (HBK8.out.below hb9 HBK8.out.lt)
     have HG9 : Hid (w.grownBy w9 none) := gb_below HG8.out hb9
     obtain ⟨A9, c9, x9, rfl, _, _, _⟩ := RN.opened hv9
     clear hv9 hb9
     have e0 := HBK9.out.cell (j := 0) rfl
     have e1 := HBK9.out.cell (j := 1) rfl
     have f0 := HBK9.out.frozen 0
     have f1 := HBK9.out.frozen 1
     go_wp2_with fail
     obtain ⟨hq1', hr1'⟩ := div_end (m := m) (n := n) (s := k) (U := valN U) (q := valN qs) (Nat.pos_of_ne_zero hn0) (by rw [← HV0.out]; exact HM0'.out) (by rw [← HV0.out]; exact HUlt0.out)
     exact end140 Tryz.results151 rfl HBK9.out (by rw [← hq1']; exact HV89.out) (by rw [← hr1']; exact HV9.out) (Nat.le_refl _) (gb_to_below HG9.out)
set_option maxHeartbeats 8000000 in
set_option maxRecDepth 100000 in
theorem rsmall_calls (w : World) (v : Value) (m : Nat) (h : RN w v m) (hm : wlen m ≤ 2) : Calls Tryz.prog 152 #[v] w fun e w' => e = .returned (.int .u64 (m : Int)) ∧ Below w.heap.size w w' := by
 obtain ⟨A, c, xs, rfl, hc, HX, HR⟩ := h.opened
 clear h
 have hl : xs.length ≤ 2 := by rw [HX.out]; exact hm
 have HV : Hid (valN xs = m) := by unfold Hid; rw [HX.out, valN_dg]
 clear HX hm
 go_enter Tryz.func152, Tryz.ntmps152
 have w0 : IntKind.i64.wrap ((xs.length : Int) - 1) = (xs.length : Int) - 1 := IntWalk.i64_in _ (by omega)
 go_wp2_with fail
 go_loop [3, 4] (fun va vi => ∃ k : Nat, k ≤ xs.length ∧ vi = .int .i64 ((k : Int) - 1) ∧ va = .int .u64 ((valN (xs.drop k) : Nat) : Int)) (fun _ vi => (intOf vi + 1).toNat)
 case atStart => exact ⟨xs.length, Nat.le_refl _, rfl, by rw [List.drop_length]; rfl⟩
 case round =>
  obtain ⟨k, hk, rfl, rfl⟩ := hrel
  by_cases h0 : 0 < k
  ·obtain ⟨g, o, rfl, hg, hcell⟩ := HR.out.cell (j := k - 1) (by omega)
   have n1 : (k : Int) - 1 ≥ 0 := by omega
   have n2 : ((k : Int) - 1).toNat = k - 1 := by omega
   have n3 : (k : Int) - 1 < (xs.length : Int) := by omega
   have wk : IntKind.i64.wrap ((k : Int) - 1 - 1) = (k : Int) - 1 - 1 := IntWalk.i64_in _ (by omega)
   have hx := nat_lt HR.out.wd (k - 1)
   obtain ⟨x, hxx⟩ : ∃ x, x = nat xs (k - 1) := ⟨_, rfl⟩
   have hd := valN_drop xs (k - 1) (by omega)
   rw [Nat.sub_add_cancel h0, ← hxx] at hd
   rw [← hxx] at hx hcell
   obtain ⟨acc, hacc⟩ : ∃ acc, acc = valN (xs.drop k) := ⟨_, rfl⟩
   have hab : acc < 4294967296 := by
    have h1 := valN_lt (xs.drop k) (HR.out.wd.drop k)
    rw [List.length_drop] at h1
    have h2 : 4294967296 ^ (xs.length - k) ≤ 4294967296 ^ 1 := Nat.pow_le_pow_right (by decide) (by omega)
    omega
   rw [← hacc] at hd ⊢
   have f0 : IntKind.u64.wrap ((acc : Int) * 4294967296) = (acc : Int) * 4294967296 := IntWalk.u64_in _ (by omega)
   have f1 : IntKind.u64.wrap (x : Int) = (x : Int) := IntWalk.u64_in _ (by omega)
   have hor := or_word acc x hab hx
   obtain ⟨z, hz⟩ : ∃ z, z = acc * 4294967296 + x := ⟨_, rfl⟩
   rw [← hz] at hor
   have HZ : Hid (valN (xs.drop (k - 1)) = z) := by unfold Hid; rw [hd, hz]; omega
   clear hz hd hacc hxx
   go_wp2_with fail
   go_round
   case rel => exact ⟨k - 1, by omega, by go_num, by rw [HZ.out]⟩
   case measure => simp [intOf]; omega
  ·obtain rfl : k = 0 := by omega
   rw [List.drop_zero, HV.out]
   go_wp2_with fail
   go_ret
   exact ⟨rfl, Below.refl _ _⟩
set_option maxHeartbeats 8000000 in
set_option maxRecDepth 100000 in
theorem rwide_calls (w : World) (n : Nat) (hn : n < 18446744073709551616) :
  Calls Tryz.prog 150 #[.int .u64 n] w fun e w' => WPost w n e w' := by
 have c0 := mask_low n hn
 have c1 : IntKind.u32.wrap ((n % 4294967296 : Nat) : Int) = ((n % 4294967296 : Nat) : Int) := by rw [IntKind.wrap_u32]; omega
 have c2 : IntKind.u32.wrap ((n : Int) / 4294967296) = ((n / 4294967296 : Nat) : Int) := by rw [IntKind.wrap_u32]; omega
 obtain ⟨a, ha⟩ : ∃ a, a = n % 4294967296 := ⟨_, rfl⟩
 obtain ⟨b, hb⟩ : ∃ b, b = n / 4294967296 := ⟨_, rfl⟩
 rw [← ha] at c0 c1
 rw [← hb] at c2
 have hr := rd_two w a b (by omega) (by omega)
 have hval : valN [a, b] = n := by simp only [valN]; omega
 have HR := Hd hr
 have HV := Hd hval
 clear ha hb hr hval
 go_enter Tryz.func150, Tryz.ntmps150
 go_wp2_with fail
 refine (rtrim_rn HR.out (by simp)).mono ?_
 rintro e w' ⟨v, rfl, hv, hb⟩
 rw [HV.out] at hv
 go_wp2_with fail
 go_ret
 exact ⟨_, rfl, hv, below_next (below_new w _) hb⟩
theorem RN.two {w : World} {v : Value} {n : Nat} (h : RN w v n) : wlen n ≤ 2 ↔ n < 18446744073709551616 := dg_len_two
set_option maxHeartbeats 16000000 in
set_option maxRecDepth 100000 in
theorem rcommon_calls (w : World) (v v2 : Value) (m n : Nat) (h : RN w v m) (h2 : RN w v2 n) (hm : wlen m ≤ 10000000000) (hn : wlen n ≤ 10000000000) :
  Calls Tryz.prog 143 #[v, v2] w fun e w' => WPost w (Nat.gcd m n) e w' := by
 have HRN := Hd h
 have HRN2 := Hd h2
 clear h h2
 go_enter Tryz.func143, Tryz.ntmps143
 go_wp2_with fail
 go_loopw [0, 1] (fun va vb wr => ∃ a b : Nat, RN wr va a ∧ RN wr vb b ∧ Nat.gcd a b = Nat.gcd m n ∧ wlen a ≤ 10000000000 ∧ wlen b ≤ 10000000000 ∧ Below w.heap.size w wr) (fun va vb wr => numOf wr vb)
 case atStart => exact ⟨m, n, HRN.out, HRN2.out, rfl, hm, hn, Below.refl _ _⟩
 case round =>
  obtain ⟨a, b, ha, hb, hg, hal, hbl, hbr⟩ := hrel
  have HA := Hd ha
  have HB := Hd hb
  have HGC := Hd hg
  have HW := Hd hbr
  clear ha hb hg hbr
  obtain ⟨A1, c1, xs, e1, hc1, HX, HR⟩ := HA.out.opened
  obtain ⟨A2, c2, ys, e2, hc2, HY, HR2⟩ := HB.out.opened
  subst e1
  subst e2
  have hxl : xs.length = wlen a := by rw [HX.out]; rfl
  have hyl : ys.length = wlen b := by rw [HY.out]; rfl
  have go : b ≠ 0 → ∀ (P : Prop), P → P := fun _ P h => h
  clear go
  by_cases hlong : 2 < ys.length ∨ (2 < xs.length ∧ 0 < ys.length)
  ·have hb0 : b ≠ 0 := wlen_pos.1 (by omega)
   have t : decide ((ys.length : Int) > 2) = true ∨ (decide ((ys.length : Int) > 2) = false ∧ decide ((xs.length : Int) > 2) = true ∧ (ys.length : Int) > 0) := by
    by_cases h : 2 < ys.length
    ·exact .inl (decide_eq_true (by omega))
    ·exact .inr ⟨decide_eq_false (by omega), decide_eq_true (by omega), (by omega)⟩
   have HB0 := Hd hb0
   clear hxl hyl hlong hb0
   rcases t with t1 | ⟨t1, t2, t3⟩
   all_goals
    go_wp2_with fail
    refine (rparts_calls _ _ _ a b HA.out HB.out hal hbl HB0.out).mono ?_
    rintro e w2 ⟨vq, vr, rfl, hq, hr, hb2⟩
    have HR' := Hd hr
    have HB' := Hd (HB.out.of_below hb2)
    have HW2 := Hd (below_next HW.out hb2)
    obtain ⟨A5, d5, l5, rfl, _, _, _⟩ := hq.opened
    obtain ⟨A6, d6, l6, rfl, _, _, _⟩ := RN.opened hr
    clear hq hr hb2
    go_wp2_with fail
    go_quiet (fail)
    go_wp2_with fail
    go_roundw
    case rel =>
     have hbz := pw_drewN (below_new w2 (.cells #[.slice A5 l5.length d5, .slice A6 l6.length d6] 160)) nq
     refine ⟨b, a % b, HB'.out.of_below hbz, HR'.out.of_below hbz, ?_, hbl, ?_, below_next HW2.out hbz⟩
     ·rw [← HGC.out, Nat.gcd_comm b, ← Nat.gcd_rec, Nat.gcd_comm]
     ·exact Nat.le_trans (wlen_mono (Nat.mod_le _ _)) hal
    case measure =>
     have hbz := pw_drewN (below_new w2 (.cells #[.slice A5 l5.length d5, .slice A6 l6.length d6] 160)) nq
     have e1 := numOf_eq (HR'.out.of_below hbz)
     have e2 := numOf_eq HB.out
     simp only [e1, e2] at *
     exact Nat.mod_lt _ (Nat.pos_of_ne_zero HB0.out)
  ·have t1 : decide ((ys.length : Int) > 2) = false := decide_eq_false (by omega)
   have t : decide ((xs.length : Int) > 2) = false ∨ (decide ((xs.length : Int) > 2) = true ∧ ¬ (ys.length : Int) > 0) := by
    by_cases h : 2 < xs.length
    ·exact .inr ⟨decide_eq_true (by omega), (by omega)⟩
    ·exact .inl (decide_eq_false (by omega))
   by_cases h0 : b = 0
   ·have q0 : ((ys.length : Int) == 0) = true := eqb0 (by rw [hyl, h0]; rfl)
    have HGA : Hid (Nat.gcd m n = a) := by unfold Hid; rw [← HGC.out, h0, Nat.gcd_zero_right]
    clear hlong hxl hyl h0
    rcases t with t2 | ⟨t2, t3⟩
    all_goals
     go_wp2_with fail
     go_ret
     exact ⟨_, rfl, by rw [HGA.out]; exact HA.out, HW.out⟩
   ·have hyp : 0 < ys.length := by rw [hyl]; exact wlen_pos.2 h0
    have q0 : ((ys.length : Int) == 0) = false := neb0 (by omega)
    have t2 : decide ((xs.length : Int) > 2) = false := decide_eq_false (by omega)
    have ha2 : wlen a ≤ 2 := by omega
    have hb2 : wlen b ≤ 2 := by omega
    have ha64 := dg_len_two.1 ha2
    have hb64 := dg_len_two.1 hb2
    clear hlong hxl hyl h0 t
    go_wp2_with fail
    refine (rsmall_calls _ _ a HA.out ha2).mono ?_
    rintro e w2 ⟨rfl, hbz⟩
    have HW2 := Hd (below_next HW.out hbz)
    have HB' := Hd (HB.out.of_below hbz)
    clear hbz
    go_wp2_with fail
    refine (rsmall_calls _ _ b HB'.out hb2).mono ?_
    rintro e w3 ⟨rfl, hbz⟩
    have HW3 := Hd (below_next HW2.out hbz)
    clear hbz
    go_wp2_with fail
    go_loopw [6, 7] (fun vx vy wr => ∃ p q : Nat, vx = .int .u64 (p : Int) ∧ vy = .int .u64 (q : Int) ∧ Nat.gcd p q = Nat.gcd m n ∧ p < 18446744073709551616 ∧ q < 18446744073709551616 ∧ Below w.heap.size w wr) (fun _ vy _ => (intOf vy).toNat)
    case atStart => exact ⟨_, _, rfl, rfl, HGC.out, ha64, hb64, HW3.out⟩
    case round =>
     obtain ⟨p, q, rfl, rfl, hpq, hp, hq, hbr⟩ := hrel
     have HPQ := Hd hpq
     have HWr := Hd hbr
     clear hpq hbr
     by_cases hq0 : q = 0
     ·have t1' : ¬ (q : Int) > 0 := by omega
      have HG : Hid (Nat.gcd m n = p) := by unfold Hid; rw [← HPQ.out, hq0, Nat.gcd_zero_right]
      clear hq0
      go_wp2_with fail
      refine (rwide_calls _ p hp).mono ?_
      rintro e w5 ⟨v5, rfl, hv5, hb5⟩
      have HV5 := Hd hv5
      have HW5 := Hd (below_next HWr.out hb5)
      clear hv5 hb5
      go_wp2_with fail
      go_ret
      exact ⟨_, rfl, by rw [HG.out]; exact HV5.out, HW5.out⟩
     ·have t1' : (q : Int) > 0 := by omega
      obtain ⟨r, hr⟩ : ∃ r, r = p % q := ⟨_, rfl⟩
      obtain ⟨⟨df1, df2⟩, df3, df4⟩ := div_facts (z := p) (d := q) rfl rfl
      rw [← hr] at df2 df4
      have hrq : r < q := by rw [hr]; exact Nat.mod_lt _ (Nat.pos_of_ne_zero hq0)
      have f1 : IntKind.u64.wrap (r : Int) = (r : Int) := IntWalk.u64_in _ (by omega)
      have d0 : ((q : Int) == 0) = false := neb0 hq0
      have d1 : (q : Int) ≠ 0 := by omega
      have HGN : Hid (Nat.gcd q r = Nat.gcd m n) := by unfold Hid; rw [← HPQ.out, hr, Nat.gcd_comm q, ← Nat.gcd_rec, Nat.gcd_comm]
      clear hr hq0
      go_wp2_with fail
      go_quiet (fail)
      go_wp2_with fail
      go_roundw
      case rel => exact ⟨q, r, rfl, rfl, HGN.out, hq, by omega, pw_drewN HWr.out _⟩
      case measure => simp [intOf]; omega
theorem RN.head {w : World} {A : Option Addr} {l c n : Nat} (h : RN w (.slice A l c) n) (h0 : n ≠ 0) : (1 < l ∧ n ≠ 1) ∨ (l = 1 ∧ n < 4294967296 ∧ ∃ g o, A = some ⟨g, o, none⟩ ∧ g < w.heap.size ∧ w.cell? ⟨g, o, none⟩ = some (.int .u32 (n : Int))) := by
 obtain ⟨A', c', xs, e, _, hx, hr⟩ := h.opened
 injection e with e1 e2 e3
 subst e1 e2 e3
 have hp : 0 < xs.length := by rw [hx.out]; exact wlen_pos.2 h0
 by_cases h1 : xs.length = 1
 ·right
  obtain ⟨g, o, rfl, hg, hc⟩ := hr.out.cell (j := 0) hp
  have hn : nat xs 0 = n := by
   rw [← valN_dg n, ← hx.out]
   match xs, h1 with
   | [y], _ => simp [nat, valN]
  rw [hn, Nat.add_zero] at hc
  exact ⟨h1, by rw [← hn]; exact nat_lt hr.out.wd 0, g, o, rfl, hg, hc⟩
 ·left
  refine ⟨by omega, ?_⟩
  rintro rfl
  exact h1 (by rw [hx.out]; rfl)
set_option maxHeartbeats 8000000 in
set_option maxRecDepth 100000 in
theorem rone_calls (w : World) : Calls Tryz.prog 144 #[] w fun e w' => ∃ g, e = .returned (.slice (some ⟨g, 0, none⟩) 1 1) ∧ RN w' (.slice (some ⟨g, 0, none⟩) 1 1) 1 ∧ Below w.heap.size w w' := by
 go_enter Tryz.func144, Tryz.ntmps144
 go_wp2_with fail
 go_ret
 exact ⟨w.heap.size, rfl, rn_one w 103, below_new w _⟩
set_option maxHeartbeats 8000000 in
set_option maxRecDepth 100000 in
theorem rzero_calls (w : World) : Calls Tryz.prog 121 #[] w fun e w' => FPost w 0 e w' := by
 go_enter Tryz.func121, Tryz.ntmps121
 go_wp2_with fail
 have H0 := Hd (HS.one (w := w) #[.bool false, .slice none 0 0, .slice none 0 0] 46)
 generalize w.alloc (.cells #[.bool false, .slice none 0 0, .slice none 0 0] 46) = W0 at *
 refine (rone_calls W0).mono ?_
 rintro e w1 ⟨g, rfl, h1, hb⟩
 have H1 := Hd (H0.out.step hb)
 have HV := Hd h1
 clear hb h1
 obtain ⟨e0, e1, e2⟩ := (H1.out.blk 0 rfl).c3
 obtain ⟨f0, f1, f2⟩ := (H1.out.blk 0 rfl).f3
 go_wp2_with fail
 exact end40 Tryz.results121 rfl (H1.out.blk 0 rfl) ⟨_, _, rfl, Rd.nil _, HV.out⟩ (Nat.le_refl _) H1.out.2
theorem mk_size (neg : Bool) (m n : Nat) (hn : n ≠ 0) : sizeQ (mkRat (sg neg m) n) = wlen (m / Nat.gcd m n) + wlen (n / Nat.gcd m n) := by
 unfold sizeQ
 rw [mk_num neg m n hn, mk_den neg m n hn, sg_natAbs]
theorem fq_mk {w : World} {v1 v2 : Value} {neg : Bool} {m n g : Nat} (hn : n ≠ 0) (hm : m ≠ 0) (hg : g = Nat.gcd m n) (h1 : RN w v1 (m / g)) (h2 : RN w v2 (n / g)) : FQ w (.agg #[.bool neg, v1, v2]) (mkRat (sg neg m) n) := by
 subst hg
 exact ⟨v1, v2, by rw [mk_neg neg m n hn hm], by rw [mk_num neg m n hn, sg_natAbs]; exact h1, by rw [mk_den neg m n hn]; exact h2⟩
set_option maxHeartbeats 16000000 in
set_option maxRecDepth 100000 in
theorem rlowest_calls (w : World) (v v2 : Value) (neg : Bool) (m n : Nat) (h : RN w v m) (h2 : RN w v2 n) (hm : wlen m ≤ 1000000000) (hn : wlen n ≤ 1000000000) (hn0 : n ≠ 0) :
  Calls Tryz.prog 140 #[.bool neg, v, v2] w fun e w' => FPost w (capQ (mkRat (sg neg m) n)) e w' := by
 have HRN := Hd h
 have HRN2 := Hd h2
 obtain ⟨A, c, xs, rfl, hc, HX, _⟩ := h.opened
 obtain ⟨A2, c2, ys, rfl, hc2, HY, _⟩ := h2.opened
 clear h h2
 obtain ⟨l1, hl1⟩ : ∃ l, l = xs.length := ⟨_, rfl⟩
 obtain ⟨l2, hl2⟩ : ∃ l, l = ys.length := ⟨_, rfl⟩
 have hw1 : l1 = wlen m := by rw [hl1, HX.out]; rfl
 have hw2 : l2 = wlen n := by rw [hl2, HY.out]; rfl
 rw [← hl1] at HRN ⊢
 rw [← hl2] at HRN2 ⊢
 clear hl1 hl2 HX HY hc hc2
 go_enter Tryz.func140, Tryz.ntmps140
 by_cases hm0 : m = 0
 ·have q0 : ((l1 : Int) == 0) = true := eqb0 (by rw [hw1, hm0]; rfl)
  have HQ : Hid (capQ (mkRat (sg neg m) n) = 0) := by unfold Hid; rw [hm0, mk_zero, capQ_zero]
  clear hw1 hw2 hm0
  go_wp2_with fail
  have H0 := Hd (HS.one (w := w) #[.bool false, .slice none 0 0, .slice none 0 0] 46)
  generalize w.alloc (.cells #[.bool false, .slice none 0 0, .slice none 0 0] 46) = W0 at *
  refine (rzero_calls W0).mono ?_
  rintro e w1 ⟨v, rfl, hv, hb⟩
  obtain ⟨A5, n5, c5, A6, n6, c6, rfl, HV⟩ := hv.opened
  have H1 := Hd (H0.out.step hb)
  clear hv hb
  obtain ⟨e0, e1, e2⟩ := (H1.out.blk 0 rfl).c3
  obtain ⟨f0, f1, f2⟩ := (H1.out.blk 0 rfl).f3
  go_wp2_with fail
  rw [HQ.out]
  exact end40 Tryz.results140 rfl (H1.out.blk 0 rfl) HV.out (Nat.le_refl _) H1.out.2
 have hl10 : 0 < l1 := by rw [hw1]; exact wlen_pos.2 hm0
 have q0 : ((l1 : Int) == 0) = false := neb0 (by omega)
 have hg0 : Nat.gcd m n ≠ 0 := fun h => hm0 (Nat.gcd_eq_zero_iff.1 h).1
 obtain ⟨g, hg⟩ : ∃ g, g = Nat.gcd m n := ⟨_, rfl⟩
 have HG := Hd hg
 rw [← hg] at hg0
 have hgl : wlen g ≤ 1000000000 := by rw [hg]; exact Nat.le_trans (wlen_mono (Nat.gcd_le_left _ (Nat.pos_of_ne_zero hm0))) hm
 have HW1 := Hd hw1
 have HW2 := Hd hw2
 have HM0 := Hd hm0
 have HN0 := Hd hn0
 have HG0 := Hd hg0
 clear hw1 hw2 hm0 hg hg0
 by_cases hn1 : n = 1
 ·have hg1 : g = 1 := by rw [HG.out, hn1, Nat.gcd_one_right]
  rcases HRN2.out.head HN0.out with ⟨_, h1⟩ | ⟨e1, h32, gg, oo, rfl, hgg, hcell⟩
  ·exact absurd hn1 h1
  ·subst e1
   have HN1 := Hd hn1
   have HH1 := Hd hg1
   rw [hn1] at hcell
   have hc1 : w.cell? ⟨gg, oo, none⟩ = some (.int .u32 1) := hcell
   have t1' : decide (((1 : Nat) : Int) > 1) = false := by decide
   have t2 : ((1 : Int) != 1) = false := rfl
   have H0 := Hd (HS.one (w := w) #[.bool false, .slice none 0 0, .slice none 0 0] 46)
   have HB0 := Hd (below_new w (.cells #[.bool false, .slice none 0 0, .slice none 0 0] 46))
   clear hn1 hg1 hcell
   have HR1 := Hd (show RN _ (.slice A l1 c) (m / g) from (by rw [HH1.out, Nat.div_one]; exact HRN.out.of_below HB0.out))
   have HR2 := Hd (show RN _ (.slice (some ⟨gg, oo, none⟩) 1 c2) (n / g) from (by rw [HH1.out, Nat.div_one]; exact HRN2.out.of_below HB0.out))
   have H9 := Hd (H0.out)
   have HK1 : Hid (l1 = wlen (m / g)) := by unfold Hid; rw [HH1.out, Nat.div_one]; exact HW1.out
   have HK2 : Hid (1 = wlen (n / g)) := by unfold Hid; rw [HH1.out, Nat.div_one]; exact HW2.out
   have hk1 : l1 ≤ 1000000000 := by rw [HK1.out]; exact Nat.le_trans (wlen_mono (Nat.div_le_self _ _)) hm
   have hk2 : 1 ≤ 1000000000 := by rw [HK2.out]; exact Nat.le_trans (wlen_mono (Nat.div_le_self _ _)) hn
   have wl : IntKind.i64.wrap ((l1 : Int) + (1 : Int)) = (l1 : Int) + (1 : Int) := IntWalk.i64_in _ (by omega)
   have hsz : sizeQ (mkRat (sg neg m) n) = l1 + 1 := by rw [mk_size neg m n HN0.out, ← HG.out, HK1.out, HK2.out]
   by_cases hbig : 4096 < l1 + 1
   ·have t1 : decide ((l1 : Int) + (1 : Int) > 4096) = true := decide_eq_true (by omega)
    have HQ : Hid (capQ (mkRat (sg neg m) n) = 0) := by unfold Hid capQ; rw [if_neg (by omega)]
    clear hsz
    go_wp2_with fail
    refine (rzero_calls _).mono ?_
    rintro e w9 ⟨v, rfl, hv, hb⟩
    obtain ⟨A5, n5, c5, A6, n6, c6, rfl, HV⟩ := hv.opened
    have H2 := Hd (H9.out.step hb)
    clear hv hb
    obtain ⟨e0, e1, e2⟩ := (H2.out.blk 0 rfl).c3
    obtain ⟨f0, f1, f2⟩ := (H2.out.blk 0 rfl).f3
    go_wp2_with fail
    rw [HQ.out]
    exact end40 Tryz.results140 rfl (H2.out.blk 0 rfl) HV.out (Nat.le_refl _) H2.out.2
   ·have t1 : decide ((l1 : Int) + (1 : Int) > 4096) = false := decide_eq_false (by omega)
    have HQ : Hid (capQ (mkRat (sg neg m) n) = mkRat (sg neg m) n) := by unfold Hid capQ; rw [if_pos (by omega)]
    obtain ⟨e0, e1, e2⟩ := (H9.out.blk 0 rfl).c3
    obtain ⟨f0, f1, f2⟩ := (H9.out.blk 0 rfl).f3
    clear hsz
    go_wp2_with fail
    rw [HQ.out]
    exact ret40 Tryz.results140 rfl (Blk.new w 46 _) ⟨_, rfl, fq_mk HN0.out HM0.out HG.out (by rw [HH1.out, Nat.div_one]; exact HRN.out.of_below (below_new w _)) (by rw [HH1.out, Nat.div_one]; exact HRN2.out.of_below (below_new w _)), below_new w _⟩
 have t : (1 < l2 ∧ (l2 : Int) > 1) ∨ (l2 = 1 ∧ ∃ gg oo, A2 = some ⟨gg, oo, none⟩ ∧ gg < w.heap.size ∧ w.cell? ⟨gg, oo, none⟩ = some (.int .u32 (n : Int)) ∧ ((n : Int) != 1) = true) := by
  rcases HRN2.out.head HN0.out with ⟨h1, _⟩ | ⟨e1, h32, gg, oo, e2, hgg, hcell⟩
  ·exact .inl ⟨by omega, by omega⟩
  ·exact .inr ⟨e1, gg, oo, e2, hgg, hcell, bneI (by omega)⟩
 clear hn1
 rcases t with ⟨t0, t1⟩ | ⟨e1, gg, oo, e2, hgg, hcell, t2⟩
 case' inr =>
  subst e2
  have t1 : ¬ (l2 : Int) > 1 := by omega
  have t3 : (0 : Int) < (l2 : Int) := by omega
  have t4 : 0 < l2 := by omega
  clear e1
 all_goals
  go_wp2_with fail
  have H0 := Hd (HS.one (w := w) #[.bool false, .slice none 0 0, .slice none 0 0] 46)
  generalize w.alloc (.cells #[.bool false, .slice none 0 0, .slice none 0 0] 46) = W0 at *
  have HRN_0 := Hd (HRN.out.of_below H0.out.2)
  have HRN2_0 := Hd (HRN2.out.of_below H0.out.2)
  refine (rcommon_calls W0 _ _ m n HRN_0.out HRN2_0.out (by omega) (by omega)).mono ?_
  rintro e w1 ⟨v, rfl, hv, hb⟩
  rw [← HG.out] at hv
  have H1 := Hd (H0.out.step hb)
  have HRN_1 := Hd (HRN_0.out.of_below hb)
  have HRN2_1 := Hd (HRN2_0.out.of_below hb)
  have HV := Hd hv
  obtain ⟨A5, c5, zs, rfl, _, _, _⟩ := hv.opened
  obtain ⟨l5, hl5⟩ : ∃ l, l = zs.length := ⟨_, rfl⟩
  rw [← hl5] at HV ⊢
  clear hb hv hl5
  rcases HV.out.head HG0.out with ⟨h1, _⟩ | ⟨e1, h32, g5, o5, rfl, hg5, hcell5⟩
  ·have u1 : (l5 : Int) > 1 := by omega
   go_wp2_with fail
   refine (rparts_calls w1 _ _ m g HRN_1.out HV.out (by omega) (by omega) HG0.out).mono ?_
   rintro e w2 ⟨q1, r1, rfl, hq1, hr1, hb⟩
   have H2 := Hd (H1.out.step hb)
   have HRN2_2 := Hd (HRN2_1.out.of_below hb)
   have HV_2 := Hd (HV.out.of_below hb)
   have HQ1 := Hd hq1
   obtain ⟨B1, b1, y1, rfl, _, hy1, _⟩ := hq1.opened
   obtain ⟨B2, b2, y2, rfl, _, _, _⟩ := hr1.opened
   have HY1 : Hid (y1.length = wlen (m / g)) := by unfold Hid; rw [hy1.out]; rfl
   clear hq1 hr1 hb hy1
   go_wp2_with fail
   refine (rparts_calls w2 _ _ n g HRN2_2.out HV_2.out (by omega) (by omega) HG0.out).mono ?_
   rintro e w3 ⟨q2, r2, rfl, hq2, hr2, hb⟩
   have H3 := Hd (H2.out.step hb)
   have HQ1_3 := Hd (HQ1.out.of_below hb)
   have HQ2 := Hd hq2
   obtain ⟨B3, b3, y3, rfl, _, hy3, _⟩ := hq2.opened
   obtain ⟨B4, b4, y4, rfl, _, _, _⟩ := hr2.opened
   have HY3 : Hid (y3.length = wlen (n / g)) := by unfold Hid; rw [hy3.out]; rfl
   clear hq2 hr2 hb hy3
   go_wp2_with fail
   go_quiet (fail)
   have hbz := pw_drewN (below_next (below_new w3 (.cells #[.slice B1 y1.length b1, .slice B2 y2.length b2] 160)) (below_new _ (.cells #[.slice B3 y3.length b3, .slice B4 y4.length b4] 160))) nq
   have HR1 := Hd (show RN _ (.slice B1 y1.length b1) (m / g) from HQ1_3.out.of_below hbz)
   have HR2 := Hd (show RN _ (.slice B3 y3.length b3) (n / g) from HQ2.out.of_below hbz)
   have H9 := Hd (H3.out.step hbz)
   have HK1 : Hid (y1.length = wlen (m / g)) := HY1
   have HK2 : Hid (y3.length = wlen (n / g)) := HY3
   have hk1 : y1.length ≤ 1000000000 := by rw [HK1.out]; exact Nat.le_trans (wlen_mono (Nat.div_le_self _ _)) hm
   have hk2 : y3.length ≤ 1000000000 := by rw [HK2.out]; exact Nat.le_trans (wlen_mono (Nat.div_le_self _ _)) hn
   have wl : IntKind.i64.wrap ((y1.length : Int) + (y3.length : Int)) = (y1.length : Int) + (y3.length : Int) := IntWalk.i64_in _ (by omega)
   have hsz : sizeQ (mkRat (sg neg m) n) = y1.length + y3.length := by rw [mk_size neg m n HN0.out, ← HG.out, HK1.out, HK2.out]
   by_cases hbig : 4096 < y1.length + y3.length
   ·have t1 : decide ((y1.length : Int) + (y3.length : Int) > 4096) = true := decide_eq_true (by omega)
    have HQ : Hid (capQ (mkRat (sg neg m) n) = 0) := by unfold Hid capQ; rw [if_neg (by omega)]
    clear hsz
    go_wp2_with fail
    refine (rzero_calls _).mono ?_
    rintro e w9 ⟨v, rfl, hv, hb⟩
    obtain ⟨A5, n5, c5, A6, n6, c6, rfl, HV⟩ := hv.opened
    have H2 := Hd (H9.out.step hb)
    clear hv hb
    obtain ⟨e0, e1, e2⟩ := (H2.out.blk 0 rfl).c3
    obtain ⟨f0, f1, f2⟩ := (H2.out.blk 0 rfl).f3
    go_wp2_with fail
    rw [HQ.out]
    exact end40 Tryz.results140 rfl (H2.out.blk 0 rfl) HV.out (Nat.le_refl _) H2.out.2
   ·have t1 : decide ((y1.length : Int) + (y3.length : Int) > 4096) = false := decide_eq_false (by omega)
    have HQ : Hid (capQ (mkRat (sg neg m) n) = mkRat (sg neg m) n) := by unfold Hid capQ; rw [if_pos (by omega)]
    obtain ⟨e0, e1, e2⟩ := (H9.out.blk 0 rfl).c3
    obtain ⟨f0, f1, f2⟩ := (H9.out.blk 0 rfl).f3
    clear hsz
    go_wp2_with fail
    rw [HQ.out]
    exact end40 Tryz.results140 rfl (H9.out.blk 0 rfl) (fq_mk HN0.out HM0.out HG.out HR1.out HR2.out) (Nat.le_refl _) H9.out.2
  ·subst e1
   have u1 : decide (((1 : Nat) : Int) > 1) = false := by decide
   by_cases hg1 : g = 1
   ·have u2 : ((g : Int) != 1) = false := beqI (by omega)
    have HH1 := Hd hg1
    clear hg1
    have HR1 := Hd (show RN _ (.slice A l1 c) (m / g) from (by rw [HH1.out, Nat.div_one]; exact HRN_1.out))
    have HR2 := Hd (show RN _ (_) (n / g) from (by rw [HH1.out, Nat.div_one]; exact HRN2_1.out))
    have H9 := Hd (H1.out)
    have HK1 : Hid (l1 = wlen (m / g)) := by unfold Hid; rw [HH1.out, Nat.div_one]; exact HW1.out
    have HK2 : Hid (l2 = wlen (n / g)) := by unfold Hid; rw [HH1.out, Nat.div_one]; exact HW2.out
    have hk1 : l1 ≤ 1000000000 := by rw [HK1.out]; exact Nat.le_trans (wlen_mono (Nat.div_le_self _ _)) hm
    have hk2 : l2 ≤ 1000000000 := by rw [HK2.out]; exact Nat.le_trans (wlen_mono (Nat.div_le_self _ _)) hn
    have wl : IntKind.i64.wrap ((l1 : Int) + (l2 : Int)) = (l1 : Int) + (l2 : Int) := IntWalk.i64_in _ (by omega)
    have hsz : sizeQ (mkRat (sg neg m) n) = l1 + l2 := by rw [mk_size neg m n HN0.out, ← HG.out, HK1.out, HK2.out]
    by_cases hbig : 4096 < l1 + l2
    ·have t1 : decide ((l1 : Int) + (l2 : Int) > 4096) = true := decide_eq_true (by omega)
     have HQ : Hid (capQ (mkRat (sg neg m) n) = 0) := by unfold Hid capQ; rw [if_neg (by omega)]
     clear hsz
     go_wp2_with fail
     refine (rzero_calls _).mono ?_
     rintro e w9 ⟨v, rfl, hv, hb⟩
     obtain ⟨A5, n5, c5, A6, n6, c6, rfl, HV⟩ := hv.opened
     have H2 := Hd (H9.out.step hb)
     clear hv hb
     obtain ⟨e0, e1, e2⟩ := (H2.out.blk 0 rfl).c3
     obtain ⟨f0, f1, f2⟩ := (H2.out.blk 0 rfl).f3
     go_wp2_with fail
     rw [HQ.out]
     exact end40 Tryz.results140 rfl (H2.out.blk 0 rfl) HV.out (Nat.le_refl _) H2.out.2
    ·have t1 : decide ((l1 : Int) + (l2 : Int) > 4096) = false := decide_eq_false (by omega)
     have HQ : Hid (capQ (mkRat (sg neg m) n) = mkRat (sg neg m) n) := by unfold Hid capQ; rw [if_pos (by omega)]
     obtain ⟨e0, e1, e2⟩ := (H9.out.blk 0 rfl).c3
     obtain ⟨f0, f1, f2⟩ := (H9.out.blk 0 rfl).f3
     clear hsz
     go_wp2_with fail
     rw [HQ.out]
     exact end40 Tryz.results140 rfl (H9.out.blk 0 rfl) (fq_mk HN0.out HM0.out HG.out HR1.out HR2.out) (Nat.le_refl _) H9.out.2
   ·have u2 : ((g : Int) != 1) = true := bneI (by omega)
    clear hg1
    go_wp2_with fail
    refine (rparts_calls w1 _ _ m g HRN_1.out HV.out (by omega) (by omega) HG0.out).mono ?_
    rintro e w2 ⟨q1, r1, rfl, hq1, hr1, hb⟩
    have H2 := Hd (H1.out.step hb)
    have HRN2_2 := Hd (HRN2_1.out.of_below hb)
    have HV_2 := Hd (HV.out.of_below hb)
    have HQ1 := Hd hq1
    obtain ⟨B1, b1, y1, rfl, _, hy1, _⟩ := hq1.opened
    obtain ⟨B2, b2, y2, rfl, _, _, _⟩ := hr1.opened
    have HY1 : Hid (y1.length = wlen (m / g)) := by unfold Hid; rw [hy1.out]; rfl
    clear hq1 hr1 hb hy1
    go_wp2_with fail
    refine (rparts_calls w2 _ _ n g HRN2_2.out HV_2.out (by omega) (by omega) HG0.out).mono ?_
    rintro e w3 ⟨q2, r2, rfl, hq2, hr2, hb⟩
    have H3 := Hd (H2.out.step hb)
    have HQ1_3 := Hd (HQ1.out.of_below hb)
    have HQ2 := Hd hq2
    obtain ⟨B3, b3, y3, rfl, _, hy3, _⟩ := hq2.opened
    obtain ⟨B4, b4, y4, rfl, _, _, _⟩ := hr2.opened
    have HY3 : Hid (y3.length = wlen (n / g)) := by unfold Hid; rw [hy3.out]; rfl
    clear hq2 hr2 hb hy3
    go_wp2_with fail
    go_quiet (fail)
    have hbz := pw_drewN (below_next (below_new w3 (.cells #[.slice B1 y1.length b1, .slice B2 y2.length b2] 160)) (below_new _ (.cells #[.slice B3 y3.length b3, .slice B4 y4.length b4] 160))) nq
    have HR1 := Hd (show RN _ (.slice B1 y1.length b1) (m / g) from HQ1_3.out.of_below hbz)
    have HR2 := Hd (show RN _ (.slice B3 y3.length b3) (n / g) from HQ2.out.of_below hbz)
    have H9 := Hd (H3.out.step hbz)
    have HK1 : Hid (y1.length = wlen (m / g)) := HY1
    have HK2 : Hid (y3.length = wlen (n / g)) := HY3
    have hk1 : y1.length ≤ 1000000000 := by rw [HK1.out]; exact Nat.le_trans (wlen_mono (Nat.div_le_self _ _)) hm
    have hk2 : y3.length ≤ 1000000000 := by rw [HK2.out]; exact Nat.le_trans (wlen_mono (Nat.div_le_self _ _)) hn
    have wl : IntKind.i64.wrap ((y1.length : Int) + (y3.length : Int)) = (y1.length : Int) + (y3.length : Int) := IntWalk.i64_in _ (by omega)
    have hsz : sizeQ (mkRat (sg neg m) n) = y1.length + y3.length := by rw [mk_size neg m n HN0.out, ← HG.out, HK1.out, HK2.out]
    by_cases hbig : 4096 < y1.length + y3.length
    ·have t1 : decide ((y1.length : Int) + (y3.length : Int) > 4096) = true := decide_eq_true (by omega)
     have HQ : Hid (capQ (mkRat (sg neg m) n) = 0) := by unfold Hid capQ; rw [if_neg (by omega)]
     clear hsz
     go_wp2_with fail
     refine (rzero_calls _).mono ?_
     rintro e w9 ⟨v, rfl, hv, hb⟩
     obtain ⟨A5, n5, c5, A6, n6, c6, rfl, HV⟩ := hv.opened
     have H2 := Hd (H9.out.step hb)
     clear hv hb
     obtain ⟨e0, e1, e2⟩ := (H2.out.blk 0 rfl).c3
     obtain ⟨f0, f1, f2⟩ := (H2.out.blk 0 rfl).f3
     go_wp2_with fail
     rw [HQ.out]
     exact end40 Tryz.results140 rfl (H2.out.blk 0 rfl) HV.out (Nat.le_refl _) H2.out.2
    ·have t1 : decide ((y1.length : Int) + (y3.length : Int) > 4096) = false := decide_eq_false (by omega)
     have HQ : Hid (capQ (mkRat (sg neg m) n) = mkRat (sg neg m) n) := by unfold Hid capQ; rw [if_pos (by omega)]
     obtain ⟨e0, e1, e2⟩ := (H9.out.blk 0 rfl).c3
     obtain ⟨f0, f1, f2⟩ := (H9.out.blk 0 rfl).f3
     clear hsz
     go_wp2_with fail
     rw [HQ.out]
     exact end40 Tryz.results140 rfl (H9.out.blk 0 rfl) (fq_mk HN0.out HM0.out HG.out HR1.out HR2.out) (Nat.le_refl _) H9.out.2
set_option maxHeartbeats 16000000 in
set_option maxRecDepth 100000 in
theorem rright_calls (w : World) (v : Value) (f : RawF) (h : FR w v f) :
  Calls Tryz.prog 120 #[v] w fun e w' => BPost w (rightB f) e w' := by
 obtain ⟨⟨hl, hl2⟩, v1, v2, rfl, h1, h2⟩ := h
 obtain ⟨A1, c1, rfl, hc1⟩ := h1.slice
 obtain ⟨A2, c2, rfl, hc2⟩ := h2.slice
 obtain ⟨s, xs, ys⟩ := f
 simp only at *
 have R1 := Hd h1
 have R2 := Hd h2
 clear h1 h2
 go_enter Tryz.func120, Tryz.ntmps120
 go_wp2_with fail
 go_quiet (fail)
 by_cases d0 : ys.length = 0
 ·have q0 := eqb0 d0
  have HR := Hd (rightB_false (f := ⟨s, xs, ys⟩) fun h => (rightF_den h).1 (List.eq_nil_of_length_eq_zero d0))
  clear d0
  go_wp2_with fail
  go_ret
  exact ⟨by rw [HR.out]; rfl, pw_drewN (below_new w _) _⟩
 have q0 := neb0 d0
 by_cases d3 : 4096 < xs.length
 ·have q3 : decide ((xs.length : Int) > 4096) = true := decide_eq_true (by omega)
  have HR := Hd (rightB_false (f := ⟨s, xs, ys⟩) fun h => by have h1 := (rightF_den h).2.1; simp only at h1; omega)
  clear d0 d3
  go_wp2_with fail
  go_ret
  exact ⟨by rw [HR.out]; rfl, pw_drewN (below_new w _) _⟩
 have q3 : decide ((xs.length : Int) > 4096) = false := decide_eq_false (by omega)
 by_cases d4 : 4096 < ys.length
 ·have q4 : decide ((ys.length : Int) > 4096) = true := decide_eq_true (by omega)
  have HR := Hd (rightB_false (f := ⟨s, xs, ys⟩) fun h => by have h1 := (rightF_den h).2.1; simp only at h1; omega)
  clear d0 d3 d4
  go_wp2_with fail
  go_ret
  exact ⟨by rw [HR.out]; rfl, pw_drewN (below_new w _) _⟩
 have q4 : decide ((ys.length : Int) > 4096) = false := decide_eq_false (by omega)
 have wl : IntKind.i64.wrap ((xs.length : Int) + (ys.length : Int)) = (xs.length : Int) + (ys.length : Int) := IntWalk.i64_in _ (by omega)
 by_cases d1 : 4096 < xs.length + ys.length
 ·have q1 : decide ((xs.length : Int) + (ys.length : Int) > 4096) = true := decide_eq_true (by omega)
  have HR := Hd (rightB_false (f := ⟨s, xs, ys⟩) fun h => by have h1 := (rightF_den h).2.1; simp only at h1; omega)
  clear d0 d1 d3 d4
  go_wp2_with fail
  go_ret
  exact ⟨by rw [HR.out]; rfl, pw_drewN (below_new w _) _⟩
 have q1 : decide ((xs.length : Int) + (ys.length : Int) > 4096) = false := decide_eq_false (by omega)
 obtain ⟨g2, o2, rfl, hg2, hcell2⟩ := R2.out.at_ (by omega)
 have n2 : ((ys.length : Int) - 1).toNat = ys.length - 1 := by omega
 have n3 : 0 ≤ (ys.length : Int) - 1 := by omega
 have n4 : (ys.length : Int) - 1 < (ys.length : Int) := by omega
 have nw : IntKind.i64.wrap ((ys.length : Int) - 1) = (ys.length : Int) - 1 := IntWalk.i64_in _ (by omega)
 have hcw := (bcell (pw_drewN (below_new w (.cells #[.bool s, .slice A1 xs.length c1, .slice (some ⟨g2, o2, none⟩) ys.length c2] 46)) nq)).1
 by_cases d2 : nat ys (ys.length - 1) = 0
 ·rw [d2] at hcell2
  have hcell0 : w.cell? ⟨g2, o2 + (ys.length - 1), none⟩ = some (.int .u32 0) := hcell2
  have HR := Hd (rightB_false (f := ⟨s, xs, ys⟩) fun h => (rightF_den h).2.2 d2)
  have hz0 : ((0 : Int) == 0) = true := rfl
  clear d0 d1 d2 d3 d4 hcell2
  go_wp2_with fail
  go_ret
  exact ⟨by rw [HR.out]; rfl, pw_drewN (below_new w _) _⟩
 have z2 : ((nat ys (ys.length - 1) : Int) == 0) = false := neb0 d2
 have HCN2 := Hd (canon R2.out.wd (.inr d2))
 have HW1 := Hd (pw_drewN (below_new w (.cells #[.bool s, .slice A1 xs.length c1, .slice (some ⟨g2, o2, none⟩) ys.length c2] 46)) nq)
 have RN2 : Hid (RN w (.slice (some ⟨g2, o2, none⟩) ys.length c2) (valN ys)) := by have := R2.out; unfold Hid RN; rw [← HCN2.out]; exact this
 have hv0 : valN ys ≠ 0 := fun h => by
  have := HCN2.out
  rw [h] at this
  exact d0 (by rw [this]; rfl)
 obtain ⟨dn, hdn⟩ : ∃ dn, dn = valN ys := ⟨_, rfl⟩
 rw [← hdn] at RN2 hv0
 have HDN := Hd hdn
 have hhead := RN2.out.head hv0
 have hone : (¬ ys.length = 1 ∧ ((ys.length : Int) == 1) = false ∧ dn ≠ 1) ∨ (ys.length = 1 ∧ ((ys.length : Int) == 1) = true ∧ w.cell? ⟨g2, o2, none⟩ = some (.int .u32 (dn : Int))) := by
  rcases hhead with ⟨h1, h2⟩ | ⟨h1, _, g, o, e, _, hc⟩
  ·exact .inl ⟨by omega, by simpa using (show (ys.length : Int) ≠ 1 by omega), h2⟩
  ·injection e with e
   injection e with e1 e2
   subst e1 e2
   exact .inr ⟨h1, by rw [h1]; rfl, hc⟩
 have HO := Hd hone
 have HHV0 := Hd hv0
 clear hdn hhead hone hv0
 by_cases x0 : xs.length = 0
 ·have y0 := eqb0 x0
  have HX0 := Hd (List.eq_nil_of_length_eq_zero x0)
  have HD2 := Hd d2
  clear d0 d1 d2 d3 d4 x0
  cases s with
  | true =>
   have HR := Hd (rightB_false (f := ⟨true, xs, ys⟩) fun h => absurd (rightF_zero h HX0.out).2 (by simp))
   go_wp2_with fail
   go_ret
   exact ⟨by rw [HR.out]; rfl, HW1.out⟩
  | false =>
   rcases HO.out with ⟨h1, h2, h3⟩ | ⟨h1, h2, h3⟩
   ·have HR := Hd (rightB_false (f := ⟨false, xs, ys⟩) fun h => h3 (HDN.out.trans (rightF_zero h HX0.out).1))
    clear h1 h3
    go_wp2_with fail
    go_ret
    exact ⟨by rw [HR.out]; rfl, HW1.out⟩
   ·have l0 : (0 : Int) < (ys.length : Int) := by omega
    have l1 : 0 < ys.length := by omega
    by_cases e1 : dn = 1
    ·have u1 : ((dn : Int) == 1) = true := by rw [e1]; rfl
     have HR := Hd (rightB_true (f := ⟨false, xs, ys⟩) (rightF_mk0 HD2.out HX0.out R2.out.wd (HDN.out.symm.trans e1) rfl))
     clear e1 h1
     go_wp2_with fail
     go_ret
     exact ⟨by rw [HR.out]; rfl, HW1.out⟩
    ·have u1 : ((dn : Int) == 1) = false := by simpa using (show (dn : Int) ≠ 1 by omega)
     have HR := Hd (rightB_false (f := ⟨false, xs, ys⟩) fun h => e1 (HDN.out.trans (rightF_zero h HX0.out).1))
     clear e1 h1
     go_wp2_with fail
     go_ret
     exact ⟨by rw [HR.out]; rfl, HW1.out⟩
 have y0 := neb0 x0
 obtain ⟨g1, o1, rfl, hg1, hcell1⟩ := R1.out.at_ (by omega)
 have m2 : ((xs.length : Int) - 1).toNat = xs.length - 1 := by omega
 have m3 : 0 ≤ (xs.length : Int) - 1 := by omega
 have m4 : (xs.length : Int) - 1 < (xs.length : Int) := by omega
 have mw : IntKind.i64.wrap ((xs.length : Int) - 1) = (xs.length : Int) - 1 := IntWalk.i64_in _ (by omega)
 have HX0 : Hid (xs ≠ []) := fun h => x0 (by rw [h]; rfl)
 have HY0 : Hid (ys ≠ []) := fun h => d0 (by rw [h]; rfl)
 have HLL : Hid (xs.length + ys.length ≤ 4096) := by unfold Hid; omega
 have HD2 := Hd d2
 by_cases e2 : nat xs (xs.length - 1) = 0
 ·rw [e2] at hcell1
  have hcell0 : w.cell? ⟨g1, o1 + (xs.length - 1), none⟩ = some (.int .u32 0) := hcell1
  have HR := Hd (rightB_false (f := ⟨s, xs, ys⟩) fun h => (rightF_num h HX0.out).1 e2)
  have hz0 : ((0 : Int) == 0) = true := rfl
  clear d0 d1 d2 d3 d4 x0 e2 hcell1
  go_wp2_with fail
  go_ret
  exact ⟨by rw [HR.out]; rfl, pw_drewN (below_new w _) _⟩
 have z3 : ((nat xs (xs.length - 1) : Int) == 0) = false := neb0 e2
 have HCN1 := Hd (canon R1.out.wd (.inr e2))
 have RN1 : Hid (RN w (.slice (some ⟨g1, o1, none⟩) xs.length c1) (valN xs)) := by have := R1.out; unfold Hid RN; rw [← HCN1.out]; exact this
 have HE2 := Hd e2
 have hm0 : valN xs ≠ 0 := fun h => by
  have := HCN1.out
  rw [h] at this
  exact x0 (by rw [this]; rfl)
 have hlm : wlen (valN xs) ≤ 10000000000 := by unfold wlen; rw [← HCN1.out]; omega
 have hln : wlen dn ≤ 10000000000 := by unfold wlen; rw [HDN.out, ← HCN2.out]; omega
 have HM0 := Hd hm0
 have RNd : Hid (Nat.gcd (valN xs) dn ≠ 0) := fun h => HM0.out (Nat.gcd_eq_zero_iff.1 h).1
 clear d0 d1 d2 d3 d4 x0 e2 hm0
 have LONG : ((ys.length : Int) == 1) = false ∨ (((ys.length : Int) == 1) = true ∧ w.cell? ⟨g2, o2, none⟩ = some (.int .u32 (dn : Int)) ∧ (0 : Int) < (ys.length : Int) ∧ 0 < ys.length ∧ ((dn : Int) == 1) = false) ∨ (((ys.length : Int) == 1) = true ∧ w.cell? ⟨g2, o2, none⟩ = some (.int .u32 (1 : Int)) ∧ (0 : Int) < (ys.length : Int) ∧ 0 < ys.length ∧ Hid (dn = 1)) := by
  rcases HO.out with ⟨h1, h2, h3⟩ | ⟨h1, h2, h3⟩
  ·exact .inl h2
  ·by_cases e1 : dn = 1
   ·rw [e1] at h3
    exact .inr (.inr ⟨h2, h3, by omega, by omega, e1⟩)
   ·exact .inr (.inl ⟨h2, h3, by omega, by omega, by simpa using (show (dn : Int) ≠ 1 by omega)⟩)
 rcases LONG with u1 | ⟨u1, u2, u3, u4, u5⟩ | ⟨u1, u2, u3, u4, u5⟩
 case' inr.inr =>
  have HR := Hd (rightB_true (f := ⟨s, xs, ys⟩) (rightF_mk HLL.out HY0.out HD2.out HE2.out R1.out.wd R2.out.wd HX0.out (by simp only; rw [← HDN.out, u5.out, Nat.gcd_one_right])))
  have u6 : ((1 : Int) == 1) = true := rfl
  go_wp2_with fail
  go_ret
  exact ⟨by rw [HR.out]; rfl, HW1.out⟩
 all_goals
  go_wp2_with fail
  refine (rcommon_calls _ _ _ _ _ (RN1.out.of_below HW1.out) (RN2.out.of_below HW1.out) hlm hln).mono ?_
  rintro e w3 ⟨v3, rfl, hv3, hb3⟩
  have HB3 := Hd (below_next HW1.out hb3)
  obtain ⟨gd, hgd⟩ : ∃ gd, gd = Nat.gcd (valN xs) dn := ⟨_, rfl⟩
  rw [← hgd] at hv3 RNd
  have HV3 := Hd hv3
  have HGD := Hd hgd
  obtain ⟨A3, c3, zs, rfl, _, _, _⟩ := hv3.opened
  obtain ⟨l3, hl3⟩ : ∃ l, l = zs.length := ⟨_, rfl⟩
  rw [← hl3] at HV3 ⊢
  clear hb3 hv3 hgd hl3
  rcases HV3.out.head RNd.out with ⟨h1, h2⟩ | ⟨h1, _, g, o, rfl, hgz, hc⟩
  ·have t1 : ((l3 : Int) == 1) = false := by simpa using (show (l3 : Int) ≠ 1 by omega)
   have HR := Hd (rightB_false (f := ⟨s, xs, ys⟩) fun h => h2 (HGD.out.trans (by rw [HDN.out]; exact (rightF_num h HX0.out).2)))
   clear h1 h2
   go_wp2_with fail
   go_ret
   exact ⟨by rw [HR.out]; rfl, HB3.out⟩
  ·subst h1
   have t1 : (((1 : Nat) : Int) == 1) = true := rfl
   by_cases hg1 : gd = 1
   ·rw [hg1] at hc
    have hc1 : w3.cell? ⟨g, o, none⟩ = some (.int .u32 1) := hc
    have t2 : ((1 : Int) == 1) = true := rfl
    have HR := Hd (rightB_true (f := ⟨s, xs, ys⟩) (rightF_mk HLL.out HY0.out HD2.out HE2.out R1.out.wd R2.out.wd HX0.out (by simp only; rw [← HDN.out, ← HGD.out, hg1])))
    clear hg1 hc
    go_wp2_with fail
    go_ret
    exact ⟨by rw [HR.out]; rfl, HB3.out⟩
   ·have t2 : ((gd : Int) == 1) = false := by simpa using (show (gd : Int) ≠ 1 by omega)
    have HR := Hd (rightB_false (f := ⟨s, xs, ys⟩) fun h => hg1 (HGD.out.trans (by rw [HDN.out]; exact (rightF_num h HX0.out).2)))
    clear hg1
    go_wp2_with fail
    go_ret
    exact ⟨by rw [HR.out]; rfl, HB3.out⟩
set_option maxHeartbeats 16000000 in
set_option maxRecDepth 100000 in
theorem rfix_calls (w : World) (v : Value) (f : RawF) (h : FR w v f) : Calls Tryz.prog 70 #[v] w fun e w' => FPost w (fixQ f) e w' := by
 obtain ⟨A1, n1, c1, A2, n2, c2, rfl, H⟩ := h.opened
 clear h
 obtain ⟨s, hs⟩ : ∃ s, s = f.neg := ⟨_, rfl⟩
 rw [← hs] at H ⊢
 have HS' := Hd hs
 clear hs
 go_enter Tryz.func70, Tryz.ntmps70
 go_wp2_with fail
 have H0 := Hd (HS.two (w := w) #[.bool s, .slice A1 n1 c1, .slice A2 n2 c2] #[.bool false, .slice none 0 0, .slice none 0 0] 46 46)
 generalize (w.alloc (.cells #[.bool s, .slice A1 n1 c1, .slice A2 n2 c2] 46)).alloc (.cells #[.bool false, .slice none 0 0, .slice none 0 0] 46) = W0 at *
 refine (rright_calls _ _ f (H.out.of_below H0.out.2)).mono ?_
 rintro e w1 ⟨rfl, hb⟩
 have H1 := Hd (H0.out.step hb)
 clear hb
 by_cases hr : RightF f
 ·have t := rightB_true hr
  have HR := Hd hr
  obtain ⟨d0, d1, d2⟩ := (H1.out.blk 1 rfl).c3
  obtain ⟨e0, e1, e2⟩ := (H1.out.blk 0 rfl).c3
  obtain ⟨f0, f1, f2⟩ := (H1.out.blk 0 rfl).f3
  clear hr
  go_wp2_with fail
  refine end40 Tryz.results70 rfl (H1.out.blk 0 rfl) ?_ (by omega) H1.out.2
  obtain ⟨_, v1, v2, e, h1, h2⟩ := H.out.of_below H1.out.2
  have e' := right_raw HR.out
  injection e with e
  have e1 : Value.bool s = .bool f.neg ∧ Value.slice A1 n1 c1 = v1 ∧ Value.slice A2 n2 c2 = v2 := by simpa using e
  obtain ⟨_, rfl, rfl⟩ := e1
  refine ⟨.slice A1 n1 c1, .slice A2 n2 c2, ?_, ?_, ?_⟩
  ·rw [HS'.out, show f.neg = negQ (fixQ f) by rw [show f.neg = (rawQ (fixQ f)).neg from congrArg RawF.neg e']; rfl]
  ·have : f.num = dg (fixQ f).num.natAbs := congrArg RawF.num e'
   rw [this] at h1; exact h1
  ·have : f.den = dg (fixQ f).den := congrArg RawF.den e'
   rw [this] at h2; exact h2
 ·have t := rightB_false hr
  have HQ := Hd (fixQ_wrong hr)
  clear hr
  go_wp2_with fail
  refine (rzero_calls w1).mono ?_
  rintro e w2 ⟨v, rfl, hv, hb⟩
  obtain ⟨A5, n5, c5, A6, n6, c6, rfl, HV⟩ := hv.opened
  have H2 := Hd (H1.out.step hb)
  clear hb hv
  obtain ⟨e0, e1, e2⟩ := (H2.out.blk 0 rfl).c3
  obtain ⟨f0, f1, f2⟩ := (H2.out.blk 0 rfl).f3
  go_wp2_with fail
  rw [HQ.out]
  exact end40 Tryz.results70 rfl (H2.out.blk 0 rfl) HV.out (by omega) H2.out.2
theorem FQ.parts {w : World} {s : Bool} {v1 v2 : Value} {q : Rat} (h : FQ w (.agg #[.bool s, v1, v2]) q) : s = negQ q ∧ RN w v1 q.num.natAbs ∧ RN w v2 q.den := by
 obtain ⟨x, y, e, h1, h2⟩ := h
 injection e with e
 have e : s = negQ q ∧ v1 = x ∧ v2 = y := by simpa using e
 obtain ⟨rfl, rfl, rfl⟩ := e
 exact ⟨rfl, h1, h2⟩
theorem rlowest_q (w : World) (v v2 : Value) (neg : Bool) (m n : Nat) (q : Rat) (hq : mkRat (sg neg m) n = q) (h : RN w v m) (h2 : RN w v2 n) (hm : wlen m ≤ 1000000000) (hn : wlen n ≤ 1000000000) (hn0 : n ≠ 0) :
  Calls Tryz.prog 140 #[.bool neg, v, v2] w fun e w' => FPost w (capQ q) e w' := hq ▸ rlowest_calls w v v2 neg m n h h2 hm hn hn0
theorem cmpI_geq {m n : Nat} (h : n ≤ m) : decide (cmpI m n ≥ 0) = true := by
 refine decide_eq_true ?_
 unfold cmpI
 split
 ·omega
 ·rw [if_neg (by omega)]; omega
theorem cmpI_less {m n : Nat} (h : m < n) : decide (cmpI m n ≥ 0) = false := by
 rw [cmpI_lt h]; rfl
theorem cmpI_same (m : Nat) : (cmpI m m != 0) = false := by unfold cmpI; rw [if_pos rfl]; rfl
theorem cmpI_diff {m n : Nat} (h : m ≠ n) : (cmpI m n != 0) = true := by
 unfold cmpI
 rw [if_neg h]
 split <;> rfl
set_option maxHeartbeats 16000000 in
set_option maxRecDepth 100000 in
theorem rproduct_calls (w : World) (v v2 : Value) (a b : Rat) (h : FQ w v a) (h2 : FQ w v2 b) (ha : sizeQ a ≤ 100000000) (hb : sizeQ b ≤ 100000000) : Calls Tryz.prog 119 #[v, v2] w fun e w' => FPost w (capQ (a * b)) e w' := by
 obtain ⟨A1, k1, c1, A2, k2, c2, rfl, HF⟩ := h.opened
 obtain ⟨A3, k3, c3, A4, k4, c4, rfl, HG⟩ := h2.opened
 clear h h2
 obtain ⟨sa, hsa⟩ : ∃ s, s = negQ a := ⟨_, rfl⟩
 obtain ⟨sb, hsb⟩ : ∃ s, s = negQ b := ⟨_, rfl⟩
 rw [← hsa] at HF ⊢
 rw [← hsb] at HG ⊢
 have HSA := Hd hsa
 have HSB := Hd hsb
 have r1 := (FQ.parts HF.out).2.1
 have r2 := (FQ.parts HF.out).2.2
 have r3 := (FQ.parts HG.out).2.1
 have r4 := (FQ.parts HG.out).2.2
 have R1 := Hd r1
 have R2 := Hd r2
 have R3 := Hd r3
 have R4 := Hd r4
 have l1 : wlen a.num.natAbs ≤ 100000000 := by unfold sizeQ at ha; omega
 have l2 : wlen a.den ≤ 100000000 := by unfold sizeQ at ha; omega
 have l3 : wlen b.num.natAbs ≤ 100000000 := by unfold sizeQ at hb; omega
 have l4 : wlen b.den ≤ 100000000 := by unfold sizeQ at hb; omega
 clear hsa hsb r1 r2 r3 r4 ha hb HF HG
 have l5 := wlen_mul a.num.natAbs b.num.natAbs
 have l6 := wlen_mul a.den b.den
 have hdd : a.den * b.den ≠ 0 := Nat.mul_ne_zero a.den_nz b.den_nz
 have HQ : Hid (mkRat (sg (!sa == sb) (a.num.natAbs * b.num.natAbs)) (a.den * b.den) = a * b) := by
  unfold Hid
  rw [HSA.out, HSB.out, ← sg_mul]
  congr 2
 go_enter Tryz.func119, Tryz.ntmps119
 go_wp2_with fail
 have H0 := Hd (HS.three (w := w) #[.bool sa, .slice A1 k1 c1, .slice A2 k2 c2] #[.bool sb, .slice A3 k3 c3, .slice A4 k4 c4] #[.bool false, .slice none 0 0, .slice none 0 0] 46 46 46)
 generalize ((w.alloc (.cells #[.bool sa, .slice A1 k1 c1, .slice A2 k2 c2] 46)).alloc (.cells #[.bool sb, .slice A3 k3 c3, .slice A4 k4 c4] 46)).alloc (.cells #[.bool false, .slice none 0 0, .slice none 0 0] 46) = W0 at *
 obtain ⟨x0, x1, x2⟩ := (H0.out.blk 2 rfl).c3
 obtain ⟨y0, y1, y2⟩ := (H0.out.blk 1 rfl).c3
 have hlt0 := (H0.out.blk 0 rfl).lt
 have hlt1 := (H0.out.blk 1 rfl).lt
 have hlt2 := (H0.out.blk 2 rfl).lt
 refine wp_chainF (l := [_, _, _, _, _, _, _, _, _, _, _, _, _, _, _, _, _]) (S := Below W0.heap.size W0) 16 [([0, 1, 2, 3, 4, 5, 6, 7, 8, 10, 11, 12, 13], 9), ([], 14), ([], 15)] [] (by kernel_rfl) (by kernel_rfl) (by kernel_rfl) rfl (Below.drew (Below.refl _ _)) ?_
 refine ⟨?_, _, ?_, rfl, ?_⟩
 rotate_left
 ·repeat (refine ⟨_, ?_, rfl, Or.inl ⟨by rfl, ?_⟩, ?_⟩; rotate_left; focus (intro W hW; replace hW := (bcell hW).1; go_simp; try with_reducible rfl); (try simp only [SQ]))
  exact rfl
 have HB0 : Hid (Below W0.heap.size W0 W0.drew) := Below.drew (Below.refl _ _)
 have HB00 := Hd (below_next H0.out.2 HB0.out)
 go_wp2_with fail
 refine (rtimes_calls _ _ _ _ _ (R1.out.of_below HB00.out) (R3.out.of_below HB00.out) (by omega) (by omega)).mono ?_
 rintro e w1 ⟨v, rfl, hv, hb⟩
 have HB1 := Hd (below_next HB0.out hb)
 have HB01 := Hd (below_next H0.out.2 HB1.out)
 have HV := Hd hv
 obtain ⟨A5, c5, l5', rfl, _, _, _⟩ := RN.opened hv
 clear hv hb
 go_wp2_with fail
 refine And.intro HB1.out ⟨_, _, rfl, rfl, ?_⟩
 go_wp2_with fail
 refine (rtimes_calls _ _ _ _ _ (R2.out.of_below HB01.out) (R4.out.of_below HB01.out) (by omega) (by omega)).mono ?_
 rintro e w2 ⟨v, rfl, hv, hb⟩
 have HB2 := Hd (below_next HB1.out hb)
 have HV1 := Hd (HV.out.of_below hb)
 have HV2 := Hd hv
 obtain ⟨A6, c6, l6', rfl, _, _, _⟩ := RN.opened hv
 clear hv hb
 go_wp2_with fail
 refine And.intro HB2.out ⟨_, _, rfl, rfl, ?_⟩
 go_wp2_with fail
 refine (rlowest_q _ _ _ _ _ _ _ HQ.out HV1.out HV2.out (by omega) (by omega) hdd).mono ?_
 rintro e w3 ⟨v, rfl, hv, hb⟩
 have HB3 := Hd (below_next HB2.out hb)
 obtain ⟨A7, n7, c7, A8, n8, c8, rfl, HV3⟩ := hv.opened
 have H3 := Hd (H0.out.step HB3.out)
 clear hv hb
 obtain ⟨e0, e1, e2⟩ := (H3.out.blk 0 rfl).c3
 obtain ⟨f0, f1, f2⟩ := (H3.out.blk 0 rfl).f3
 go_wp2_with fail
 refine And.intro HB3.out ⟨_, rfl, ?_⟩
 go_wp2_with fail
 refine NoPanic.normal ?_
 go_wp2_with fail
 exact end40 Tryz.results119 rfl (H3.out.blk 0 rfl) HV3.out (by omega) H3.out.2
set_option maxHeartbeats 16000000 in
set_option maxRecDepth 100000 in
theorem rsum_calls (w : World) (v v2 : Value) (a b : Rat) (h : FQ w v a) (h2 : FQ w v2 b) (ha : sizeQ a ≤ 100000000) (hb : sizeQ b ≤ 100000000) : Calls Tryz.prog 118 #[v, v2] w fun e w' => FPost w (capQ (a + b)) e w' := by
 obtain ⟨A1, k1, c1, A2, k2, c2, rfl, HF⟩ := h.opened
 obtain ⟨A3, k3, c3, A4, k4, c4, rfl, HG⟩ := h2.opened
 clear h h2
 obtain ⟨sa, hsa⟩ : ∃ s, s = negQ a := ⟨_, rfl⟩
 obtain ⟨sb, hsb⟩ : ∃ s, s = negQ b := ⟨_, rfl⟩
 rw [← hsa] at HF ⊢
 rw [← hsb] at HG ⊢
 have HSA := Hd hsa
 have HSB := Hd hsb
 have r1 := (FQ.parts HF.out).2.1
 have r2 := (FQ.parts HF.out).2.2
 have r3 := (FQ.parts HG.out).2.1
 have r4 := (FQ.parts HG.out).2.2
 have R1 := Hd r1
 have R2 := Hd r2
 have R3 := Hd r3
 have R4 := Hd r4
 have l1 : wlen a.num.natAbs ≤ 100000000 := by unfold sizeQ at ha; omega
 have l2 : wlen a.den ≤ 100000000 := by unfold sizeQ at ha; omega
 have l3 : wlen b.num.natAbs ≤ 100000000 := by unfold sizeQ at hb; omega
 have l4 : wlen b.den ≤ 100000000 := by unfold sizeQ at hb; omega
 clear hsa hsb r1 r2 r3 r4 ha hb HF HG
 go_enter Tryz.func118, Tryz.ntmps118
 go_wp2_with fail
 have H0 := Hd (HS.three (w := w) #[.bool sa, .slice A1 k1 c1, .slice A2 k2 c2] #[.bool sb, .slice A3 k3 c3, .slice A4 k4 c4] #[.bool false, .slice none 0 0, .slice none 0 0] 46 46 46)
 generalize ((w.alloc (.cells #[.bool sa, .slice A1 k1 c1, .slice A2 k2 c2] 46)).alloc (.cells #[.bool sb, .slice A3 k3 c3, .slice A4 k4 c4] 46)).alloc (.cells #[.bool false, .slice none 0 0, .slice none 0 0] 46) = W0 at *
 obtain ⟨x0, x1, x2⟩ := (H0.out.blk 2 rfl).c3
 obtain ⟨y0, y1, y2⟩ := (H0.out.blk 1 rfl).c3
 have hlt0 := (H0.out.blk 0 rfl).lt
 have hlt1 := (H0.out.blk 1 rfl).lt
 have hlt2 := (H0.out.blk 2 rfl).lt
 obtain ⟨x0, x1, x2⟩ := (H0.out.blk 2 rfl).c3
 go_quiet (fail)
 have HB0 : Hid (Below W0.heap.size W0 (W0.drewN nq)) := pw_drewN (Below.refl _ _) _
 have H1 := Hd (H0.out.step HB0.out)
 generalize W0.drewN nq = W1 at *
 obtain ⟨x0, x1, x2⟩ := (H1.out.blk 2 rfl).c3
 obtain ⟨y0, y1, y2⟩ := (H1.out.blk 1 rfl).c3
 go_wp2_with fail
 refine (rorder_calls W1 _ _ a.den b.den (R2.out.of_below H1.out.2) (R4.out.of_below H1.out.2) (by omega) (by omega)).mono ?_
 rintro e w2 ⟨rfl, hb⟩
 have H2 := Hd (H1.out.step hb)
 clear hb
 obtain ⟨x0, x1, x2⟩ := (H2.out.blk 2 rfl).c3
 obtain ⟨y0, y1, y2⟩ := (H2.out.blk 1 rfl).c3
 have hlt0 := (H2.out.blk 0 rfl).lt
 have hlt1 := (H2.out.blk 1 rfl).lt
 have hlt2 := (H2.out.blk 2 rfl).lt
 by_cases hd : a.den = b.den
 ·have u0 : (cmpI a.den b.den != 0) = false := by rw [hd]; exact cmpI_same _
  have HD := Hd hd
  clear hd
  have HX2 := Hd (R1.out.of_below H2.out.2)
  have HY2 := Hd (R3.out.of_below H2.out.2)
  have HD2 := Hd (R2.out.of_below H2.out.2)
  obtain ⟨xn, hxn⟩ : ∃ x, x = a.num.natAbs := ⟨_, rfl⟩
  obtain ⟨yn, hyn⟩ : ∃ x, x = b.num.natAbs := ⟨_, rfl⟩
  obtain ⟨dn, hdn⟩ : ∃ x, x = a.den := ⟨_, rfl⟩
  have HA : Hid (a = mkRat (sg (negQ a) xn) dn) := by unfold Hid; rw [hxn, hdn, mk_self]
  have HB : Hid (b = mkRat (sg (negQ b) yn) dn) := by unfold Hid; rw [hyn, hdn, HD.out, mk_self]
  have hdd : dn ≠ 0 := by rw [hdn]; exact a.den_nz
  rw [← hxn] at HX2 l1
  rw [← hyn] at HY2 l3
  rw [← hdn] at HD2 l2
  have HDD := Hd hdd
  clear hxn hyn hdn hdd
  by_cases hs : sa = sb
  ·have u1 : (sa == sb) = true := by rw [hs]; simp
   have HQ : Hid (mkRat (sg sa (xn + yn)) (dn) = a + b) := by
    unfold Hid
    have hA := HA.out
    have hB := HB.out
    rw [← HSA.out] at hA
    rw [← HSB.out, ← hs] at hB
    rw [← plus_eq sa _ _ _ HDD.out, ← hA, ← hB]
   clear hs
   go_wp2_with fail
   refine wp_chainF (l := [_, _, _, _, _, _, _, _]) (S := Below w2.heap.size w2) 7 [([0, 1, 2, 3, 5], 4), ([], 6)] [] (by kernel_rfl) (by kernel_rfl) (by kernel_rfl) rfl (Below.drew (Below.refl _ _)) ?_
   refine ⟨?_, _, ?_, rfl, ?_⟩
   rotate_left
   ·repeat (refine ⟨_, ?_, rfl, Or.inl ⟨by rfl, ?_⟩, ?_⟩; rotate_left; focus (intro W hW; replace hW := (bcell hW).1; go_simp; try with_reducible rfl); (try simp only [SQ]))
    exact rfl
   have HBd : Hid (Below w2.heap.size w2 w2.drew) := Below.drew (Below.refl _ _)
   go_wp2_with fail
   refine (rplus_calls _ _ _ (xn) (yn) (RN.of_below HX2.out HBd.out) (RN.of_below HY2.out HBd.out) (by omega) (by omega)).mono ?_
   rintro e w5 ⟨v, rfl, hv, hb⟩
   have HB5 := Hd (below_next HBd.out hb)
   have HV5 := Hd hv
   obtain ⟨A5, c5, l5', rfl, _, _, _⟩ := RN.opened hv
   clear hv hb
   go_wp2_with fail
   refine And.intro HB5.out ⟨_, _, rfl, rfl, ?_⟩
   go_wp2_with fail
   refine (rlowest_q _ _ _ sa (xn + yn) (dn) (a + b) HQ.out HV5.out (RN.of_below HD2.out HB5.out) (by have := wlen_add (xn) (yn); omega) (by omega) HDD.out).mono ?_
   rintro e w6 ⟨v, rfl, hv, hb⟩
   have HB6 := Hd (below_next HB5.out hb)
   obtain ⟨A7, n7, c7, A8, n8, c8, rfl, HV6⟩ := hv.opened
   have H6 := Hd (H2.out.step HB6.out)
   clear hv hb
   obtain ⟨e0, e1, e2⟩ := (H6.out.blk 0 rfl).c3
   obtain ⟨f0, f1, f2⟩ := (H6.out.blk 0 rfl).f3
   go_wp2_with fail
   refine And.intro HB6.out ⟨_, rfl, ?_⟩
   go_wp2_with fail
   refine NoPanic.normal ?_
   go_wp2_with fail
   exact end40 Tryz.results118 rfl (H6.out.blk 0 rfl) HV6.out (by omega) H6.out.2
  have u1 : (sa == sb) = false := by simpa using hs
  have HSN := Hd hs
  clear hs
  go_wp2_with fail
  refine (rorder_calls w2 _ _ (xn) (yn) HX2.out HY2.out (by omega) (by omega)).mono ?_
  rintro e w4 ⟨rfl, hb⟩
  have H4 := Hd (H2.out.step hb)
  have HX4 := Hd (RN.of_below HX2.out hb)
  have HY4 := Hd (RN.of_below HY2.out hb)
  have HD4 := Hd (RN.of_below HD2.out hb)
  obtain ⟨x0, x1, x2⟩ := (H4.out.blk 2 rfl).c3
  obtain ⟨y0, y1, y2⟩ := (H4.out.blk 1 rfl).c3
  have hlt0 := (H4.out.blk 0 rfl).lt
  have hlt1 := (H4.out.blk 1 rfl).lt
  have hlt2 := (H4.out.blk 2 rfl).lt
  clear hb
  by_cases hle : yn ≤ xn
  ·have u2 := cmpI_geq hle
   have HQ : Hid (mkRat (sg sa (xn - yn)) (dn) = a + b) := by
    unfold Hid
    have hA := HA.out
    have hB := HB.out
    rw [← HSA.out] at hA
    rw [← HSB.out] at hB
    rw [← plus_gt sa sb HSN.out _ _ _ HDD.out hle, ← hA, ← hB]
   go_wp2_with fail
   refine wp_chainF (l := [_, _, _, _, _, _, _, _]) (S := Below w4.heap.size w4) 7 [([0, 1, 2, 3, 5], 4), ([], 6)] [] (by kernel_rfl) (by kernel_rfl) (by kernel_rfl) rfl (Below.drew (Below.refl _ _)) ?_
   refine ⟨?_, _, ?_, rfl, ?_⟩
   rotate_left
   ·repeat (refine ⟨_, ?_, rfl, Or.inl ⟨by rfl, ?_⟩, ?_⟩; rotate_left; focus (intro W hW; replace hW := (bcell hW).1; go_simp; try with_reducible rfl); (try simp only [SQ]))
    exact rfl
   have HBd : Hid (Below w4.heap.size w4 w4.drew) := Below.drew (Below.refl _ _)
   go_wp2_with fail
   refine (rminus_calls _ _ _ (xn) (yn) (RN.of_below HX4.out HBd.out) (RN.of_below HY4.out HBd.out) (by omega) hle).mono ?_
   rintro e w5 ⟨v, rfl, hv, hb⟩
   have HB5 := Hd (below_next HBd.out hb)
   have HV5 := Hd hv
   obtain ⟨A5, c5, l5', rfl, _, _, _⟩ := RN.opened hv
   clear hv hb
   go_wp2_with fail
   refine And.intro HB5.out ⟨_, _, rfl, rfl, ?_⟩
   go_wp2_with fail
   refine (rlowest_q _ _ _ sa (xn - yn) (dn) (a + b) HQ.out HV5.out (RN.of_below HD4.out HB5.out) (by have := wlen_mono (Nat.sub_le (xn) (yn)); omega) (by omega) HDD.out).mono ?_
   rintro e w6 ⟨v, rfl, hv, hb⟩
   have HB6 := Hd (below_next HB5.out hb)
   obtain ⟨A7, n7, c7, A8, n8, c8, rfl, HV6⟩ := hv.opened
   have H6 := Hd (H4.out.step HB6.out)
   clear hv hb
   obtain ⟨e0, e1, e2⟩ := (H6.out.blk 0 rfl).c3
   obtain ⟨f0, f1, f2⟩ := (H6.out.blk 0 rfl).f3
   go_wp2_with fail
   refine And.intro HB6.out ⟨_, rfl, ?_⟩
   go_wp2_with fail
   refine NoPanic.normal ?_
   go_wp2_with fail
   exact end40 Tryz.results118 rfl (H6.out.blk 0 rfl) HV6.out (by omega) H6.out.2
  ·have u2 := cmpI_less (Nat.lt_of_not_le hle)
   have hle2 : xn ≤ yn := by omega
   have HQ : Hid (mkRat (sg sb (yn - xn)) (dn) = a + b) := by
    unfold Hid
    have hA := HA.out
    have hB := HB.out
    rw [← HSA.out] at hA
    rw [← HSB.out] at hB
    rw [← plus_lt sa sb HSN.out _ _ _ HDD.out hle2, ← hA, ← hB]
   go_wp2_with fail
   refine wp_chainF (l := [_, _, _, _, _, _, _, _]) (S := Below w4.heap.size w4) 7 [([0, 1, 2, 3, 5], 4), ([], 6)] [] (by kernel_rfl) (by kernel_rfl) (by kernel_rfl) rfl (Below.drew (Below.refl _ _)) ?_
   refine ⟨?_, _, ?_, rfl, ?_⟩
   rotate_left
   ·repeat (refine ⟨_, ?_, rfl, Or.inl ⟨by rfl, ?_⟩, ?_⟩; rotate_left; focus (intro W hW; replace hW := (bcell hW).1; go_simp; try with_reducible rfl); (try simp only [SQ]))
    exact rfl
   have HBd : Hid (Below w4.heap.size w4 w4.drew) := Below.drew (Below.refl _ _)
   go_wp2_with fail
   refine (rminus_calls _ _ _ (yn) (xn) (RN.of_below HY4.out HBd.out) (RN.of_below HX4.out HBd.out) (by omega) hle2).mono ?_
   rintro e w5 ⟨v, rfl, hv, hb⟩
   have HB5 := Hd (below_next HBd.out hb)
   have HV5 := Hd hv
   obtain ⟨A5, c5, l5', rfl, _, _, _⟩ := RN.opened hv
   clear hv hb
   go_wp2_with fail
   refine And.intro HB5.out ⟨_, _, rfl, rfl, ?_⟩
   go_wp2_with fail
   refine (rlowest_q _ _ _ sb (yn - xn) (dn) (a + b) HQ.out HV5.out (RN.of_below HD4.out HB5.out) (by have := wlen_mono (Nat.sub_le (yn) (xn)); omega) (by omega) HDD.out).mono ?_
   rintro e w6 ⟨v, rfl, hv, hb⟩
   have HB6 := Hd (below_next HB5.out hb)
   obtain ⟨A7, n7, c7, A8, n8, c8, rfl, HV6⟩ := hv.opened
   have H6 := Hd (H4.out.step HB6.out)
   clear hv hb
   obtain ⟨e0, e1, e2⟩ := (H6.out.blk 0 rfl).c3
   obtain ⟨f0, f1, f2⟩ := (H6.out.blk 0 rfl).f3
   go_wp2_with fail
   refine And.intro HB6.out ⟨_, rfl, ?_⟩
   go_wp2_with fail
   refine NoPanic.normal ?_
   go_wp2_with fail
   exact end40 Tryz.results118 rfl (H6.out.blk 0 rfl) HV6.out (by omega) H6.out.2
 ·have u0 : (cmpI a.den b.den != 0) = true := cmpI_diff hd
  clear hd
  have m1 := wlen_mul a.num.natAbs b.den
  have m2 := wlen_mul b.num.natAbs a.den
  have m3 := wlen_mul a.den b.den
  go_wp2_with fail
  refine wp_chainF (l := [_, _, _, _, _, _, _, _, _, _, _, _, _, _, _, _, _, _]) (S := Below w2.heap.size w2) 18 [([0, 1, 2, 3, 5, 6, 7, 8, 10, 11, 12, 13], 4), ([], 9), ([], 14)] [15, 16, 17] (by kernel_rfl) (by kernel_rfl) (by kernel_rfl) rfl (Below.drew (Below.refl _ _)) ?_
  refine ⟨?_, _, ?_, rfl, ?_⟩
  rotate_left
  ·repeat (refine ⟨_, ?_, rfl, Or.inl ⟨by rfl, ?_⟩, ?_⟩; rotate_left; focus (intro W hW; replace hW := (bcell hW).1; go_simp; try with_reducible rfl); (try simp only [SQ]))
   exact rfl
  have HBd : Hid (Below w2.heap.size w2 w2.drew) := Below.drew (Below.refl _ _)
  have HBd0 := Hd (below_next H2.out.2 HBd.out)
  go_wp2_with fail
  refine (rtimes_calls _ _ _ a.num.natAbs b.den (R1.out.of_below HBd0.out) (R4.out.of_below HBd0.out) (by omega) (by omega)).mono ?_
  rintro e w3 ⟨v, rfl, hv, hb⟩
  have HB3 := Hd (below_next HBd.out hb)
  have HB30 := Hd (below_next H2.out.2 HB3.out)
  have HV3 := Hd hv
  obtain ⟨A5, c5, l5', rfl, _, _, _⟩ := RN.opened hv
  clear hv hb
  go_wp2_with fail
  refine And.intro HB3.out ⟨_, _, rfl, rfl, ?_⟩
  go_wp2_with fail
  refine (rtimes_calls _ _ _ b.num.natAbs a.den (R3.out.of_below HB30.out) (R2.out.of_below HB30.out) (by omega) (by omega)).mono ?_
  rintro e w4 ⟨v, rfl, hv, hb⟩
  have HB4 := Hd (below_next HB3.out hb)
  have HB40 := Hd (below_next H2.out.2 HB4.out)
  have HV34 := Hd (HV3.out.of_below hb)
  have HV4 := Hd hv
  obtain ⟨A6, c6, l6', rfl, _, _, _⟩ := RN.opened hv
  clear hv hb
  go_wp2_with fail
  refine And.intro HB4.out ⟨_, _, rfl, rfl, ?_⟩
  go_wp2_with fail
  refine (rtimes_calls _ _ _ a.den b.den (R2.out.of_below HB40.out) (R4.out.of_below HB40.out) (by omega) (by omega)).mono ?_
  rintro e w7 ⟨v, rfl, hv, hb⟩
  have HB7 := Hd (below_next HB4.out hb)
  have H7 := Hd (H2.out.step HB7.out)
  have HX2 := Hd (HV34.out.of_below hb)
  have HY2 := Hd (HV4.out.of_below hb)
  have HD2 := Hd hv
  obtain ⟨A9, c9, l9', rfl, _, _, _⟩ := RN.opened hv
  clear hv hb
  obtain ⟨x0, x1, x2⟩ := (H7.out.blk 2 rfl).c3
  obtain ⟨y0, y1, y2⟩ := (H7.out.blk 1 rfl).c3
  have hlt0 := (H7.out.blk 0 rfl).lt
  have hlt1 := (H7.out.blk 1 rfl).lt
  have hlt2 := (H7.out.blk 2 rfl).lt
  obtain ⟨xn, hxn⟩ : ∃ x, x = a.num.natAbs * b.den := ⟨_, rfl⟩
  obtain ⟨yn, hyn⟩ : ∃ x, x = b.num.natAbs * a.den := ⟨_, rfl⟩
  obtain ⟨dn, hdn⟩ : ∃ x, x = a.den * b.den := ⟨_, rfl⟩
  have HA : Hid (a = mkRat (sg (negQ a) xn) dn) := by unfold Hid; rw [hxn, hdn]; exact scale_left a b.den b.den_nz
  have HB : Hid (b = mkRat (sg (negQ b) yn) dn) := by unfold Hid; rw [hyn, hdn]; exact scale_right b a.den a.den_nz
  have hdd : dn ≠ 0 := by rw [hdn]; exact Nat.mul_ne_zero a.den_nz b.den_nz
  rw [← hxn] at HX2 m1
  rw [← hyn] at HY2 m2
  rw [← hdn] at HD2 m3
  have HDD := Hd hdd
  clear hxn hyn hdn hdd
  go_wp2_with fail
  refine And.intro HB7.out ⟨?_, ?_, ?_⟩
  rotate_left
  ·repeat (refine ⟨_, ?_, rfl, Or.inl ⟨by rfl, ?_⟩, ?_⟩; rotate_left; focus (intro W hW; replace hW := (bcell hW).1; go_simp; try with_reducible rfl); (try simp only [SQ]))
   exact rfl
  refine NoPanic.normal ?_
  by_cases hs : sa = sb
  ·have u1 : (sa == sb) = true := by rw [hs]; simp
   have HQ : Hid (mkRat (sg sa (xn + yn)) (dn) = a + b) := by
    unfold Hid
    have hA := HA.out
    have hB := HB.out
    rw [← HSA.out] at hA
    rw [← HSB.out, ← hs] at hB
    rw [← plus_eq sa _ _ _ HDD.out, ← hA, ← hB]
   clear hs
   go_wp2_with fail
   refine wp_chainF (l := [_, _, _, _, _, _, _, _]) (S := Below w7.heap.size w7) 7 [([0, 1, 2, 3, 5], 4), ([], 6)] [] (by kernel_rfl) (by kernel_rfl) (by kernel_rfl) rfl (Below.drew (Below.refl _ _)) ?_
   refine ⟨?_, _, ?_, rfl, ?_⟩
   rotate_left
   ·repeat (refine ⟨_, ?_, rfl, Or.inl ⟨by rfl, ?_⟩, ?_⟩; rotate_left; focus (intro W hW; replace hW := (bcell hW).1; go_simp; try with_reducible rfl); (try simp only [SQ]))
    exact rfl
   have HBd : Hid (Below w7.heap.size w7 w7.drew) := Below.drew (Below.refl _ _)
   go_wp2_with fail
   refine (rplus_calls _ _ _ (xn) (yn) (RN.of_below HX2.out HBd.out) (RN.of_below HY2.out HBd.out) (by omega) (by omega)).mono ?_
   rintro e w5 ⟨v, rfl, hv, hb⟩
   have HB5 := Hd (below_next HBd.out hb)
   have HV5 := Hd hv
   obtain ⟨A5, c5, l5', rfl, _, _, _⟩ := RN.opened hv
   clear hv hb
   go_wp2_with fail
   refine And.intro HB5.out ⟨_, _, rfl, rfl, ?_⟩
   go_wp2_with fail
   refine (rlowest_q _ _ _ sa (xn + yn) (dn) (a + b) HQ.out HV5.out (RN.of_below HD2.out HB5.out) (by have := wlen_add (xn) (yn); omega) (by omega) HDD.out).mono ?_
   rintro e w6 ⟨v, rfl, hv, hb⟩
   have HB6 := Hd (below_next HB5.out hb)
   obtain ⟨A7, n7, c7, A8, n8, c8, rfl, HV6⟩ := hv.opened
   have H6 := Hd (H7.out.step HB6.out)
   clear hv hb
   obtain ⟨e0, e1, e2⟩ := (H6.out.blk 0 rfl).c3
   obtain ⟨f0, f1, f2⟩ := (H6.out.blk 0 rfl).f3
   go_wp2_with fail
   refine And.intro HB6.out ⟨_, rfl, ?_⟩
   go_wp2_with fail
   refine NoPanic.normal ?_
   go_wp2_with fail
   exact end40 Tryz.results118 rfl (H6.out.blk 0 rfl) HV6.out (by omega) H6.out.2
  have u1 : (sa == sb) = false := by simpa using hs
  have HSN := Hd hs
  clear hs
  go_wp2_with fail
  refine (rorder_calls w7 _ _ (xn) (yn) HX2.out HY2.out (by omega) (by omega)).mono ?_
  rintro e w4 ⟨rfl, hb⟩
  have H4 := Hd (H7.out.step hb)
  have HX4 := Hd (RN.of_below HX2.out hb)
  have HY4 := Hd (RN.of_below HY2.out hb)
  have HD4 := Hd (RN.of_below HD2.out hb)
  obtain ⟨x0, x1, x2⟩ := (H4.out.blk 2 rfl).c3
  obtain ⟨y0, y1, y2⟩ := (H4.out.blk 1 rfl).c3
  have hlt0 := (H4.out.blk 0 rfl).lt
  have hlt1 := (H4.out.blk 1 rfl).lt
  have hlt2 := (H4.out.blk 2 rfl).lt
  clear hb
  by_cases hle : yn ≤ xn
  ·have u2 := cmpI_geq hle
   have HQ : Hid (mkRat (sg sa (xn - yn)) (dn) = a + b) := by
    unfold Hid
    have hA := HA.out
    have hB := HB.out
    rw [← HSA.out] at hA
    rw [← HSB.out] at hB
    rw [← plus_gt sa sb HSN.out _ _ _ HDD.out hle, ← hA, ← hB]
   go_wp2_with fail
   refine wp_chainF (l := [_, _, _, _, _, _, _, _]) (S := Below w4.heap.size w4) 7 [([0, 1, 2, 3, 5], 4), ([], 6)] [] (by kernel_rfl) (by kernel_rfl) (by kernel_rfl) rfl (Below.drew (Below.refl _ _)) ?_
   refine ⟨?_, _, ?_, rfl, ?_⟩
   rotate_left
   ·repeat (refine ⟨_, ?_, rfl, Or.inl ⟨by rfl, ?_⟩, ?_⟩; rotate_left; focus (intro W hW; replace hW := (bcell hW).1; go_simp; try with_reducible rfl); (try simp only [SQ]))
    exact rfl
   have HBd : Hid (Below w4.heap.size w4 w4.drew) := Below.drew (Below.refl _ _)
   go_wp2_with fail
   refine (rminus_calls _ _ _ (xn) (yn) (RN.of_below HX4.out HBd.out) (RN.of_below HY4.out HBd.out) (by omega) hle).mono ?_
   rintro e w5 ⟨v, rfl, hv, hb⟩
   have HB5 := Hd (below_next HBd.out hb)
   have HV5 := Hd hv
   obtain ⟨A5, c5, l5', rfl, _, _, _⟩ := RN.opened hv
   clear hv hb
   go_wp2_with fail
   refine And.intro HB5.out ⟨_, _, rfl, rfl, ?_⟩
   go_wp2_with fail
   refine (rlowest_q _ _ _ sa (xn - yn) (dn) (a + b) HQ.out HV5.out (RN.of_below HD4.out HB5.out) (by have := wlen_mono (Nat.sub_le (xn) (yn)); omega) (by omega) HDD.out).mono ?_
   rintro e w6 ⟨v, rfl, hv, hb⟩
   have HB6 := Hd (below_next HB5.out hb)
   obtain ⟨A7, n7, c7, A8, n8, c8, rfl, HV6⟩ := hv.opened
   have H6 := Hd (H4.out.step HB6.out)
   clear hv hb
   obtain ⟨e0, e1, e2⟩ := (H6.out.blk 0 rfl).c3
   obtain ⟨f0, f1, f2⟩ := (H6.out.blk 0 rfl).f3
   go_wp2_with fail
   refine And.intro HB6.out ⟨_, rfl, ?_⟩
   go_wp2_with fail
   refine NoPanic.normal ?_
   go_wp2_with fail
   exact end40 Tryz.results118 rfl (H6.out.blk 0 rfl) HV6.out (by omega) H6.out.2
  ·have u2 := cmpI_less (Nat.lt_of_not_le hle)
   have hle2 : xn ≤ yn := by omega
   have HQ : Hid (mkRat (sg sb (yn - xn)) (dn) = a + b) := by
    unfold Hid
    have hA := HA.out
    have hB := HB.out
    rw [← HSA.out] at hA
    rw [← HSB.out] at hB
    rw [← plus_lt sa sb HSN.out _ _ _ HDD.out hle2, ← hA, ← hB]
   go_wp2_with fail
   refine wp_chainF (l := [_, _, _, _, _, _, _, _]) (S := Below w4.heap.size w4) 7 [([0, 1, 2, 3, 5], 4), ([], 6)] [] (by kernel_rfl) (by kernel_rfl) (by kernel_rfl) rfl (Below.drew (Below.refl _ _)) ?_
   refine ⟨?_, _, ?_, rfl, ?_⟩
   rotate_left
   ·repeat (refine ⟨_, ?_, rfl, Or.inl ⟨by rfl, ?_⟩, ?_⟩; rotate_left; focus (intro W hW; replace hW := (bcell hW).1; go_simp; try with_reducible rfl); (try simp only [SQ]))
    exact rfl
   have HBd : Hid (Below w4.heap.size w4 w4.drew) := Below.drew (Below.refl _ _)
   go_wp2_with fail
   refine (rminus_calls _ _ _ (yn) (xn) (RN.of_below HY4.out HBd.out) (RN.of_below HX4.out HBd.out) (by omega) hle2).mono ?_
   rintro e w5 ⟨v, rfl, hv, hb⟩
   have HB5 := Hd (below_next HBd.out hb)
   have HV5 := Hd hv
   obtain ⟨A5, c5, l5', rfl, _, _, _⟩ := RN.opened hv
   clear hv hb
   go_wp2_with fail
   refine And.intro HB5.out ⟨_, _, rfl, rfl, ?_⟩
   go_wp2_with fail
   refine (rlowest_q _ _ _ sb (yn - xn) (dn) (a + b) HQ.out HV5.out (RN.of_below HD4.out HB5.out) (by have := wlen_mono (Nat.sub_le (yn) (xn)); omega) (by omega) HDD.out).mono ?_
   rintro e w6 ⟨v, rfl, hv, hb⟩
   have HB6 := Hd (below_next HB5.out hb)
   obtain ⟨A7, n7, c7, A8, n8, c8, rfl, HV6⟩ := hv.opened
   have H6 := Hd (H4.out.step HB6.out)
   clear hv hb
   obtain ⟨e0, e1, e2⟩ := (H6.out.blk 0 rfl).c3
   obtain ⟨f0, f1, f2⟩ := (H6.out.blk 0 rfl).f3
   go_wp2_with fail
   refine And.intro HB6.out ⟨_, rfl, ?_⟩
   go_wp2_with fail
   refine NoPanic.normal ?_
   go_wp2_with fail
   exact end40 Tryz.results118 rfl (H6.out.blk 0 rfl) HV6.out (by omega) H6.out.2
set_option maxHeartbeats 16000000 in
set_option maxRecDepth 100000 in
theorem radd_calls (w : World) (v v2 : Value) (f g : RawF) (h : FR w v f) (h2 : FR w v2 g) : Calls Tryz.prog 113 #[v, v2] w fun e w' => FPost w (capQ (fixQ f + fixQ g)) e w' := by
 obtain ⟨A1, k1, c1, A2, k2, c2, rfl, HF⟩ := h.opened
 obtain ⟨A3, k3, c3, A4, k4, c4, rfl, HG⟩ := h2.opened
 clear h h2
 go_enter Tryz.func113, Tryz.ntmps113
 go_wp2_with fail
 have H0 := Hd (HS.three (w := w) #[.bool f.neg, .slice A1 k1 c1, .slice A2 k2 c2] #[.bool g.neg, .slice A3 k3 c3, .slice A4 k4 c4] #[.bool false, .slice none 0 0, .slice none 0 0] 46 46 46)
 generalize ((w.alloc (.cells #[.bool f.neg, .slice A1 k1 c1, .slice A2 k2 c2] 46)).alloc (.cells #[.bool g.neg, .slice A3 k3 c3, .slice A4 k4 c4] 46)).alloc (.cells #[.bool false, .slice none 0 0, .slice none 0 0] 46) = W0 at *
 obtain ⟨x0, x1, x2⟩ := (H0.out.blk 2 rfl).c3
 obtain ⟨y0, y1, y2⟩ := (H0.out.blk 1 rfl).c3
 have hlt0 := (H0.out.blk 0 rfl).lt
 have hlt1 := (H0.out.blk 1 rfl).lt
 have hlt2 := (H0.out.blk 2 rfl).lt
 refine wp_chainF (l := [_, _, _, _, _, _]) (S := Below W0.heap.size W0) 5 [([0, 2], 1), ([], 3), ([], 4)] [] (by kernel_rfl) (by kernel_rfl) (by kernel_rfl) rfl (Below.drew (Below.refl _ _)) ?_
 refine ⟨?_, _, ?_, rfl, ?_⟩
 rotate_left
 ·repeat (refine ⟨_, ?_, rfl, Or.inl ⟨by rfl, ?_⟩, ?_⟩; rotate_left; focus (intro W hW; replace hW := (bcell hW).1; go_simp; try with_reducible rfl); (try simp only [SQ]))
  exact rfl
 have HB0 : Hid (Below W0.heap.size W0 W0.drew) := Below.drew (Below.refl _ _)
 have HB00 := Hd (below_next H0.out.2 HB0.out)
 go_wp2_with fail
 refine (rfix_calls _ _ f (HF.out.of_below HB00.out)).mono ?_
 rintro e w1 ⟨v, rfl, hv, hb⟩
 have HB1 := Hd (below_next HB0.out hb)
 have HB01 := Hd (below_next H0.out.2 HB1.out)
 obtain ⟨A5, n5, c5, A6, n6, c6, rfl, HV1⟩ := hv.opened
 clear hv hb
 go_wp2_with fail
 refine And.intro HB1.out ⟨_, _, rfl, rfl, ?_⟩
 go_wp2_with fail
 refine (rfix_calls _ _ g (HG.out.of_below HB01.out)).mono ?_
 rintro e w2 ⟨v, rfl, hv, hb⟩
 have HB2 := Hd (below_next HB1.out hb)
 have HV1' := Hd (HV1.out.of_below hb)
 obtain ⟨A7, n7, c7, A8, n8, c8, rfl, HV2⟩ := hv.opened
 clear hv hb
 go_wp2_with fail
 refine And.intro HB2.out ⟨_, _, rfl, rfl, ?_⟩
 go_wp2_with fail
 refine (rsum_calls _ _ _ _ _ HV1'.out HV2.out (by have := sizeQ_fix f; omega) (by have := sizeQ_fix g; omega)).mono ?_
 rintro e w3 ⟨v, rfl, hv, hb⟩
 have HB3 := Hd (below_next HB2.out hb)
 obtain ⟨A9, n9, c9, A10, n10, c10, rfl, HV3⟩ := hv.opened
 have H3 := Hd (H0.out.step HB3.out)
 clear hv hb
 obtain ⟨e0, e1, e2⟩ := (H3.out.blk 0 rfl).c3
 obtain ⟨f0, f1, f2⟩ := (H3.out.blk 0 rfl).f3
 go_wp2_with fail
 refine And.intro HB3.out ⟨_, rfl, ?_⟩
 go_wp2_with fail
 refine NoPanic.normal ?_
 go_wp2_with fail
 exact end40 Tryz.results113 rfl (H3.out.blk 0 rfl) HV3.out (by omega) H3.out.2
set_option maxHeartbeats 16000000 in
set_option maxRecDepth 100000 in
theorem rmul_calls (w : World) (v v2 : Value) (f g : RawF) (h : FR w v f) (h2 : FR w v2 g) : Calls Tryz.prog 65 #[v, v2] w fun e w' => FPost w (capQ (fixQ f * fixQ g)) e w' := by
 obtain ⟨A1, k1, c1, A2, k2, c2, rfl, HF⟩ := h.opened
 obtain ⟨A3, k3, c3, A4, k4, c4, rfl, HG⟩ := h2.opened
 clear h h2
 go_enter Tryz.func65, Tryz.ntmps65
 go_wp2_with fail
 have H0 := Hd (HS.three (w := w) #[.bool f.neg, .slice A1 k1 c1, .slice A2 k2 c2] #[.bool g.neg, .slice A3 k3 c3, .slice A4 k4 c4] #[.bool false, .slice none 0 0, .slice none 0 0] 46 46 46)
 generalize ((w.alloc (.cells #[.bool f.neg, .slice A1 k1 c1, .slice A2 k2 c2] 46)).alloc (.cells #[.bool g.neg, .slice A3 k3 c3, .slice A4 k4 c4] 46)).alloc (.cells #[.bool false, .slice none 0 0, .slice none 0 0] 46) = W0 at *
 obtain ⟨x0, x1, x2⟩ := (H0.out.blk 2 rfl).c3
 obtain ⟨y0, y1, y2⟩ := (H0.out.blk 1 rfl).c3
 have hlt0 := (H0.out.blk 0 rfl).lt
 have hlt1 := (H0.out.blk 1 rfl).lt
 have hlt2 := (H0.out.blk 2 rfl).lt
 refine wp_chainF (l := [_, _, _, _, _, _]) (S := Below W0.heap.size W0) 5 [([0, 2], 1), ([], 3), ([], 4)] [] (by kernel_rfl) (by kernel_rfl) (by kernel_rfl) rfl (Below.drew (Below.refl _ _)) ?_
 refine ⟨?_, _, ?_, rfl, ?_⟩
 rotate_left
 ·repeat (refine ⟨_, ?_, rfl, Or.inl ⟨by rfl, ?_⟩, ?_⟩; rotate_left; focus (intro W hW; replace hW := (bcell hW).1; go_simp; try with_reducible rfl); (try simp only [SQ]))
  exact rfl
 have HB0 : Hid (Below W0.heap.size W0 W0.drew) := Below.drew (Below.refl _ _)
 have HB00 := Hd (below_next H0.out.2 HB0.out)
 go_wp2_with fail
 refine (rfix_calls _ _ f (HF.out.of_below HB00.out)).mono ?_
 rintro e w1 ⟨v, rfl, hv, hb⟩
 have HB1 := Hd (below_next HB0.out hb)
 have HB01 := Hd (below_next H0.out.2 HB1.out)
 obtain ⟨A5, n5, c5, A6, n6, c6, rfl, HV1⟩ := hv.opened
 clear hv hb
 go_wp2_with fail
 refine And.intro HB1.out ⟨_, _, rfl, rfl, ?_⟩
 go_wp2_with fail
 refine (rfix_calls _ _ g (HG.out.of_below HB01.out)).mono ?_
 rintro e w2 ⟨v, rfl, hv, hb⟩
 have HB2 := Hd (below_next HB1.out hb)
 have HV1' := Hd (HV1.out.of_below hb)
 obtain ⟨A7, n7, c7, A8, n8, c8, rfl, HV2⟩ := hv.opened
 clear hv hb
 go_wp2_with fail
 refine And.intro HB2.out ⟨_, _, rfl, rfl, ?_⟩
 go_wp2_with fail
 refine (rproduct_calls _ _ _ _ _ HV1'.out HV2.out (by have := sizeQ_fix f; omega) (by have := sizeQ_fix g; omega)).mono ?_
 rintro e w3 ⟨v, rfl, hv, hb⟩
 have HB3 := Hd (below_next HB2.out hb)
 obtain ⟨A9, n9, c9, A10, n10, c10, rfl, HV3⟩ := hv.opened
 have H3 := Hd (H0.out.step HB3.out)
 clear hv hb
 obtain ⟨e0, e1, e2⟩ := (H3.out.blk 0 rfl).c3
 obtain ⟨f0, f1, f2⟩ := (H3.out.blk 0 rfl).f3
 go_wp2_with fail
 refine And.intro HB3.out ⟨_, rfl, ?_⟩
 go_wp2_with fail
 refine NoPanic.normal ?_
 go_wp2_with fail
 exact end40 Tryz.results65 rfl (H3.out.blk 0 rfl) HV3.out (by omega) H3.out.2
theorem signQ_num {q : Rat} (h : wlen q.num.natAbs = 0) : q.num = 0 := by
 rcases Nat.eq_zero_or_pos q.num.natAbs with h0 | h0
 ·exact Int.natAbs_eq_zero.1 h0
 ·exact absurd h (Nat.ne_of_gt (wlen_pos.2 (Nat.ne_of_gt h0)))
theorem FQ.len {w : World} {A1 A2 : Option Addr} {n1 c1 n2 c2 : Nat} {s : Bool} {q : Rat} (h : FQ w (.agg #[.bool s, .slice A1 n1 c1, .slice A2 n2 c2]) q) : n1 = wlen q.num.natAbs := by
 obtain ⟨_, h1, _⟩ := FQ.parts h
 obtain ⟨A, c, xs, e, _, hx, _⟩ := RN.opened h1
 injection e with _ e _
 rw [e, hx.out]; rfl
set_option maxHeartbeats 16000000 in
set_option maxRecDepth 100000 in
theorem rsign_calls (w : World) (v : Value) (f : RawF) (h : FR w v f) : Calls Tryz.prog 49 #[v] w fun e w' => IPost w (signQ (fixQ f)) e w' := by
 obtain ⟨A1, n1, c1, A2, n2, c2, rfl, H⟩ := h.opened
 clear h
 obtain ⟨q, hq⟩ : ∃ q, q = fixQ f := ⟨_, rfl⟩
 rw [← hq]
 have HQF := Hd hq
 clear hq
 go_enter Tryz.func49, Tryz.ntmps49
 go_wp2_with fail
 have H0 := Hd (HS.one (w := w) #[.bool f.neg, .slice A1 n1 c1, .slice A2 n2 c2] 46)
 generalize w.alloc (.cells #[.bool f.neg, .slice A1 n1 c1, .slice A2 n2 c2] 46) = W0 at *
 refine (rfix_calls _ _ f (H.out.of_below H0.out.2)).mono ?_
 rintro e w1 ⟨v, rfl, hv, hb⟩
 rw [← HQF.out] at hv
 obtain ⟨A5, n5, c5, A6, n6, c6, rfl, HV⟩ := hv.opened
 have hl5 := FQ.len HV.out
 have H1 := Hd (H0.out.step hb)
 obtain ⟨s, hs⟩ : ∃ s, s = negQ q := ⟨_, rfl⟩
 rw [← hs]
 have HSQ := Hd hs
 clear hb hv hs HV
 obtain ⟨e0, e1, e2⟩ := (H1.out.blk 0 rfl).c3
 obtain ⟨f0, f1, f2⟩ := (H1.out.blk 0 rfl).f3
 by_cases h0 : n5 = 0
 ·have q0 := eqb0 h0
  have HR : Hid (signQ q = 0) := by unfold Hid signQ; rw [if_pos (signQ_num (by rw [← hl5]; exact h0))]
  clear hl5 h0
  go_wp2_with fail
  go_ret
  exact ⟨by rw [HR.out]; rfl, below_put3 H1.out.2 (Nat.le_refl _) _ _ _⟩
 ·have q0 := neb0 h0
  have hn0 : q.num ≠ 0 := fun h => h0 (by rw [hl5, h]; rfl)
  cases s with
  | true =>
   have HR : Hid (signQ q = -1) := by
    unfold Hid signQ
    rw [if_neg hn0, if_pos]
    have := HSQ.out
    unfold negQ at this
    exact of_decide_eq_true this.symm
   clear hl5 h0 hn0
   go_wp2_with fail
   go_ret
   exact ⟨by rw [HR.out]; rfl, below_put3 H1.out.2 (Nat.le_refl _) _ _ _⟩
  | false =>
   have HR : Hid (signQ q = 1) := by
    unfold Hid signQ
    rw [if_neg hn0, if_neg]
    have := HSQ.out
    unfold negQ at this
    exact of_decide_eq_false this.symm
   clear hl5 h0 hn0
   go_wp2_with fail
   go_ret
   exact ⟨by rw [HR.out]; rfl, below_put3 H1.out.2 (Nat.le_refl _) _ _ _⟩
set_option maxHeartbeats 16000000 in
set_option maxRecDepth 100000 in
theorem rint_calls (w : World) (n : Int) (h0 : -9223372036854775808 ≤ n) (h1 : n < 9223372036854775808) :
  Calls Tryz.prog 139 #[.int .i64 n] w fun e w' => FPost w (n : Rat) e w' := by
 have HCAP : Hid (capQ (mkRat n 1) = (n : Rat)) := by
  unfold Hid
  have e : mkRat n 1 = (n : Rat) := by simp [Rat.mkRat_one]
  rw [e]
  refine fit_cap (a := 2) ⟨?_, ?_⟩ (by decide)
  ·show wlen n.natAbs ≤ 2
   exact dg_len_two.2 (by omega)
  ·show wlen 1 ≤ 2
   decide
 go_enter Tryz.func139, Tryz.ntmps139
 by_cases hn : n < 0
 ·have t1 : decide (n < 0) = true := decide_eq_true hn
  obtain ⟨k, hk⟩ : ∃ k : Nat, n = -((k : Int) + 1) := ⟨(-(n + 1)).toNat, by omega⟩
  have f1 : IntKind.i64.wrap (n + 1) = -(k : Int) := by rw [IntWalk.i64_in _ (by omega)]; omega
  have f2 : IntKind.i64.wrap (k : Int) = (k : Int) := IntWalk.i64_in _ (by omega)
  have f3 : IntKind.u64.wrap (k : Int) = (k : Int) := IntWalk.u64_in _ (by omega)
  have f4 : IntKind.u64.wrap ((k : Int) + 1) = ((k + 1 : Nat) : Int) := by rw [IntWalk.u64_in _ (by omega)]; omega
  have hm : k + 1 < 18446744073709551616 := by omega
  obtain ⟨m, hmk⟩ : ∃ m, k + 1 = m := ⟨_, rfl⟩
  rw [hmk] at f4 hm
  have HK : Hid (sg true m = n) := by unfold Hid sg; rw [if_pos rfl, hk, ← hmk]; omega
  have hw2 : wlen m ≤ 2 := dg_len_two.2 hm
  clear hk hmk hn
  go_wp2_with fail
  have H0 := Hd (HS.one (w := w) #[.bool false, .slice none 0 0, .slice none 0 0] 46)
  generalize w.alloc (.cells #[.bool false, .slice none 0 0, .slice none 0 0] 46) = W0 at *
  refine (rwide_calls W0 m hm).mono ?_
  rintro e w1 ⟨v, rfl, hv, hb⟩
  have H1 := Hd (H0.out.step hb)
  have HV := Hd hv
  obtain ⟨A5, c5, l5', rfl, _, _, _⟩ := RN.opened hv
  clear hb hv
  go_wp2_with fail
  refine (rone_calls w1).mono ?_
  rintro e w2 ⟨g, rfl, hg, hb⟩
  have H2 := Hd (H1.out.step hb)
  have HV2 := Hd (HV.out.of_below hb)
  have HG := Hd hg
  clear hb hg
  go_wp2_with fail
  refine (rlowest_q w2 _ _ true m 1 (mkRat n 1) (by rw [HK.out]) HV2.out HG.out (by omega) (by decide) (by decide)).mono ?_
  rintro e w3 ⟨v, rfl, hv, hb⟩
  rw [HCAP.out] at hv
  obtain ⟨A7, n7, c7, A8, n8, c8, rfl, HV3⟩ := hv.opened
  have H3 := Hd (H2.out.step hb)
  clear hb hv
  obtain ⟨e0, e1, e2⟩ := (H3.out.blk 0 rfl).c3
  obtain ⟨f0, f1, f2⟩ := (H3.out.blk 0 rfl).f3
  go_wp2_with fail
  exact end40 Tryz.results139 rfl (H3.out.blk 0 rfl) HV3.out (Nat.le_refl _) H3.out.2
 ·have t1 : decide (n < 0) = false := decide_eq_false hn
  obtain ⟨m, hm⟩ : ∃ m : Nat, n = (m : Int) := ⟨n.toNat, by omega⟩
  subst hm
  have f1 : IntKind.u64.wrap (m : Int) = (m : Int) := IntWalk.u64_in _ (by omega)
  have hw2 : wlen m ≤ 2 := dg_len_two.2 (by omega)
  have hm64 : m < 18446744073709551616 := by omega
  clear hn
  go_wp2_with fail
  have H0 := Hd (HS.one (w := w) #[.bool false, .slice none 0 0, .slice none 0 0] 46)
  generalize w.alloc (.cells #[.bool false, .slice none 0 0, .slice none 0 0] 46) = W0 at *
  refine (rwide_calls W0 m hm64).mono ?_
  rintro e w1 ⟨v, rfl, hv, hb⟩
  have H1 := Hd (H0.out.step hb)
  have HV := Hd hv
  obtain ⟨A5, c5, l5', rfl, _, _, _⟩ := RN.opened hv
  clear hb hv
  go_wp2_with fail
  refine (rone_calls w1).mono ?_
  rintro e w2 ⟨g, rfl, hg, hb⟩
  have H2 := Hd (H1.out.step hb)
  have HV2 := Hd (HV.out.of_below hb)
  have HG := Hd hg
  clear hb hg
  go_wp2_with fail
  refine (rlowest_q w2 _ _ false m 1 (mkRat m 1) rfl HV2.out HG.out (by omega) (by decide) (by decide)).mono ?_
  rintro e w3 ⟨v, rfl, hv, hb⟩
  rw [HCAP.out] at hv
  obtain ⟨A7, n7, c7, A8, n8, c8, rfl, HV3⟩ := hv.opened
  have H3 := Hd (H2.out.step hb)
  clear hb hv
  obtain ⟨e0, e1, e2⟩ := (H3.out.blk 0 rfl).c3
  obtain ⟨f0, f1, f2⟩ := (H3.out.blk 0 rfl).f3
  go_wp2_with fail
  exact end40 Tryz.results139 rfl (H3.out.blk 0 rfl) HV3.out (Nat.le_refl _) H3.out.2
end Go.Proofs.YtfhambfgjigneaaGreat

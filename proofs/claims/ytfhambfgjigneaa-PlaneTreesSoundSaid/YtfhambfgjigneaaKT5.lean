/- Contracts of the Go functions that the statement reaches, and plain laws over them. -/
import Derived.Test.YtfhambfgjigneaaKT4
import Derived.Test.YtfhambfgjigneaaKT1
import Derived.Test.YtfhambfgjigneaaKT3
set_option linter.unusedVariables false
set_option linter.unusedSimpArgs false
set_option maxHeartbeats 64000000
set_option maxRecDepth 100000
namespace Go.Proofs.Ytfhambfgjigneaa
open Go.RowKit
noncomputable def redStep (cost out : List Rat) (b : Int) (row : List Rat) : List Rat := if cost.getD b.toNat 0 = 0 then out else takeQ (cost.getD b.toNat 0) out row
noncomputable def redN (cost : List Rat) (base : List Int) (rows : List (List Rat)) : Nat → List Rat
 | 0 => cost
 | i + 1 => redStep cost (redN cost base rows i) (base.getD i 0) (rows.getD i [])
noncomputable def reducedQ (cost : List Rat) (T : Tab) : List Rat := redN cost T.base T.rows T.rows.length
theorem redN_length {cost : List Rat} {base : List Int} {rows : List (List Rat)} (h : ∀ r ∈ rows, r.length = cost.length) : ∀ i, i ≤ rows.length → (redN cost base rows i).length = cost.length
 | 0, _ => rfl
 | i + 1, hi => by
  have h1 := redN_length h i (by omega) (base := base)
  have h2 : (rows.getD i []).length = cost.length := by
   rw [gdd, geq (by omega)]
   exact h _ (List.getElem_mem _)
  unfold redN redStep
  split
  ·exact h1
  ·rw [takeQ_length (by rw [h1, h2]), h1]
theorem getD_at {α : Type} {l : List α} {i : Nat} {x d : α} (h : l[i]? = some x) : l.getD i d = x := by rw [gdd, h]; rfl
theorem View.key {base : Nat} {H : Nat → Option (List Rat)} {I : Nat → Option (List Int)} {w : World} {g k : Nat} {qs : List Rat} (h : View base H I w) (hg : H g = some qs) (hk : w.heap.size ≤ k) : g ≠ k := by have := h.lt hg; omega
theorem below_put3' {B : Nat} {w w1 : World} (h : Below B w w1) {g : Nat} (ha : B ≤ g) (o : Nat) (x y z : Value) : Below B w (put3 w1 g o x y z) :=
 Below.setCell (Below.setCell (Below.setCell h (p := ⟨g, o, none⟩) ha x) (p := ⟨g, o + 1, none⟩) ha y) (p := ⟨g, o + 2, none⟩) ha z
def RedPost (base : Nat) (H : Nat → Option (List Rat)) (I : Nat → Option (List Int)) (L : List Rat) (w : World) (e : Ending) (w' : World) : Prop := ∃ go co, e = .returned (.slice (some ⟨go, 0, none⟩) L.length co) ∧ w.heap.size ≤ go ∧ go < w'.heap.size ∧ View base (upd H go L) I w' ∧ Below w.heap.size w w'
theorem treduced_calls (base : Nat) (H : Nat → Option (List Rat)) (I : Nat → Option (List Int)) (w : World) (gt : Nat) (S : Shape) (gs : List (Nat × Nat)) (tn : List Bool) (T : Tab) (gc cc : Nat) (cost : List Rat) (hv : View base H I w) (hT : TabW w gt S gs tn) (hV : TabV H I S gs T) (hc : H gc = some cost) (hcl : cost.length = S.width) (hb : ∀ b ∈ T.base, 0 ≤ b ∧ b < (cost.length : Int)) (hp : 0 < cost.length) (hll : cost.length ≤ 1000000) (hml : T.rows.length ≤ 1000000) :
  Calls Try.prog 104 #[.pointer (some ⟨gt, 0, none⟩), .slice (some ⟨gc, 0, none⟩) cost.length cc] w fun e w' => RedPost base H I (reducedQ cost T) w e w' := by
 have HV := Hd hv
 have HTV := Hd hV
 have HC := Hd hc
 have HBB := Hd hb
 obtain ⟨p0, p1, p2, p3, vRows, vRight, vBase, vPlus, vMinus, real, width, vId, vTurned⟩ := S
 obtain ⟨Ab, cb, eb⟩ := hV.base.slice
 obtain rfl : vBase = _ := eb
 obtain ⟨AR, cR, eR⟩ := hT.2.1.slice
 obtain rfl : vRows = _ := eR
 have HT := Hd hT
 have HBS : Hid (Blk w gt 121 #[p0, p1, p2, p3, .slice AR gs.length cR, vRight, .slice Ab T.base.length cb, vPlus, vMinus, .int .i64 (real : Int), .int .i64 (width : Int), vId, vTurned]) := hT.1
 have hwd : cost.length = width := hcl
 have HRL : Hid (∀ r ∈ T.rows, r.length = cost.length) := fun r hr => by
  obtain ⟨i, hi⟩ := List.getElem?_of_mem hr
  have hil := (List.getElem?_eq_some_iff.1 hi).1
  have := (hV.row i _ r (geq (by rw [hV.len]; exact hil)) hi).2
  rw [this, hcl]
 have hbl : T.base.length = T.rows.length := hV.baseLen
 have hgl : gs.length = T.rows.length := hV.len
 have HBL := Hd hbl
 have HGL := Hd hgl
 have HWD := Hd hwd
 clear hv hT hV hc hcl hb hwd hbl hgl
 obtain ⟨m, hm⟩ : ∃ m, m = T.rows.length := ⟨_, rfl⟩
 have HM := Hd hm
 obtain ⟨x0, x4, x5, x6, x7, x8, x9, x10, x11, x12⟩ := HBS.out.c13
 have hlt := HBS.out.lt
 go_enter Try.func104, Try.ntmps104
 go_wp2_with (at_builtin; refine wpl_copyQ rfl (.const (.slice none 0 0)) (.tmp 10) rfl rfl rfl rfl (HV.out.frac _ _ HC.out).2.2 hp (by omega) ?_; intro go co W1 hgo hgo2 hrv hbl; have HGO := Hd hgo; have HGO2 := Hd hgo2; have HRV := Hd hrv; have HB1 := Hd hbl; obtain ⟨x0, x4, x5, x6, x7, x8, x9, x10, x11, x12⟩ := (HBS.out.below hbl HBS.out.lt).c13; have hlt := (HBS.out.below hbl HBS.out.lt).lt; clear hgo hgo2 hrv hbl)
 clear x0 x4 x5 x6 x7 x8 x9 x10 x11 x12 hlt
 obtain ⟨rN, hrN⟩ : ∃ f, f = redN cost T.base T.rows := ⟨_, rfl⟩
 have HRN := Hd hrN
 have HNL : Hid (∀ i, i ≤ T.rows.length → (rN i).length = cost.length) := by unfold Hid; rw [hrN]; exact redN_length HRL.out
 have HN0 : Hid (rN 0 = cost) := by unfold Hid; rw [hrN]; rfl
 have HGK : Hid (H go = none) := by
  unfold Hid
  cases e : H go with
  | none => rfl
  | some z => exact absurd (HV.out.lt e) (by have := HGO.out; omega)
 have HSC : Hid (∀ q ∈ cost, Small q) := (HV.out.frac _ _ HC.out).2.1
 have HV1 : Hid (View base (upd H go (rN 0)) I W1) := by
  unfold Hid
  rw [HN0.out]
  exact (HV.out.below HB1.out).add HRV.out (Nat.le_trans HV.out.size HGO.out) HSC.out
 clear hrN hm
 go_loopw [17] (fun vi wr => ∃ i : Nat, i ≤ T.base.length ∧ vi = .int .i64 (i : Int) ∧ View base (upd H go (rN i)) I wr ∧ Below w.heap.size w wr) (fun vi _ => T.base.length - (intOf vi).toNat)
 case atStart => exact ⟨0, Nat.zero_le _, rfl, HV1.out, HB1.out⟩
 case round =>
  obtain ⟨i, hi, rfl, hv, hbl⟩ := hrel
  have HVr := Hd hv
  have HBr := Hd hbl
  clear hv hbl HV1 HB1 HRV HGO2
  by_cases hlt : i < T.base.length
  ·have him : i < T.rows.length := by have := HBL.out; omega
   obtain ⟨b, hb⟩ : ∃ x, T.base[i]? = some x := ⟨T.base[i], geq hlt⟩
   obtain ⟨row, hrow⟩ : ∃ x, T.rows[i]? = some x := ⟨T.rows[i], geq him⟩
   obtain ⟨⟨gi, ci⟩, hgi⟩ : ∃ x, gs[i]? = some x := ⟨gs[i]'(by have := HGL.out; omega), geq _⟩
   have hbr := HBB.out b (mog hb)
   obtain ⟨n, rfl⟩ : ∃ n : Nat, b = n := ⟨b.toNat, by omega⟩
   obtain ⟨q, hq⟩ : ∃ x, cost[n]? = some x := ⟨cost[n]'(by omega), geq _⟩
   obtain ⟨gb, rfl, hgb⟩ := HTV.out.base.at_ (by show 0 < T.base.length; omega)
   obtain ⟨gR, rfl, hgR, hcR⟩ := (HT.out.below HBr.out).2.1.at_ hgi
   have HROW := Hd (HTV.out.row i _ row hgi hrow).1
   have HRWL : Hid (row.length = cost.length) := HRL.out row (mog hrow)
   have hgne : gc ≠ go := HV.out.key HC.out HGO.out
   have HKC : Hid (upd H go (rN i) gc = some cost) := by unfold Hid; rw [upd_ne hgne]; exact HC.out
   have HKR : Hid (upd H go (rN i) gi = some row) := by unfold Hid; rw [upd_ne (HV.out.key HROW.out HGO.out)]; exact HROW.out
   have HKO : Hid (upd H go (rN i) go = some (rN i)) := upd_self _ _ _
   have HNS : Hid (rN (i + 1) = if q = 0 then rN i else takeQ q (rN i) row) := by
    unfold Hid
    rw [HRN.out]
    show redStep cost (redN cost T.base T.rows i) (T.base.getD i 0) (T.rows.getD i []) = _
    rw [getD_at hb, getD_at hrow]
    unfold redStep
    rw [Int.toNat_natCast, getD_at hq]
   have HSQ : Hid (Small q) := HSC.out q (mog hq)
   have HQ := Hd hq
   have HHB := Hd hgb
   obtain ⟨k0, _, _⟩ := HVr.out.iat hgb hb
   have hgbl := (HVr.out.iat hgb hb).2.1
   obtain ⟨A1, n1, c1, A2, n2, c2, q0, q1, q2, HFQ⟩ := HVr.out.at_ HKC.out hq
   have hgcl := HVr.out.lt HKC.out
   obtain ⟨x0, x4, x5, x6, x7, x8, x9, x10, x11, x12⟩ := (HBS.out.below HBr.out HBS.out.lt).c13
   have hltt := (HBS.out.below HBr.out HBS.out.lt).lt
   have m1 : (i : Int) < (T.base.length : Int) := by omega
   have m2 : (n : Int) < (cost.length : Int) := hbr.2
   have m3 : (i : Int).toNat = i := by omega
   have m4 : (0 : Int) ≤ (i : Int) := by omega
   have m5 : (n : Int).toNat = n := by omega
   have m6 : (0 : Int) ≤ (n : Int) := by omega
   have m7 : (i : Int) < (gs.length : Int) := by have := HGL.out; omega
   clear hb hrow hgi hq hgb hbr hgne
   go_wp2_with fail
   refine (sgn_calls _ _ (rawQ q) (FR.of_fq HFQ.out HSQ.out)).mono ?_
   rintro e w2 ⟨rfl, hb⟩
   rw [fixQ_raw _ HSQ.out]
   have HV2 := Hd (HVr.out.below hb)
   have HB2 := Hd (below_next HBr.out hb)
   have k9 : w2.cell? ⟨gR, i, none⟩ = some (.slice (some ⟨gi, 0, none⟩) width ci) := by rw [(bcell hb).1 gR _ hgR]; exact hcR
   have hgR2 : gR < w2.heap.size := Nat.lt_of_lt_of_le hgR hb.size
   clear hb x0 x4 x5 x6 x7 x8 x9 x10 x11 x12 hltt q0 q1 q2 k0 hcR hgR
   obtain ⟨x0, x4, x5, x6, x7, x8, x9, x10, x11, x12⟩ := (HBS.out.below HB2.out HBS.out.lt).c13
   have hltt := (HBS.out.below HB2.out HBS.out.lt).lt
   by_cases qz : q = 0
   ·have u : (signQ q == 0) = true := beqI' (signQ_zero_iff.2 qz)
    have HNX : Hid (rN (i + 1) = rN i) := by unfold Hid; rw [HNS.out, if_pos qz]
    clear qz
    go_wp2_with fail
    go_roundw
    case rel => exact ⟨i + 1, by omega, by go_num, by rw [HNX.out]; exact HV2.out, HB2.out⟩
    case measure => simp [intOf]; omega
   have u : (signQ q == 0) = false := bneI' fun e => qz (signQ_zero_iff.1 e)
   have HNX : Hid (rN (i + 1) = takeQ q (rN i) row) := by unfold Hid; rw [HNS.out, if_neg qz]
   clear qz
   go_wp2_with fail
   obtain ⟨L, hL⟩ : ∃ L, L = rN i := ⟨_, rfl⟩
   have HLL : Hid (L.length = cost.length) := by unfold Hid; rw [hL]; exact HNL.out i (by have := HBL.out; omega)
   rw [← hL] at HV2 HNX HKO
   have HLN : Hid (row.length = L.length) := by unfold Hid; rw [HRWL.out, HLL.out]
   have HTL : Hid ((takeQ q L row).length = L.length) := takeQ_length HLN.out
   have HWL : Hid (width = L.length) := by unfold Hid; rw [HLL.out, HWD.out]
   clear hL x0 x4 x5 x6 x7 x8 x9 x10 x11 x12 hltt k9 hgR2
   obtain ⟨wo, rfl⟩ : ∃ wo, wo = wr := ⟨_, rfl⟩
   go_loopw [36] (fun vi wr => ∃ j : Nat, j ≤ width ∧ vi = .int .i64 (j : Int) ∧ View base (upd H go (mix (takeQ q L row) L j)) I wr ∧ Below w.heap.size w wr) (fun vi _ => width - (intOf vi).toNat)
   case atStart => exact ⟨0, Nat.zero_le _, rfl, by rw [mix_zero]; exact HV2.out, HB2.out⟩
   case round =>
    obtain ⟨j, hj, rfl, hv, hbl⟩ := hrel
    have HVj := Hd hv
    have HBj := Hd hbl
    clear hv hbl HV2 HB2
    by_cases hjt : j < width
    ·have hjl : j < L.length := by have := HWL.out; omega
     obtain ⟨l, hl⟩ : ∃ x, L[j]? = some x := ⟨L[j], geq hjl⟩
     obtain ⟨r, hr⟩ : ∃ x, row[j]? = some x := ⟨row[j]'(by rw [HLN.out]; exact hjl), geq _⟩
     have HUR : Hid (upd H go (mix (takeQ q L row) L j) gi = some row) := by unfold Hid; rw [upd_ne (HV.out.key HROW.out HGO.out)]; exact HROW.out
     have HUC : Hid (upd H go (mix (takeQ q L row) L j) gc = some cost) := by unfold Hid; rw [upd_ne (HV.out.key HC.out HGO.out)]; exact HC.out
     have HUL : Hid (upd H go (mix (takeQ q L row) L j) go = some (mix (takeQ q L row) L j)) := upd_self _ _ _
     have HML := Hd (mix_at HTL.out hl)
     have HTI := Hd (takeQ_at (by_ := q) hl hr)
     have HSR : Hid (Small r) := HVj.out.small HUR.out hr
     have HSL : Hid (Small l) := HVj.out.small HUL.out HML.out
     have HLI := Hd hl
     have HMN : Hid (j < (mix (takeQ q L row) L j).length) := by unfold Hid; rw [mix_length HTL.out]; exact hjl
     obtain ⟨A3, n3, c3, A4, n4, c4, k0, k1, k2, HFR⟩ := HVj.out.at_ HUR.out hr
     have hgr := HVj.out.lt HUR.out
     have mj1 : (j : Int) < (width : Int) := by omega
     have mj2 : (j : Int) < (cost.length : Int) := by have := HWD.out; omega
     have mj3 : (j : Int).toNat = j := by omega
     have mj4 : (0 : Int) ≤ (j : Int) := by omega
     clear hl hr
     go_wp2_with fail
     have hbn := below_new wr (.cells #[.bool (negQ r), .slice A3 n3 c3, .slice A4 n4 c4] 40)
     have HV1 := Hd (HVj.out.below hbn)
     have HB1 := Hd (below_next HBj.out hbn)
     have HR1 := Hd (HFR.out.of_below hbn)
     have HY1 := Hd (Blk.new wr 40 #[.bool (negQ r), .slice A3 n3 c3, .slice A4 n4 c4])
     obtain ⟨g7, hg7⟩ : ∃ g, g = wr.heap.size := ⟨_, rfl⟩
     rw [← hg7] at HY1 ⊢
     generalize wr.alloc (.cells #[.bool (negQ r), .slice A3 n3 c3, .slice A4 n4 c4] 40) = W1 at *
     clear hg7 hbn k0 k1 k2 hgr
     refine (sgn_calls _ _ (rawQ r) (FR.of_fq HR1.out HSR.out)).mono ?_
     rintro e w4 ⟨rfl, hb⟩
     rw [fixQ_raw _ HSR.out]
     have HV4 := Hd (HV1.out.below hb)
     have HB4 := Hd (below_next HB1.out hb)
     have HR4 := Hd (HR1.out.of_below hb)
     have HY4 := Hd (HY1.out.below hb HY1.out.lt)
     clear hb
     by_cases rz : r = 0
     ·have u2 : (signQ r != 0) = false := beqI (signQ_zero_iff.2 rz)
      have HMX : Hid (mix (takeQ q L row) L (j + 1) = mix (takeQ q L row) L j) := mix_skip HTL.out (by rw [HTI.out]; unfold takeE; rw [if_pos rz]) HLI.out
      clear rz
      go_wp2_with fail
      go_roundw
      case rel => exact ⟨j + 1, by omega, by go_num, by rw [HMX.out]; exact HV4.out, HB4.out⟩
      case measure => simp [intOf]; omega
     ·have u2 : (signQ r != 0) = true := bneI fun e => rz (signQ_zero_iff.1 e)
      have HMX : Hid ((mix (takeQ q L row) L j).set j (subQ l (mulQ q r)) = mix (takeQ q L row) L (j + 1)) := mix_set HTL.out (by rw [HTI.out]; unfold takeE; rw [if_neg rz])
      clear rz
      obtain ⟨A5, n5, c5, A6, n6, c6, k0, k1, k2, HFL⟩ := HV4.out.at_ HUL.out HML.out
      have hgl := HV4.out.lt HUL.out
      obtain ⟨A7, n7, c7, A8, n8, c8, l0, l1, l2, HFC⟩ := HV4.out.at_ HUC.out HQ.out
      have hgc := HV4.out.lt HUC.out
      obtain ⟨y0, y1, y2⟩ := HY4.out.c3
      have hly := HY4.out.lt
      go_wp2_with fail
      refine wp_chainF (l := [_, _, _, _, _, _, _, _, _, _, _, _, _, _, _]) (S := Below w4.heap.size w4) 13 [([0, 1, 2, 3, 4, 5, 6, 7, 8, 9, 10], 11), ([], 12)] [] (by kernel_rfl) (by kernel_rfl) (by kernel_rfl) rfl Bd ?_
      refine ⟨?_, _, ?_, rfl, ?_⟩
      rotate_left
      ·repeat (refine pu ?_; (try simp only [SQ]))
       exact rfl
      have D0 : Hid (Below w4.heap.size w4 w4.drew) := Bd
      go_wp2_with fail
      refine (fmul_calls _ _ _ (rawQ q) (rawQ r) (FR.of_fq (HFC.out.of_below D0.out) HSQ.out) (FR.of_fq (HR4.out.of_below D0.out) HSR.out)).mono ?_
      rintro e w5 ⟨v, rfl, hv, hb⟩
      rw [fixQ_raw _ HSQ.out, fixQ_raw _ HSR.out] at hv
      have D5 := Hd (below_next D0.out hb)
      have HM5 := Hd hv
      clear hv hb
      go_wp2_with fail
      refine And.intro D5.out ⟨_, _, rfl, rfl, ?_⟩
      go_wp2_with fail
      refine (fsub_calls _ _ _ (rawQ l) (rawQ (capQ (q * r))) (FR.of_fq (HFL.out.of_below D5.out) HSL.out) (FR.of_fq HM5.out (small_cap _))).mono ?_
      rintro e w6 ⟨v, rfl, hv, hb⟩
      rw [fixQ_raw _ HSL.out, fixQ_raw _ (small_cap _)] at hv
      obtain ⟨D7, n9, c9, D8, n10, c10, rfl, HF6⟩ := hv.opened
      have D6 := Hd (below_next D5.out hb)
      have HV6 := Hd (HV4.out.below D6.out)
      have HB6 := Hd (below_next HB4.out D6.out)
      clear hv hb
      go_wp2_with fail
      refine And.intro D6.out ⟨_, rfl, ?_⟩
      have f0 := HV6.out.free HUL.out (j * 3)
      have f1 := HV6.out.free HUL.out (j * 3 + 1)
      have f2 := HV6.out.free HUL.out (j * 3 + 2)
      have j0 : w6.cell? ⟨go, j * 3, none⟩ = _ := ((bcell D6.out).1 go _ hgl).trans k0
      have j1 : w6.cell? ⟨go, j * 3 + 1, none⟩ = _ := ((bcell D6.out).1 go _ hgl).trans k1
      have j2 : w6.cell? ⟨go, j * 3 + 2, none⟩ = _ := ((bcell D6.out).1 go _ hgl).trans k2
      clear k0 k1 k2 l0 l1 l2 y0 y1 y2 hly hgc
      go_wp2_with fail
      refine NoPanic.normal ?_
      have hst := HV6.out.set HUL.out HMN.out (small_cap _) HF6.out (HV6.out.sep HUL.out)
      have hb7 := below_put3' HB6.out HGO.out (j * 3) (.bool (negQ (capQ (l + -(capQ (q * r)))))) (.slice D7 n9 c9) (.slice D8 n10 c10)
      go_wp2_with fail
      go_roundw
      case rel => exact ⟨j + 1, by omega, by go_num, by rw [← HMX.out, ← upd_upd]; exact hst.1, hb7⟩
      case measure => simp [intOf]; omega
    ·obtain rfl : j = width := by omega
     have hmx : mix (takeQ q L row) L j = takeQ q L row := by rw [HWL.out]; exact mix_all HTL.out
     rw [hmx, ← HNX.out] at HVj
     clear hmx
     go_wp2_with fail
     go_roundw
     case rel => exact ⟨i + 1, by omega, by go_num, HVj.out, HBj.out⟩
     case measure => simp [intOf]; omega
  ·obtain rfl : i = T.base.length := by omega
   go_wp2_with fail
   go_ret
   exact ⟨go, co, by rw [show (reducedQ cost T).length = cost.length from redN_length HRL.out _ (Nat.le_refl _)]; rfl, HGO.out, HVr.out.lt (upd_self _ _ _), by unfold reducedQ; rw [← HRN.out, ← HBL.out]; exact HVr.out, HBr.out⟩
def RowP (w : World) (g n : Nat) (qs : List Rat) : Prop := ∃ cs : Array Value, Blk w g 40 cs ∧ (∀ u ∈ cs, notWord u = true) ∧ cs.size = n * 3 ∧ ∀ (j : Nat) (x : Rat), qs[j]? = some x → ∃ a b c, cs[j * 3]? = some a ∧ cs[j * 3 + 1]? = some b ∧ cs[j * 3 + 2]? = some c ∧ FQ w (.agg #[a, b, c]) x
theorem RowP.v {w : World} {g n : Nat} {qs : List Rat} (h : RowP w g n qs) : RowV w g qs := by
 obtain ⟨cs, hb, hn, _, hx⟩ := h
 exact ⟨cs, hb, hn, hx⟩
theorem RowP.lt {w : World} {g n : Nat} {qs : List Rat} (h : RowP w g n qs) : g < w.heap.size := by
 obtain ⟨cs, hb, _⟩ := h
 exact hb.lt
theorem RowP.below {w w1 : World} {g n : Nat} {qs : List Rat} (h : RowP w g n qs) (hb : Below w.heap.size w w1) : RowP w1 g n qs := by
 obtain ⟨cs, h1, hn, hs, hx⟩ := h
 refine ⟨cs, h1.below hb h1.lt, hn, hs, fun j x hj => ?_⟩
 obtain ⟨a, b, c, e0, e1, e2, hE⟩ := hx j x hj
 exact ⟨a, b, c, e0, e1, e2, hE.of_below hb⟩
theorem RowP.made (w : World) (n : Nat) : RowP (w.alloc (.cells (madeCells #[.bool false, .slice none 0 0, .slice none 0 0] (n * 3)) 40)) w.heap.size n [] := by
 obtain ⟨cs, hb, hs, hn, _⟩ := Row3.made (E := EFQ) w 40 n #[.bool false, .slice none 0 0, .slice none 0 0] rfl (by simp [notInt])
 exact ⟨cs, hb, fun u hu => notWord_of_notInt (hn u hu), hs, fun j x hj => by simp at hj⟩
theorem RowP.cells {w : World} {g n : Nat} {qs : List Rat} (h : RowP w g n qs) {i : Nat} (hi : i < n) : ∃ a b c, w.cell? ⟨g, i * 3, none⟩ = some a ∧ w.cell? ⟨g, i * 3 + 1, none⟩ = some b ∧ w.cell? ⟨g, i * 3 + 2, none⟩ = some c := by
 obtain ⟨cs, hb, _, hs, _⟩ := h
 exact ⟨_, _, _, hb.cell (Array.getElem?_eq_getElem (by omega)), hb.cell (Array.getElem?_eq_getElem (by omega)), hb.cell (Array.getElem?_eq_getElem (by omega))⟩
theorem RowP.free {w : World} {g n : Nat} {qs : List Rat} (h : RowP w g n qs) (j : Nat) : w.frozen? ⟨g, j, none⟩ = false := by
 obtain ⟨cs, hb, _⟩ := h
 exact hb.frozen j
theorem RowP.at_ {w : World} {g n i : Nat} {qs : List Rat} {q : Rat} (h : RowP w g n qs) (hi : qs[i]? = some q) :
  ∃ A1 n1 c1 A2 n2 c2, w.cell? ⟨g, i * 3, none⟩ = some (.bool (negQ q)) ∧ w.cell? ⟨g, i * 3 + 1, none⟩ = some (.slice A1 n1 c1) ∧ w.cell? ⟨g, i * 3 + 2, none⟩ = some (.slice A2 n2 c2) ∧ Hid (FQ w (.agg #[.bool (negQ q), .slice A1 n1 c1, .slice A2 n2 c2]) q) := by
 obtain ⟨cs, hb, hn, hs, hx⟩ := h
 obtain ⟨a, b, c, e0, e1, e2, hE⟩ := hx i q hi
 obtain ⟨A1, n1, c1, A2, n2, c2, e, HQ⟩ := hE.opened
 injection e with e
 injection e with e
 injection e with ea e
 injection e with eb e
 injection e with ec _
 subst ea eb ec
 exact ⟨A1, n1, c1, A2, n2, c2, hb.cell e0, hb.cell e1, hb.cell e2, HQ⟩
theorem RowP.put {w : World} {g n i : Nat} {qs qs' : List Rat} {q : Rat} {a b c : Value} (h : RowP w g n qs) (hi : i < n) (hq : FQ w (.agg #[a, b, c]) q) (hn : ∀ u ∈ #[a, b, c], notWord u = true) (hqs : ∀ (j : Nat) (x : Rat), qs'[j]? = some x → (j = i ∧ x = q) ∨ (j ≠ i ∧ qs[j]? = some x)) : RowP (put3 w g (i * 3) a b c) g n qs' ∧ Only g w (put3 w g (i * 3) a b c) := by
 obtain ⟨cs, hb, hcn, hs, he⟩ := h
 have ho : Only g w (put3 w g (i * 3) a b c) := put3_only hb hcn
 have hset : ∀ {xs : Array Value} {i : Nat} {v : Value}, (∀ x ∈ xs, notWord x = true) → notWord v = true → ∀ x ∈ xs.setIfInBounds i v, notWord x = true := fun {xs i v} h1 h2 x hx => by
  rcases Array.mem_or_eq_of_mem_setIfInBounds hx with h | h
  ·exact h1 x h
  ·rw [h]; exact h2
 refine ⟨⟨_, ((hb.put (i * 3) a).put (i * 3 + 1) b).put (i * 3 + 2) c, hset (hset (hset hcn (hn _ (by simp))) (hn _ (by simp))) (hn _ (by simp)), by simp [hs], fun j y hy => ?_⟩, ho⟩
 rcases hqs j y hy with ⟨rfl, rfl⟩ | ⟨hj, hy'⟩
 ·refine ⟨a, b, c, ?_, ?_, ?_, FQ.keeps hq ho.1⟩
  ·exact sq48 _
  ·exact sq64 _
  ·rw [Array.getElem?_setIfInBounds_self]; rw [if_pos (by simp; omega)]
 ·obtain ⟨a', b', c', h0, h1, h2, h3⟩ := he j y hy'
  refine ⟨a', b', c', ?_, ?_, ?_, FQ.keeps h3 ho.1⟩
  ·exact sq67 _
  ·exact sq68 _
  ·rw [Array.getElem?_setIfInBounds_ne (by omega), Array.getElem?_setIfInBounds_ne (by omega), Array.getElem?_setIfInBounds_ne (by omega)]; exact h2
theorem put_last {qs : List Rat} {q : Rat} : ∀ (j : Nat) (x : Rat), (qs ++ [q])[j]? = some x → (j = qs.length ∧ x = q) ∨ (j ≠ qs.length ∧ qs[j]? = some x) := fun j x hj => by
 rw [List.getElem?_append] at hj
 split at hj
 ·exact .inr ⟨by omega, hj⟩
 ·have h0 : j - qs.length = 0 := by
   have := (List.getElem?_eq_some_iff.1 hj).1
   simp at this
   omega
  rw [h0] at hj
  exact .inl ⟨by omega, by simpa using hj.symm⟩
theorem put_again {qs : List Rat} {p q : Rat} : ∀ (j : Nat) (x : Rat), (qs ++ [q])[j]? = some x → (j = qs.length ∧ x = q) ∨ (j ≠ qs.length ∧ (qs ++ [p])[j]? = some x) := fun j x hj => by
 rcases put_last j x hj with h | ⟨h, h2⟩
 ·exact .inl h
 ·exact .inr ⟨h, by rw [List.getElem?_append_left (List.getElem?_eq_some_iff.1 h2).1]; exact h2⟩
theorem put_last' {qs : List Rat} {q : Rat} {i : Nat} (h : qs.length = i) : ∀ (j : Nat) (x : Rat), (qs ++ [q])[j]? = some x → (j = i ∧ x = q) ∨ (j ≠ i ∧ qs[j]? = some x) := by subst h; exact put_last
theorem put_again' {qs : List Rat} {p q : Rat} {i : Nat} (h : qs.length = i) : ∀ (j : Nat) (x : Rat), (qs ++ [q])[j]? = some x → (j = i ∧ x = q) ∨ (j ≠ i ∧ (qs ++ [p])[j]? = some x) := by subst h; exact put_again
noncomputable def pointE (cols : List Rat) (p m : Int) : Rat := if 0 ≤ m then subQ (cols.getD p.toNat 0) (cols.getD m.toNat 0) else cols.getD p.toNat 0
noncomputable def pointQ (T : Tab) (cols : List Rat) : List Rat := T.plus.zipWith (pointE cols) T.minus
theorem small_point {T : Tab} {cols : List Rat} (h : ∀ q ∈ cols, Small q) : ∀ q ∈ pointQ T cols, Small q := by
 intro q hq
 obtain ⟨j, hj⟩ := List.getElem?_of_mem hq
 unfold pointQ at hj
 rw [List.getElem?_zipWith] at hj
 cases hp : T.plus[j]? with
 | none => rw [hp] at hj; simp at hj
 | some p =>
  cases hm : T.minus[j]? with
  | none => rw [hp, hm] at hj; simp at hj
  | some m =>
   rw [hp, hm] at hj
   have e : pointE cols p m = q := by simpa using hj
   rw [← e]
   unfold pointE
   split
   ·exact small_cap _
   ·exact getD_small h _
def RedCap (base : Nat) (H : Nat → Option (List Rat)) (I : Nat → Option (List Int)) (L : List Rat) (w : World) (e : Ending) (w' : World) : Prop := ∃ go co, e = .returned (.slice (some ⟨go, 0, none⟩) L.length co) ∧ w.heap.size ≤ go ∧ go < w'.heap.size ∧ View base (upd H go L) I w' ∧ Below w.heap.size w w' ∧ L.length ≤ co
theorem point_calls (base : Nat) (H : Nat → Option (List Rat)) (I : Nat → Option (List Int)) (w : World) (gt : Nat) (S : Shape) (gs : List (Nat × Nat)) (tn : List Bool) (T : Tab) (gc cc : Nat) (cols : List Rat) (hv : View base H I w) (hT : TabW w gt S gs tn) (hV : TabV H I S gs T) (h0 : S.p0 = .int .i64 (T.plus.length : Int)) (hc : H gc = some cols) (hpm : T.minus.length = T.plus.length) (hpl : ∀ p ∈ T.plus, 0 ≤ p ∧ p < (cols.length : Int)) (hmi : ∀ m ∈ T.minus, m < (cols.length : Int)) (hpp : 0 < T.plus.length) (hll : T.plus.length ≤ 1000000) :
  Calls Try.prog 108 #[.pointer (some ⟨gt, 0, none⟩), .slice (some ⟨gc, 0, none⟩) cols.length cc] w fun e w' => RedCap base H I (pointQ T cols) w e w' := by
 have HV := Hd hv
 have HTV := Hd hV
 have HC := Hd hc
 have HPL := Hd hpl
 have HMI := Hd hmi
 have HPM := Hd hpm
 obtain ⟨p0, p1, p2, p3, vRows, vRight, vBase, vPlus, vMinus, real, width, vId, vTurned⟩ := S
 obtain rfl : p0 = _ := h0
 obtain ⟨Ap, cp, ep⟩ := hV.plus.slice
 obtain rfl : vPlus = _ := ep
 obtain ⟨Am, cm, em⟩ := hV.minus.slice
 obtain rfl : vMinus = _ := em
 have HT := Hd hT
 have HBS : Hid (Blk w gt 121 #[.int .i64 (T.plus.length : Int), p1, p2, p3, vRows, vRight, vBase, .slice Ap T.plus.length cp, .slice Am T.minus.length cm, .int .i64 (real : Int), .int .i64 (width : Int), vId, vTurned]) := hT.1
 have HSC : Hid (∀ q ∈ cols, Small q) := (HV.out.frac _ _ HC.out).2.1
 clear hv hT hV hc hpl hmi hpm
 obtain ⟨xs, hxs⟩ : ∃ l, l = pointQ T cols := ⟨_, rfl⟩
 have HXS := Hd hxs
 have HXL : Hid (xs.length = T.plus.length) := by unfold Hid; rw [hxs]; unfold pointQ; rw [List.length_zipWith, HPM.out, Nat.min_self]
 rw [← hxs]
 clear hxs
 obtain ⟨x0, x4, x5, x6, x7, x8, x9, x10, x11, x12⟩ := HBS.out.c13
 have hlt := HBS.out.lt
 have hmk := run_make3 23 40 _ Try.underlying23 info40m T.plus.length (by omega)
 go_enter Try.func108, Try.ntmps108
 go_wp2_with fail
 have HP0 := Hd (RowP.made w T.plus.length)
 have HB0 := Hd (below_new w (.cells (madeCells #[.bool false, .slice none 0 0, .slice none 0 0] (T.plus.length * 3)) 40))
 clear hmk x0 x4 x5 x6 x7 x8 x9 x10 x11 x12 hlt
 generalize w.alloc (.cells (madeCells #[.bool false, .slice none 0 0, .slice none 0 0] (T.plus.length * 3)) 40) = W0 at *
 obtain ⟨go, hgo⟩ : ∃ g, g = w.heap.size := ⟨_, rfl⟩
 rw [← hgo] at HP0 ⊢
 have HGO : Hid (w.heap.size ≤ go) := by unfold Hid; omega
 clear hgo
 go_loopw [15] (fun vi wr => ∃ i : Nat, i ≤ T.plus.length ∧ vi = .int .i64 (i : Int) ∧ RowP wr go T.plus.length (xs.take i) ∧ Below w.heap.size w wr) (fun vi _ => T.plus.length - (intOf vi).toNat)
 case atStart => exact ⟨0, Nat.zero_le _, rfl, by rw [List.take_zero]; exact HP0.out, HB0.out⟩
 case round =>
  obtain ⟨i, hi, rfl, hrp, hbl⟩ := hrel
  have HRP := Hd hrp
  have HBr := Hd hbl
  clear hrp hbl HP0 HB0
  by_cases hlt : i < T.plus.length
  ·obtain ⟨p, hp⟩ : ∃ x, T.plus[i]? = some x := ⟨T.plus[i], geq hlt⟩
   obtain ⟨mm, hm⟩ : ∃ x, T.minus[i]? = some x := ⟨T.minus[i]'(by rw [HPM.out]; exact hlt), geq _⟩
   have hpr := HPL.out p (mog hp)
   have hmr := HMI.out mm (mog hm)
   obtain ⟨n, rfl⟩ : ∃ n : Nat, p = n := ⟨p.toNat, by omega⟩
   obtain ⟨q, hq⟩ : ∃ x, cols[n]? = some x := ⟨cols[n]'(by omega), geq _⟩
   obtain ⟨gp, rfl, hgp⟩ := HTV.out.plus.at_ (by show 0 < T.plus.length; omega)
   obtain ⟨gm, rfl, hgm⟩ := HTV.out.minus.at_ (by show 0 < T.minus.length; have := HPM.out; omega)
   have HVr := Hd (HV.out.below HBr.out)
   have HXT : Hid ((xs.take i).length = i) := by unfold Hid; rw [ltk, HXL.out]; omega
   have HXN : Hid (xs.take (i + 1) = xs.take i ++ [pointE cols n mm]) := by
    unfold Hid
    rw [List.take_add_one, HXS.out]
    unfold pointQ
    rw [List.getElem?_zipWith, hp, hm]
    rfl
   have HQ := Hd hq
   have HSQ : Hid (Small q) := HSC.out q (mog hq)
   have HGM := Hd hgm
   have HMM := Hd hm
   obtain ⟨k0, hgpl, _⟩ := HVr.out.iat hgp hp
   obtain ⟨A1, n1, c1, A2, n2, c2, q0, q1, q2, HFQ⟩ := HVr.out.at_ HC.out hq
   have hgcl := HVr.out.lt HC.out
   obtain ⟨x0, x4, x5, x6, x7, x8, x9, x10, x11, x12⟩ := (HBS.out.below HBr.out HBS.out.lt).c13
   have hltt := (HBS.out.below HBr.out HBS.out.lt).lt
   obtain ⟨o0, o1, o2, z0, z1, z2⟩ := HRP.out.cells hlt
   have f0 := HRP.out.free (i * 3)
   have f1 := HRP.out.free (i * 3 + 1)
   have f2 := HRP.out.free (i * 3 + 2)
   have m1 : (i : Int) < (T.plus.length : Int) := by omega
   have m1' : (i : Int) < (T.minus.length : Int) := by have := HPM.out; omega
   have m2 : (n : Int) < (cols.length : Int) := hpr.2
   have m3 : (i : Int).toNat = i := by omega
   have m4 : (0 : Int) ≤ (i : Int) := by omega
   have m5 : (n : Int).toNat = n := by omega
   have m6 : (0 : Int) ≤ (n : Int) := by omega
   clear hp hm hq hgp hgm hpr
   go_upto_region 6 with (fail)
   have hst := HRP.out.put (q := q) (qs' := xs.take i ++ [q]) hlt HFQ.out (by simp [notWord]) (put_last' HXT.out)
   have hb1 := below_put3' HBr.out HGO.out (i * 3) (.bool (negQ q)) (.slice A1 n1 c1) (.slice A2 n2 c2)
   have HR1 := Hd hst.1
   have HB1 := Hd hb1
   clear hst hb1 k0 hgpl q0 q1 q2 hgcl x0 x4 x5 x6 x7 x8 x9 x10 x11 x12 hltt z0 z1 z2 f0 f1 f2
   obtain ⟨W1, hW1⟩ : ∃ W, W = ((wr.setCell ⟨go, i * 3, none⟩ (.bool (negQ q))).setCell ⟨go, i * 3 + 1, none⟩ (.slice A1 n1 c1)).setCell ⟨go, i * 3 + 2, none⟩ (.slice A2 n2 c2) := ⟨_, rfl⟩
   rw [← hW1]
   rw [show put3 wr go (i * 3) (.bool (negQ q)) (.slice A1 n1 c1) (.slice A2 n2 c2) = W1 from hW1.symm] at HR1 HB1
   clear hW1
   have HV1 := Hd (HV.out.below HB1.out)
   obtain ⟨k1, hgml, _⟩ := HV1.out.iat HGM.out HMM.out
   obtain ⟨x0, x4, x5, x6, x7, x8, x9, x10, x11, x12⟩ := (HBS.out.below HB1.out HBS.out.lt).c13
   have hltt := (HBS.out.below HB1.out HBS.out.lt).lt
   by_cases hz : 0 ≤ mm
   case neg =>
    have u : decide (0 ≤ mm) = false := decide_eq_false hz
    have u' : mm < 0 := by omega
    have HNX : Hid (xs.take (i + 1) = xs.take i ++ [q]) := by unfold Hid; rw [HXN.out]; unfold pointE; rw [if_neg hz, Int.toNat_natCast, getD_at HQ.out]
    clear hz
    go_wp2_with fail
    go_roundw
    case rel => exact ⟨i + 1, by omega, by go_num, by rw [HNX.out]; exact HR1.out, HB1.out⟩
    case measure => simp [intOf]; omega
   obtain ⟨n', rfl⟩ : ∃ n : Nat, mm = n := ⟨mm.toNat, by omega⟩
   obtain ⟨q', hq'⟩ : ∃ x, cols[n']? = some x := ⟨cols[n']'(by omega), geq _⟩
   have HNX : Hid (xs.take (i + 1) = xs.take i ++ [subQ q q']) := by unfold Hid; rw [HXN.out]; unfold pointE; rw [if_pos hz, Int.toNat_natCast, Int.toNat_natCast, getD_at HQ.out, getD_at hq']
   have HSQ' : Hid (Small q') := HSC.out q' (mog hq')
   obtain ⟨A3, n3, c3, A4, n4, c4, q0, q1, q2, HFQ'⟩ := HV1.out.at_ HC.out hq'
   have hgcl := HV1.out.lt HC.out
   obtain ⟨A5, n5, c5, A6, n6, c6, z0, z1, z2, HFO⟩ := HR1.out.at_ (i := i) (q := q) (by rw [List.getElem?_append_right (by rw [HXT.out]; exact Nat.le_refl _), HXT.out, Nat.sub_self]; rfl)
   have hgol := HR1.out.lt
   have m7 : (n' : Int) < (cols.length : Int) := hmr
   have m8 : (n' : Int).toNat = n' := by omega
   have m9 : (0 : Int) ≤ (n' : Int) := by omega
   have u : decide ((0 : Int) ≤ (n' : Int)) = true := decide_eq_true hz
   clear hz hq' hmr
   go_wp2_with fail
   refine wp_chainF (l := [_, _, _, _, _, _, _, _, _, _, _, _, _, _, _, _, _, _, _]) (S := Below W1.heap.size W1) 17 [([0, 1, 2, 3, 4, 5, 6, 7, 8, 9, 10, 11, 12, 13, 14, 15], 16)] [] (by kernel_rfl) (by kernel_rfl) (by kernel_rfl) rfl Bd ?_
   refine ⟨?_, _, ?_, rfl, ?_⟩
   rotate_left
   ·repeat (refine pu ?_; (try simp only [SQ]))
    exact rfl
   have D0 : Hid (Below W1.heap.size W1 W1.drew) := Bd
   go_wp2_with fail
   refine (fsub_calls _ _ _ (rawQ q) (rawQ q') (FR.of_fq (HFO.out.of_below D0.out) HSQ.out) (FR.of_fq (HFQ'.out.of_below D0.out) HSQ'.out)).mono ?_
   rintro e w6 ⟨v, rfl, hv, hb⟩
   rw [fixQ_raw _ HSQ.out, fixQ_raw _ HSQ'.out] at hv
   obtain ⟨D7, n9, c9, D8, n10, c10, rfl, HF6⟩ := hv.opened
   have D6 := Hd (below_next D0.out hb)
   have HR6 := Hd (HR1.out.below D6.out)
   have HB6 := Hd (below_next HB1.out D6.out)
   clear hv hb
   go_wp2_with fail
   refine And.intro D6.out ⟨_, rfl, ?_⟩
   have f0 := HR6.out.free (i * 3)
   have f1 := HR6.out.free (i * 3 + 1)
   have f2 := HR6.out.free (i * 3 + 2)
   have j0 : w6.cell? ⟨go, i * 3, none⟩ = _ := ((bcell D6.out).1 go _ hgol).trans z0
   have j1 : w6.cell? ⟨go, i * 3 + 1, none⟩ = _ := ((bcell D6.out).1 go _ hgol).trans z1
   have j2 : w6.cell? ⟨go, i * 3 + 2, none⟩ = _ := ((bcell D6.out).1 go _ hgol).trans z2
   clear z0 z1 z2 q0 q1 q2 x0 x4 x5 x6 x7 x8 x9 x10 x11 x12 hltt k1 hgml hgcl
   go_wp2_with fail
   refine NoPanic.normal ?_
   have hst := HR6.out.put (q := subQ q q') (qs' := xs.take i ++ [subQ q q']) hlt HF6.out (by simp [notWord]) (put_again' HXT.out)
   have hb7 := below_put3' HB6.out HGO.out (i * 3) (.bool (negQ (capQ (q + -q')))) (.slice D7 n9 c9) (.slice D8 n10 c10)
   go_wp2_with fail
   go_roundw
   case rel => exact ⟨i + 1, by omega, by go_num, by rw [HNX.out]; exact hst.1, hb7⟩
   case measure => simp [intOf]; omega
  ·obtain rfl : i = T.plus.length := by omega
   have hxa : xs.take T.plus.length = xs := List.take_of_length_le (by rw [HXL.out]; exact Nat.le_refl _)
   rw [hxa] at HRP
   have HSX : Hid (∀ q ∈ xs, Small q) := by unfold Hid; rw [HXS.out]; exact small_point HSC.out
   clear hxa
   go_wp2_with fail
   go_ret
   exact ⟨go, _, by rw [HXL.out]; rfl, HGO.out, HRP.out.lt, (HV.out.below HBr.out).add HRP.out.v (Nat.le_trans HV.out.size HGO.out) HSX.out, HBr.out, by rw [HXL.out]; exact Nat.le_refl _⟩
noncomputable def multE (cost gain : List Rat) (c : Int) (t : Bool) : Rat := if t = true then -(subQ (cost.getD c.toNat 0) (gain.getD c.toNat 0)) else subQ (cost.getD c.toNat 0) (gain.getD c.toNat 0)
noncomputable def multQ (T : Tab) (tn : List Bool) (cost gain : List Rat) : List Rat := T.id.zipWith (multE cost gain) tn
theorem small_mult {T : Tab} {tn : List Bool} {cost gain : List Rat} : ∀ q ∈ multQ T tn cost gain, Small q := by
 intro q hq
 obtain ⟨j, hj⟩ := List.getElem?_of_mem hq
 unfold multQ at hj
 rw [List.getElem?_zipWith] at hj
 cases hp : T.id[j]? with
 | none => rw [hp] at hj; simp at hj
 | some p =>
  cases hm : tn[j]? with
  | none => rw [hp, hm] at hj; simp at hj
  | some m =>
   rw [hp, hm] at hj
   have e : multE cost gain p m = q := by simpa using hj
   rw [← e]
   unfold multE
   split
   ·exact small_neg (small_cap _)
   ·exact small_cap _
theorem mult_calls (base : Nat) (H : Nat → Option (List Rat)) (I : Nat → Option (List Int)) (w : World) (gt : Nat) (S : Shape) (gs : List (Nat × Nat)) (tn : List Bool) (T : Tab) (gc cc gg cg : Nat) (cost gain : List Rat) (hv : View base H I w) (hT : TabW w gt S gs tn) (hV : TabV H I S gs T) (hc : H gc = some cost) (hg : H gg = some gain) (hgl : gain.length = cost.length) (htn : tn.length = T.id.length) (hid : ∀ c ∈ T.id, 0 ≤ c ∧ c < (cost.length : Int)) (hll : T.id.length ≤ 1000000) :
  Calls Try.prog 106 #[.pointer (some ⟨gt, 0, none⟩), .slice (some ⟨gc, 0, none⟩) cost.length cc, .slice (some ⟨gg, 0, none⟩) cost.length cg] w fun e w' => RedCap base H I (multQ T tn cost gain) w e w' := by
 have HV := Hd hv
 have HTV := Hd hV
 have HC := Hd hc
 have HG := Hd hg
 have HGL := Hd hgl
 have HTN := Hd htn
 have HID := Hd hid
 have hgsl : gs.length = T.id.length := by rw [hV.len, hV.idLen]
 obtain ⟨p0, p1, p2, p3, vRows, vRight, vBase, vPlus, vMinus, real, width, vId, vTurned⟩ := S
 obtain ⟨Ai, ci, ei⟩ := hV.id.slice
 obtain rfl : vId = _ := ei
 obtain ⟨At, ct, et, _⟩ := hT.2.2.1.slice
 obtain rfl : vTurned = _ := et
 obtain ⟨AR, cR, eR⟩ := hT.2.1.slice
 obtain rfl : vRows = _ := eR
 have HT := Hd hT
 have HBS : Hid (Blk w gt 121 #[p0, p1, p2, p3, .slice AR gs.length cR, vRight, vBase, vPlus, vMinus, .int .i64 (real : Int), .int .i64 (width : Int), .slice Ai T.id.length ci, .slice At tn.length ct]) := hT.1
 have HSC : Hid (∀ q ∈ cost, Small q) := (HV.out.frac _ _ HC.out).2.1
 have HSG : Hid (∀ q ∈ gain, Small q) := (HV.out.frac _ _ HG.out).2.1
 have HGS := Hd hgsl
 clear hv hT hV hc hg hgl htn hid hgsl
 obtain ⟨xs, hxs⟩ : ∃ l, l = multQ T tn cost gain := ⟨_, rfl⟩
 have HXS := Hd hxs
 have HXL : Hid (xs.length = T.id.length) := by unfold Hid; rw [hxs]; unfold multQ; rw [List.length_zipWith, HTN.out, Nat.min_self]
 rw [← hxs]
 clear hxs
 obtain ⟨m, hm⟩ : ∃ m, m = T.id.length := ⟨_, rfl⟩
 rw [HTN.out, HGS.out, ← hm] at HBS
 have HM := Hd hm
 rw [← hm] at hll
 clear hm
 obtain ⟨x0, x4, x5, x6, x7, x8, x9, x10, x11, x12⟩ := HBS.out.c13
 have hlt := HBS.out.lt
 have hmk := run_make3 23 40 _ Try.underlying23 info40m m (by omega)
 go_enter Try.func106, Try.ntmps106
 go_wp2_with fail
 have HP0 := Hd (RowP.made w m)
 have HB0 := Hd (below_new w (.cells (madeCells #[.bool false, .slice none 0 0, .slice none 0 0] (m * 3)) 40))
 clear hmk x0 x4 x5 x6 x7 x8 x9 x10 x11 x12 hlt
 generalize w.alloc (.cells (madeCells #[.bool false, .slice none 0 0, .slice none 0 0] (m * 3)) 40) = W0 at *
 obtain ⟨go, hgo⟩ : ∃ g, g = w.heap.size := ⟨_, rfl⟩
 rw [← hgo] at HP0 ⊢
 have HGO : Hid (w.heap.size ≤ go) := by unfold Hid; omega
 clear hgo
 go_loopw [21] (fun vi wr => ∃ i : Nat, i ≤ m ∧ vi = .int .i64 (i : Int) ∧ RowP wr go m (xs.take i) ∧ Below w.heap.size w wr) (fun vi _ => m - (intOf vi).toNat)
 case atStart => exact ⟨0, Nat.zero_le _, rfl, by rw [List.take_zero]; exact HP0.out, HB0.out⟩
 case round =>
  obtain ⟨i, hi, rfl, hrp, hbl⟩ := hrel
  have HRP := Hd hrp
  have HBr := Hd hbl
  clear hrp hbl HP0 HB0
  by_cases hlt : i < m
  ·obtain ⟨c, hc⟩ : ∃ x, T.id[i]? = some x := ⟨T.id[i]'(by rw [← HM.out]; exact hlt), geq _⟩
   obtain ⟨tb, htb⟩ : ∃ x, tn[i]? = some x := ⟨tn[i]'(by rw [HTN.out, ← HM.out]; exact hlt), geq _⟩
   have hcr := HID.out c (mog hc)
   obtain ⟨n, rfl⟩ : ∃ n : Nat, c = n := ⟨c.toNat, by omega⟩
   obtain ⟨q, hq⟩ : ∃ x, cost[n]? = some x := ⟨cost[n]'(by omega), geq _⟩
   obtain ⟨q', hq'⟩ : ∃ x, gain[n]? = some x := ⟨gain[n]'(by rw [HGL.out]; omega), geq _⟩
   obtain ⟨gi, rfl, hgi⟩ := HTV.out.id.at_ (by show 0 < T.id.length; rw [← HM.out]; omega)
   obtain ⟨gT, oT, rfl, hgT, t0⟩ := BL.at1 (HT.out.below HBr.out).2.2.1 htb
   have HVr := Hd (HV.out.below HBr.out)
   have HXT : Hid ((xs.take i).length = i) := by unfold Hid; rw [ltk, HXL.out, ← HM.out]; omega
   have HXN : Hid (xs.take (i + 1) = xs.take i ++ [if tb = true then -(subQ q q') else subQ q q']) := by
    unfold Hid
    rw [List.take_add_one, HXS.out]
    unfold multQ
    rw [List.getElem?_zipWith, hc, htb]
    show _ ++ [multE cost gain n tb] = _
    unfold multE
    rw [Int.toNat_natCast, getD_at hq, getD_at hq']
   have HSQ : Hid (Small q) := HSC.out q (mog hq)
   have HSQ' : Hid (Small q') := HSG.out q' (mog hq')
   obtain ⟨k0, hgil, _⟩ := HVr.out.iat hgi hc
   obtain ⟨A1, n1, c1, A2, n2, c2, q0, q1, q2, HFQ⟩ := HVr.out.at_ HC.out hq
   have hgcl := HVr.out.lt HC.out
   obtain ⟨A3, n3, c3, A4, n4, c4, g0, g1, g2, HFG⟩ := HVr.out.at_ HG.out hq'
   have hggl := HVr.out.lt HG.out
   obtain ⟨x0, x4, x5, x6, x7, x8, x9, x10, x11, x12⟩ := (HBS.out.below HBr.out HBS.out.lt).c13
   have hltt := (HBS.out.below HBr.out HBS.out.lt).lt
   have m1 : (i : Int) < (m : Int) := by omega
   have m2 : (n : Int) < (cost.length : Int) := hcr.2
   have m3 : (i : Int).toNat = i := by omega
   have m4 : (0 : Int) ≤ (i : Int) := by omega
   have m5 : (n : Int).toNat = n := by omega
   have m6 : (0 : Int) ≤ (n : Int) := by omega
   have HTB := Hd htb
   clear hc hq hq' hgi htb hcr
   go_wp2_with fail
   refine wp_chainF (l := [_, _, _, _, _, _, _, _, _, _, _, _, _]) (S := Below wr.heap.size wr) 11 [([0, 1, 2, 3, 4, 5, 6, 7, 8, 9], 10)] [] (by kernel_rfl) (by kernel_rfl) (by kernel_rfl) rfl Bd ?_
   refine ⟨?_, _, ?_, rfl, ?_⟩
   rotate_left
   ·repeat (refine pu ?_; (try simp only [SQ]))
    exact rfl
   have D0 : Hid (Below wr.heap.size wr wr.drew) := Bd
   go_wp2_with fail
   refine (fsub_calls _ _ _ (rawQ q) (rawQ q') (FR.of_fq (HFQ.out.of_below D0.out) HSQ.out) (FR.of_fq (HFG.out.of_below D0.out) HSQ'.out)).mono ?_
   rintro e w6 ⟨v, rfl, hv, hb⟩
   rw [fixQ_raw _ HSQ.out, fixQ_raw _ HSQ'.out] at hv
   obtain ⟨D7, n9, c9, D8, n10, c10, rfl, HF6⟩ := hv.opened
   have D6 := Hd (below_next D0.out hb)
   have HR6 := Hd (HRP.out.below D6.out)
   have HB6 := Hd (below_next HBr.out D6.out)
   clear hv hb q0 q1 q2 g0 g1 g2 x0 x4 x5 x6 x7 x8 x9 x10 x11 x12 hltt k0 hgil hgcl hggl t0 hgT
   go_wp2_with fail
   refine And.intro D6.out ⟨_, rfl, ?_⟩
   obtain ⟨o0, o1, o2, z0, z1, z2⟩ := HR6.out.cells hlt
   have f0 := HR6.out.free (i * 3)
   have f1 := HR6.out.free (i * 3 + 1)
   have f2 := HR6.out.free (i * 3 + 2)
   go_wp2_with fail
   refine NoPanic.normal ?_
   have hst := HR6.out.put (q := subQ q q') (qs' := xs.take i ++ [subQ q q']) hlt HF6.out (by simp [notWord]) (put_last' HXT.out)
   have hb7 := below_put3' HB6.out HGO.out (i * 3) (.bool (negQ (capQ (q + -q')))) (.slice D7 n9 c9) (.slice D8 n10 c10)
   have HR7 := Hd hst.1
   have HB7 := Hd hb7
   have HF7 := Hd (HF6.out.keeps hst.2.1)
   obtain ⟨W1, hW1⟩ : ∃ W, W = ((w6.setCell ⟨go, i * 3, none⟩ (.bool (negQ (capQ (q + -q'))))).setCell ⟨go, i * 3 + 1, none⟩ (.slice D7 n9 c9)).setCell ⟨go, i * 3 + 2, none⟩ (.slice D8 n10 c10) := ⟨_, rfl⟩
   rw [show put3 w6 go (i * 3) (.bool (negQ (capQ (q + -q')))) (.slice D7 n9 c9) (.slice D8 n10 c10) = W1 from hW1.symm] at HR7 HB7 HF7
   rw [← hW1]
   clear hst hb7 hW1 z0 z1 z2 f0 f1 f2
   obtain ⟨x0, x4, x5, x6, x7, x8, x9, x10, x11, x12⟩ := (HBS.out.below HB7.out HBS.out.lt).c13
   have hltt := (HBS.out.below HB7.out HBS.out.lt).lt
   obtain ⟨gT2, oT2, eT, hgT2, t1⟩ := BL.at1 (HT.out.below HB7.out).2.2.1 HTB.out
   injection eT with eT
   injection eT with eT1 eT2
   subst eT1 eT2
   cases tb
   case false =>
    have HNX : Hid (xs.take (i + 1) = xs.take i ++ [subQ q q']) := HXN.out
    go_wp2_with fail
    go_roundw
    case rel => exact ⟨i + 1, by omega, by go_num, by rw [HNX.out]; exact HR7.out, HB7.out⟩
    case measure => simp [intOf]; omega
   case true =>
    have HNX : Hid (xs.take (i + 1) = xs.take i ++ [-(subQ q q')]) := HXN.out
    have hgol := HR7.out.lt
    obtain ⟨A5, n5, c5, A6, n6, c6, z0, z1, z2, HFO⟩ := HR7.out.at_ (i := i) (q := subQ q q') (by rw [List.getElem?_append_right (by rw [HXT.out]; exact Nat.le_refl _), HXT.out, Nat.sub_self]; rfl)
    go_wp2_with fail
    refine (fneg_calls _ _ (rawQ (subQ q q')) (FR.of_fq HFO.out (small_cap _))).mono ?_
    rintro e w8 ⟨v, rfl, hv, hb⟩
    rw [fixQ_raw (subQ q q') (small_cap _)] at hv
    obtain ⟨E7, n11, c11, E8, n12, c12, rfl, HF8⟩ := hv.opened
    have HR8 := Hd (HR7.out.below hb)
    have HB8 := Hd (below_next HB7.out hb)
    clear hv hb z0 z1 z2 x0 x4 x5 x6 x7 x8 x9 x10 x11 x12 hltt t1 hgT2
    obtain ⟨o0', o1', o2', z0, z1, z2⟩ := HR8.out.cells hlt
    have f0 := HR8.out.free (i * 3)
    have f1 := HR8.out.free (i * 3 + 1)
    have f2 := HR8.out.free (i * 3 + 2)
    have hst := HR8.out.put (q := -(subQ q q')) (qs' := xs.take i ++ [-(subQ q q')]) hlt HF8.out (by simp [notWord]) (put_again' HXT.out)
    have hb9 := below_put3' HB8.out HGO.out (i * 3) (.bool (negQ (-(subQ q q')))) (.slice E7 n11 c11) (.slice E8 n12 c12)
    have HST := Hd hst
    have HB9 := Hd hb9
    clear hst hb9
    go_wp2_with fail
    go_roundw
    case rel => exact ⟨i + 1, by omega, by go_num, by rw [HNX.out]; exact HST.out.1, HB9.out⟩
    case measure => simp [intOf]; omega
  ·obtain rfl : i = m := by omega
   have hxa : xs.take i = xs := List.take_of_length_le (by rw [HXL.out, HM.out]; exact Nat.le_refl _)
   rw [hxa] at HRP
   have HSX : Hid (∀ q ∈ xs, Small q) := by unfold Hid; rw [HXS.out]; exact small_mult
   clear hxa
   go_wp2_with fail
   go_ret
   exact ⟨go, _, by rw [HXL.out, ← HM.out]; rfl, HGO.out, HRP.out.lt, (HV.out.below HBr.out).add HRP.out.v (Nat.le_trans HV.out.size HGO.out) HSX.out, HBr.out, by rw [HXL.out, ← HM.out]; exact Nat.le_refl _⟩
theorem zf_words : ∀ u ∈ #[Value.bool false, .slice none 0 0, .slice none 0 0], notWord u = true := by simp [notWord]
noncomputable def pivRow (by_ : Rat) (r : List Rat) : List Rat := r.map fun f => if f = 0 then f else mulQ f by_
noncomputable def pivOther (col : Nat) (row' r : List Rat) : List Rat := if r.getD col 0 = 0 then r else takeQ (r.getD col 0) r row'
noncomputable def pivRight (col : Nat) (rr : Rat) (r : List Rat) (x : Rat) : Rat := if r.getD col 0 = 0 then x else subQ x (mulQ (r.getD col 0) rr)
noncomputable def rowsAt (row col : Nat) (row' : List Rat) (i j : Nat) (r : List Rat) : List Rat := if j = row then row' else if j < i then pivOther col row' r else r
noncomputable def rightAt (row col : Nat) (rr : Rat) (rows : List (List Rat)) (i j : Nat) (x : Rat) : Rat := if j = row then rr else if j < i then pivRight col rr (rows.getD j []) x else x
noncomputable def pivGain (col : Nat) (row' gain : List Rat) : List Rat := if gain.getD col 0 = 0 then gain else takeQ (gain.getD col 0) gain row'
noncomputable def pivBy (T : Tab) (row col : Nat) : Rat := quoQ 1 ((T.rows.getD row []).getD col 0)
noncomputable def pivNew (T : Tab) (row col : Nat) : List Rat := pivRow (pivBy T row col) (T.rows.getD row [])
noncomputable def pivotQ (T : Tab) (row col : Nat) : Tab :=
 ⟨T.rows.mapIdx (rowsAt row col (pivNew T row col) T.rows.length), T.right.mapIdx (rightAt row col (mulQ (T.right.getD row 0) (pivBy T row col)) T.rows T.rows.length), T.base.set row (col : Int), T.plus, T.minus, T.id⟩
theorem ext_at {α : Type} {a b : List α} (hl : a.length = b.length) (h : ∀ (i : Nat) (x y : α), a[i]? = some x → b[i]? = some y → x = y) : a = b :=
 List.ext_getElem hl fun i h1 h2 => h i _ _ (geq h1) (geq h2)
theorem rowsAt_zero {row col : Nat} {rp x : List Rat} {j : Nat} (h : j ≠ row) : rowsAt row col rp 0 j x = x := by unfold rowsAt; rw [if_neg h, if_neg (Nat.not_lt_zero _)]
theorem rowsAt_row {row col i : Nat} {rp x : List Rat} : rowsAt row col rp i row x = rp := by unfold rowsAt; rw [if_pos rfl]
theorem rowsAt_here {row col i : Nat} {rp x : List Rat} (h : i ≠ row) : rowsAt row col rp i i x = x := by unfold rowsAt; rw [if_neg h, if_neg (Nat.lt_irrefl _)]
theorem rowsAt_next {row col i j : Nat} {rp x : List Rat} (h : j ≠ i) : rowsAt row col rp (i + 1) j x = rowsAt row col rp i j x := by
 unfold rowsAt
 by_cases e : j = row
 ·rw [if_pos e, if_pos e]
 ·rw [if_neg e, if_neg e]
  by_cases hl : j < i
  ·rw [if_pos hl, if_pos (by omega)]
  ·rw [if_neg hl, if_neg (by omega)]
theorem rowsAt_done {row col i : Nat} {rp x : List Rat} (h : i ≠ row) : rowsAt row col rp (i + 1) i x = pivOther col rp x := by unfold rowsAt; rw [if_neg h, if_pos (Nat.lt_succ_self _)]
theorem rowsAt_same {row col i j : Nat} {rp x : List Rat} (h : i = row ∨ (j = i → x.getD col 0 = 0)) : rowsAt row col rp (i + 1) j x = rowsAt row col rp i j x := by
 by_cases e : j = i
 ·subst e
  rcases h with h | h
  ·subst h; rw [rowsAt_row, rowsAt_row]
  ·by_cases hr : j = row
   ·subst hr; rw [rowsAt_row, rowsAt_row]
   ·rw [rowsAt_done hr, rowsAt_here hr]
    unfold pivOther
    rw [if_pos (h rfl)]
 ·exact rowsAt_next e
theorem rightAt_next {row col i j : Nat} {rr x : Rat} {rows : List (List Rat)} (h : j ≠ i) : rightAt row col rr rows (i + 1) j x = rightAt row col rr rows i j x := by
 unfold rightAt
 by_cases e : j = row
 ·rw [if_pos e, if_pos e]
 ·rw [if_neg e, if_neg e]
  by_cases hl : j < i
  ·rw [if_pos hl, if_pos (by omega)]
  ·rw [if_neg hl, if_neg (by omega)]
theorem rightAt_done {row col i : Nat} {rr x : Rat} {rows : List (List Rat)} (h : i ≠ row) : rightAt row col rr rows (i + 1) i x = pivRight col rr (rows.getD i []) x := by unfold rightAt; rw [if_neg h, if_pos (Nat.lt_succ_self _)]
theorem rightAt_here {row col i : Nat} {rr x : Rat} {rows : List (List Rat)} (h : i ≠ row) : rightAt row col rr rows i i x = x := by unfold rightAt; rw [if_neg h, if_neg (Nat.lt_irrefl _)]
theorem rightAt_row {row col i : Nat} {rr x : Rat} {rows : List (List Rat)} : rightAt row col rr rows i row x = rr := by unfold rightAt; rw [if_pos rfl]
theorem ra_zero {row col : Nat} {rr : Rat} {rows : List (List Rat)} {right : List Rat} : right.mapIdx (rightAt row col rr rows 0) = right.set row rr := by
 refine ext_at (by simp) fun j x y hx hy => ?_
 rw [List.getElem?_mapIdx] at hx
 by_cases e : j = row
 ·subst e
  have hl : j < right.length := by have := (List.getElem?_eq_some_iff.1 hy).1; simpa using this
  rw [List.getElem?_set_self hl] at hy
  rw [geq hl] at hx
  injection hy with hy
  have hx' : rightAt j col rr rows 0 j right[j] = x := by simpa using hx
  rw [← hx', ← hy, rightAt_row]
 ·rw [List.getElem?_set_ne (fun h => e h.symm)] at hy
  rw [hy] at hx
  have hx' : rightAt row col rr rows 0 j y = x := by simpa using hx
  rw [← hx']
  unfold rightAt
  rw [if_neg e, if_neg (Nat.not_lt_zero _)]
theorem ra_same {row col i : Nat} {rr : Rat} {rows : List (List Rat)} {right : List Rat} (h : i = row ∨ (rows.getD i []).getD col 0 = 0) : right.mapIdx (rightAt row col rr rows (i + 1)) = right.mapIdx (rightAt row col rr rows i) := by
 refine ext_at (by simp) fun j x y hx hy => ?_
 rw [List.getElem?_mapIdx] at hx hy
 cases hr : right[j]? with
 | none => rw [hr] at hx; simp at hx
 | some z =>
  rw [hr] at hx hy
  have hx' : rightAt row col rr rows (i + 1) j z = x := by simpa using hx
  have hy' : rightAt row col rr rows i j z = y := by simpa using hy
  rw [← hx', ← hy']
  by_cases e : j = i
  ·subst e
   by_cases hw : j = row
   ·subst hw; rw [rightAt_row, rightAt_row]
   ·rcases h with h | h
    ·exact absurd h hw
    ·rw [rightAt_done hw, rightAt_here hw]
     unfold pivRight
     rw [if_pos h]
  ·exact rightAt_next e
theorem ra_at {row col i j : Nat} {rr y : Rat} {rows : List (List Rat)} {right : List Rat} (h : right[j]? = some y) : (right.mapIdx (rightAt row col rr rows i))[j]? = some (rightAt row col rr rows i j y) := by
 rw [List.getElem?_mapIdx, h]
 rfl
theorem ra_step {row col i : Nat} {rr y : Rat} {rows : List (List Rat)} {right : List Rat} (hi : i ≠ row) (h : right[i]? = some y) (hf : (rows.getD i []).getD col 0 ≠ 0) : (right.mapIdx (rightAt row col rr rows i)).set i (subQ y (mulQ ((rows.getD i []).getD col 0) rr)) = right.mapIdx (rightAt row col rr rows (i + 1)) := by
 refine ext_at (by simp) fun j x z hx hz => ?_
 rw [List.getElem?_mapIdx] at hz
 by_cases e : j = i
 ·subst e
  rw [List.getElem?_set_self (by have := (List.getElem?_eq_some_iff.1 h).1; simpa using this)] at hx
  injection hx with hx
  rw [h] at hz
  have hz' : rightAt row col rr rows (j + 1) j y = z := by simpa using hz
  rw [← hx, ← hz', rightAt_done hi]
  unfold pivRight
  rw [if_neg hf]
 ·rw [List.getElem?_set_ne (fun h => e h.symm), List.getElem?_mapIdx] at hx
  cases hr : right[j]? with
  | none => rw [hr] at hx; simp at hx
  | some v =>
   rw [hr] at hx hz
   have hx' : rightAt row col rr rows i j v = x := by simpa using hx
   have hz' : rightAt row col rr rows (i + 1) j v = z := by simpa using hz
   rw [← hx', ← hz', rightAt_next e]
theorem nodup_key {gs : List (Nat × Nat)} (h : (gs.map Prod.fst).Nodup) {i j : Nat} {p q : Nat × Nat} (hi : gs[i]? = some p) (hj : gs[j]? = some q) (hne : i ≠ j) : p.1 ≠ q.1 := by
 intro e
 have h1 : (gs.map Prod.fst)[i]? = some p.1 := by rw [List.getElem?_map, hi]; rfl
 have h2 : (gs.map Prod.fst)[j]? = some q.1 := by rw [List.getElem?_map, hj]; rfl
 obtain ⟨l1, e1⟩ := List.getElem?_eq_some_iff.1 h1
 obtain ⟨l2, e2⟩ := List.getElem?_eq_some_iff.1 h2
 have hp := List.pairwise_iff_getElem.1 h
 rcases Nat.lt_or_gt_of_ne hne with hl | hl
 ·exact hp i j l1 l2 hl (by rw [e1, e2, e])
 ·exact hp j i l2 l1 hl (by rw [e1, e2, e])
theorem key_mem {gs : List (Nat × Nat)} {i : Nat} {p : Nat × Nat} (h : gs[i]? = some p) : p.1 ∈ gs.map Prod.fst := List.mem_map.2 ⟨p, mog h, rfl⟩
theorem only_cell {g b : Nat} {w w1 : World} (h : Only g w w1) (hb : b < w.heap.size) (hne : b ≠ g) (o : Nat) : w1.cell? ⟨b, o, none⟩ = w.cell? ⟨b, o, none⟩ := by
 have := h.2.1 b hb hne
 simp only [World.cell?]
 rw [this]
theorem take_calls' (base : Nat) (H : Nat → Option (List Rat)) (I : Nat → Option (List Int)) (w : World) (gl gr cl cr : Nat) (L R : List Rat) (vb : Value) (by_ : Rat) (n : Nat) (hn : n = L.length) (hv : View base H I w) (hL : H gl = some L) (hR : H gr = some R) (hne : gl ≠ gr) (hlen : R.length = L.length) (hb : FQ w vb by_) (hs : Small by_) (hll : L.length ≤ 1000000000) :
  Calls Try.prog 126 #[.slice (some ⟨gl, 0, none⟩) n cl, .slice (some ⟨gr, 0, none⟩) n cr, vb] w fun e w' => TakePost base gl H I (takeQ by_ L R) w e w' := by
 subst hn
 exact take_calls base H I w gl gr cl cr L R vb by_ hv hL hR hne hlen hb hs hll
theorem VI.other {I : Nat → Option (List Int)} {v : Value} {l m : List Int} {g : Nat} (h : VI I v l) (hne : ∀ n c, v ≠ .slice (some ⟨g, 0, none⟩) n c) : VI (upd I g m) v l := by
 rcases h with h | ⟨g', c, e, hg⟩
 ·exact .inl h
 ·refine .inr ⟨g', c, e, ?_⟩
  rw [upd_ne (fun h => hne l.length c (by rw [← h]; exact e)), hg]
def Owned (S : Shape) (gs : List (Nat × Nat)) (k : Nat) : Prop := k ∈ gs.map Prod.fst ∨ ∃ n c, S.right = .slice (some ⟨k, 0, none⟩) n c
def NotBase (S : Shape) (k : Nat) : Prop := ∀ n c, S.base ≠ .slice (some ⟨k, 0, none⟩) n c
def PivPost (base : Nat) (H : Nat → Option (List Rat)) (I : Nat → Option (List Int)) (S : Shape) (gs : List (Nat × Nat)) (T : Tab) (row col : Nat) (G : Option (Nat × List Rat)) (w : World) (e : Ending) (w' : World) : Prop :=
 e = .returned (.tuple #[]) ∧ ∃ H' I', View base H' I' w' ∧ TabV H' I' S gs (pivotQ T row col) ∧ (∀ gg x, G = some (gg, x) → H' gg = some (pivGain col (pivNew T row col) x)) ∧ (∀ k, ¬ Owned S gs k → (∀ x, G ≠ some (k, x)) → H' k = H k) ∧ ChgS base w w' ∧ ∀ k, NotBase S k → I' k = I k
def PivAct (gt : Nat) (row col : Nat) (vg : Value) (gR m cR gi width ci gx : Nat) (e by_ : Rat) (A1 : Option Addr) (n1 c1 : Nat) (A2 : Option Addr) (n2 c2 : Nat) (E1 : Option Addr) (h1 i1 : Nat) (E2 : Option Addr) (h2 i2 : Nat) (F1 : Option Addr) (h3 i3 : Nat) (F2 : Option Addr) (h4 i4 : Nat) : Act :=
 { tmps := #[.pointer (some ⟨gt, 0, none⟩), .int .i64 (row : Int), .int .i64 (col : Int), vg, undef, undef, undef, undef, .pointer (some ⟨gx, 0, none⟩), .int .i64 0, undef, undef, undef, undef, .tuple #[.agg #[.bool (negQ by_), .slice E1 h1 i1, .slice E2 h2 i2], .int .i64 0], .agg #[.bool (negQ (1 : Rat)), .slice F1 h3 i3, .slice F2 h4 i4], .pointer (some ⟨gt, 0, none⟩), .pointer (some ⟨gt, 0, none⟩), .pointer (some ⟨gt, 4, none⟩), .slice (some ⟨gR, 0, none⟩) m cR, .int .i64 (row : Int), .pointer (some ⟨gR, row, none⟩), .slice (some ⟨gi, 0, none⟩) width ci, .int .i64 (col : Int), .pointer (some ⟨gi, col * 3, none⟩), .agg #[.bool (negQ e), .slice A1 n1 c1, .slice A2 n2 c2], .tuple #[.agg #[.bool (negQ by_), .slice E1 h1 i1, .slice E2 h2 i2], .int .i64 0], .agg #[.bool (negQ by_), .slice E1 h1 i1, .slice E2 h2 i2], .int .i64 0, undef, undef, undef, undef, undef, undef, undef, undef, undef, undef, undef, undef, undef, undef, undef, undef, undef, undef, undef, undef, undef, undef, undef, undef, undef, undef, undef, undef, undef, undef, undef, undef, undef, undef, undef, undef, undef, undef, undef, undef, undef, undef, undef, undef, undef, undef, undef, undef, undef, undef, undef, undef, undef, undef, undef, undef, undef, undef, undef, undef, undef, undef, undef, undef, undef, undef, undef, undef, undef, undef, undef, undef, undef, undef, undef, undef, undef, undef, undef, undef, undef, undef, undef, undef, undef, undef, undef, undef, undef, undef, undef, undef, undef, undef, undef, undef, undef, undef, undef, undef, undef, undef, undef, undef, undef, undef, undef, undef, undef, undef, undef, undef, undef, undef, undef, undef, undef, undef, undef, undef, undef, undef, undef, undef, undef, undef, undef, undef, undef, undef, undef, undef, undef, undef, undef, undef, undef, undef, undef, undef], defers := [] }
theorem sq56 (P : Prop) (h : P := by
 have hds := below_put3' D9.out hgx 0 (.bool (negQ by_)) (.slice E1 h1 i1) (.slice E2 h2 i2)
 have HDs := Hd hds
 clear hpo hds z0 z1 z2 f0 f1 f2 hlx
 refine And.intro HDs.out ⟨_, rfl, ?_⟩
 go_wp2_with fail
 refine NoPanic.normal ?_
 exact ⟨rfl, gx, E1, h1, i1, E2, h2, i2, F1, h3, i3, F2, h4, i4, rfl, HDs.out, hgx, HXs.out, HQs.out⟩) : P := h
theorem pivot_calls (base : Nat) (H : Nat → Option (List Rat)) (I : Nat → Option (List Int)) (w : World) (gt : Nat) (S : Shape) (gs : List (Nat × Nat)) (tn : List Bool) (T : Tab) (row col : Nat) (vg : Value) (G : Option (Nat × List Rat)) (hgain : (vg = .slice none 0 0 ∧ G = none) ∨ ∃ gg cg gain, vg = .slice (some ⟨gg, 0, none⟩) S.width cg ∧ H gg = some gain ∧ gain.length = S.width ∧ gg ∉ gs.map Prod.fst ∧ (∀ n c, S.right ≠ .slice (some ⟨gg, 0, none⟩) n c) ∧ G = some (gg, gain)) (hia : (∀ g n c, S.base = .slice (some ⟨g, 0, none⟩) n c → (∀ n c, S.plus ≠ .slice (some ⟨g, 0, none⟩) n c) ∧ (∀ n c, S.minus ≠ .slice (some ⟨g, 0, none⟩) n c) ∧ ∀ n c, S.id ≠ .slice (some ⟨g, 0, none⟩) n c)) (hv : View base H I w) (hT : TabW w gt S gs tn) (hV : TabV H I S gs T) (hrow : row < T.rows.length) (hcol : col < S.width) (he : ((T.rows.getD row []).getD col 0) ≠ 0) (hw : S.width ≤ 1000000) (hml : T.rows.length ≤ 1000000) :
  Calls Try.prog 107 #[.pointer (some ⟨gt, 0, none⟩), .int .i64 (row : Int), .int .i64 (col : Int), vg] w fun e w' => PivPost base H I S gs T row col G w e w' := by
 have HV := Hd hv
 have HTV := Hd hV
 obtain ⟨r, hr⟩ : ∃ x, T.rows[row]? = some x := ⟨T.rows[row], geq hrow⟩
 obtain ⟨⟨gi, ci⟩, hgi⟩ : ∃ x, gs[row]? = some x := ⟨gs[row]'(by rw [hV.len]; exact hrow), geq _⟩
 have HROW := Hd (hV.row row _ r hgi hr).1
 have hrl := (hV.row row _ r hgi hr).2
 obtain ⟨p0, p1, p2, p3, vRows, vRight, vBase, vPlus, vMinus, real, width, vId, vTurned⟩ := S
 obtain ⟨AR, cR, eR⟩ := hT.2.1.slice
 obtain rfl : vRows = _ := eR
 obtain ⟨gR, rfl, hgR, kR⟩ := hT.2.1.at_ hgi
 obtain ⟨Ar, cr, er⟩ := hV.right.slice
 obtain rfl : vRight = _ := er
 obtain ⟨gr, rfl, hgr⟩ := hV.right.at_ (by rw [hV.rightLen]; omega)
 obtain ⟨Ab, cb, eb⟩ := hV.base.slice
 obtain rfl : vBase = _ := eb
 obtain ⟨gb, rfl, hgb⟩ := hV.base.at_ (by rw [hV.baseLen]; omega)
 have hbs := hT.1
 have HT := Hd hT
 have hcr : col < r.length := by rw [hrl]; exact hcol
 obtain ⟨e, hec⟩ : ∃ x, r[col]? = some x := ⟨r[col], geq hcr⟩
 have HNZ : Hid (e ≠ 0) := by unfold Hid; rw [getD_at hr, getD_at hec] at he; exact he
 have hcol' : col < width := hcol
 have hw' : width ≤ 1000000 := hw
 have HRL : Hid (r.length = width) := hrl
 have hgl := hV.len
 obtain ⟨m, hm⟩ : ∃ m, m = T.rows.length := ⟨_, rfl⟩
 have HBS : Hid (Blk w gt 121 #[p0, p1, p2, p3, .slice (some ⟨gR, 0, none⟩) m cR, .slice (some ⟨gr, 0, none⟩) m cr, .slice (some ⟨gb, 0, none⟩) m cb, vPlus, vMinus, .int .i64 (real : Int), .int .i64 (width : Int), vId, vTurned]) := by
  have h1 := hV.rightLen
  have h2 := hV.baseLen
  unfold Hid
  rw [hm, ← h1]
  have := hbs
  unfold Shape.cells at this
  simp only at this
  rw [hgl, h2, ← h1] at this
  exact this
 have HM := Hd hm
 have hrow' : row < m := by omega
 have hmle : m ≤ 1000000 := by omega
 have HEC := Hd hec
 have HRR := Hd hr
 have HGI := Hd hgi
 have HSE : Hid (Small e) := HV.out.small HROW.out hec
 obtain ⟨by_, hby⟩ : ∃ b, b = quoQ 1 e := ⟨_, rfl⟩
 have HBY := Hd hby
 obtain ⟨A1, n1, c1, A2, n2, c2, e0, e1, e2, HFE⟩ := HV.out.at_ HROW.out hec
 have hgil := HV.out.lt HROW.out
 have kR' : w.cell? ⟨gR, row, none⟩ = some (.slice (some ⟨gi, 0, none⟩) width ci) := kR
 obtain ⟨x0, x4, x5, x6, x7, x8, x9, x10, x11, x12⟩ := HBS.out.c13
 have hltt := HBS.out.lt
 have m1 : (row : Int) < (m : Int) := by omega
 have m2 : (col : Int) < (width : Int) := by omega
 have m3 : (row : Int).toNat = row := by omega
 have m4 : (0 : Int) ≤ (row : Int) := by omega
 have m5 : (col : Int).toNat = col := by omega
 have m6 : (0 : Int) ≤ (col : Int) := by omega
 have HGN := Hd hgain
 have HIA := Hd (hia gb T.base.length cb rfl)
 have HGR := Hd hgr
 have HGB := Hd hgb
 have HNE : Hid (gr ≠ gi) := fun e => HTV.out.apart gr cr _ rfl (by rw [e]; exact key_mem HGI.out)
 clear hgain hia hv hT hV hr hgi hrl hgr hgb hbs hcr hec he hm hby kR hcol hw hrow hml hgl
 go_enter Try.func107, Try.ntmps107
 go_wp2_with fail
 refine Code.wp_mono (Q := fun ex a W => ex = .normal ∧ ∃ gx E1 h1 i1 E2 h2 i2 F1 h3 i3 F2 h4 i4, a = PivAct gt row col vg gR m cR gi width ci gx e by_ A1 n1 c1 A2 n2 c2 E1 h1 i1 E2 h2 i2 F1 h3 i3 F2 h4 i4 ∧ Below w.heap.size w W ∧ w.heap.size ≤ gx ∧ Blk W gx 40 #[.bool (negQ by_), .slice E1 h1 i1, .slice E2 h2 i2] ∧ FQ W (.agg #[.bool (negQ by_), .slice E1 h1 i1, .slice E2 h2 i2]) by_) ?_ ?_
 rotate_left
 ·have D0 : Hid (Below w.heap.size w w.drew) := Bd
  refine wp_tree (l := [_, _, _, _, _, _, _, _, _, _, _, _, _, _, _, _, _, _]) (S := Below w.heap.size w) 17 (.two [1, 2, 3, 4, 5, 6, 7, 8, 9, 10] 0 (.two [] 11 (.one [12, 13, 14] 15 (.one [] 16 (.fin []))) 15 (.one [] 11 (.one [12, 13, 14] 16 (.fin [])))) 15 (.one [] 0 (.one [] 11 (.one [12, 13, 14] 16 (.fin []))))) (by kernel_rfl) (by kernel_rfl) (by kernel_rfl) rfl Bd ?_
  refine ⟨?_, _, _, ?_, rfl, rfl, ?_, ?_⟩
  rotate_left
  ·repeat (refine pu ?_; (try simp only [SQ]))
   exact rfl
  ·go_wp2_with fail
   refine (number_calls _ 1 (by omega) (by omega)).mono ?_
   rintro ee W1 ⟨v, rfl, hv, hb⟩
   obtain ⟨F1, h3, i3, F2, h4, i4, rfl, HN⟩ := hv.opened
   have D2 := Hd (below_next D0.out hb)
   clear hv hb
   go_wp2_with fail
   refine And.intro D2.out ⟨_, _, _, rfl, rfl, rfl, ?_, ?_⟩
   ·go_wp2_with fail
    refine (fdiv_calls _ _ _ (rawQ 1) (rawQ e) (FR.of_fq HN.out small_one) (FR.of_fq (HFE.out.of_below D2.out) HSE.out) (by rw [fixQ_raw _ HSE.out]; exact HNZ.out)).mono ?_
    rintro ee W3 ⟨v, rfl, hv, hb⟩
    rw [fixQ_raw _ small_one, fixQ_raw _ HSE.out] at hv
    rw [show capQ (1 * e⁻¹) = by_ from HBY.out.symm] at hv
    obtain ⟨E1, h1, i1, E2, h2, i2, rfl, HQ⟩ := hv.opened
    have N4v := Hd (HN.out.of_below hb)
    have D5 := Hd (below_next D2.out hb)
    clear hv hb
    go_wp2_with fail
    refine And.intro D5.out ⟨?_, _, ?_, rfl, ?_⟩
    rotate_left
    ·repeat (refine pu ?_; (try simp only [SQ]))
     exact rfl
    go_wp2_with fail
    have hbn := below_new W3 (.cells #[.bool false, .slice none 0 0, .slice none 0 0] 40)
    have HX := Hd (Blk.new W3 40 #[.bool false, .slice none 0 0, .slice none 0 0])
    have hgx : w.heap.size ≤ W3.heap.size := D5.out.size
    have N7v := Hd (N4v.out.of_below hbn)
    have Q8v := Hd (HQ.out.of_below hbn)
    have D9 := Hd (below_next D5.out hbn)
    obtain ⟨gx, hgx2⟩ : ∃ g, g = W3.heap.size := ⟨_, rfl⟩
    rw [← hgx2] at HX hgx ⊢
    generalize W3.alloc (.cells #[.bool false, .slice none 0 0, .slice none 0 0] 40) = W6 at *
    clear hgx2 hbn
    refine And.intro D9.out ⟨_, _, rfl, rfl, ?_⟩
    obtain ⟨z0, z1, z2⟩ := HX.out.c3
    obtain ⟨f0, f1, f2⟩ := HX.out.f3
    have hlx := HX.out.lt
    go_wp2_with fail
    have hpo := put3_only (o := 0) (a := .bool (negQ by_)) (b := .slice E1 h1 i1) (c := .slice E2 h2 i2) HX.out zf_words
    have HXs := Hd (HX.out.put3 (.bool (negQ by_)) (.slice E1 h1 i1) (.slice E2 h2 i2))
    have HQs := Hd (Q8v.out.keeps hpo.1)
    exact sq56 _
   ·go_wp2_with fail
    have hbn := below_new W1 (.cells #[.bool false, .slice none 0 0, .slice none 0 0] 40)
    have HX := Hd (Blk.new W1 40 #[.bool false, .slice none 0 0, .slice none 0 0])
    have hgx : w.heap.size ≤ W1.heap.size := D2.out.size
    have N4v := Hd (HN.out.of_below hbn)
    have D5 := Hd (below_next D2.out hbn)
    obtain ⟨gx, hgx2⟩ : ∃ g, g = W1.heap.size := ⟨_, rfl⟩
    rw [← hgx2] at HX hgx ⊢
    generalize W1.alloc (.cells #[.bool false, .slice none 0 0, .slice none 0 0] 40) = W3 at *
    clear hgx2 hbn
    refine And.intro D5.out ⟨_, _, rfl, rfl, ?_⟩
    go_wp2_with fail
    refine (fdiv_calls _ _ _ (rawQ 1) (rawQ e) (FR.of_fq N4v.out small_one) (FR.of_fq (HFE.out.of_below D5.out) HSE.out) (by rw [fixQ_raw _ HSE.out]; exact HNZ.out)).mono ?_
    rintro ee W6 ⟨v, rfl, hv, hb⟩
    rw [fixQ_raw _ small_one, fixQ_raw _ HSE.out] at hv
    rw [show capQ (1 * e⁻¹) = by_ from HBY.out.symm] at hv
    obtain ⟨E1, h1, i1, E2, h2, i2, rfl, HQ⟩ := hv.opened
    have N7v := Hd (N4v.out.of_below hb)
    have X8v := Hd (HX.out.below hb HX.out.lt)
    have D9 := Hd (below_next D5.out hb)
    clear hv hb
    go_wp2_with fail
    refine And.intro D9.out ⟨?_, _, ?_, rfl, ?_⟩
    rotate_left
    ·repeat (refine pu ?_; (try simp only [SQ]))
     exact rfl
    obtain ⟨z0, z1, z2⟩ := X8v.out.c3
    obtain ⟨f0, f1, f2⟩ := X8v.out.f3
    have hlx := X8v.out.lt
    go_wp2_with fail
    have hpo := put3_only (o := 0) (a := .bool (negQ by_)) (b := .slice E1 h1 i1) (c := .slice E2 h2 i2) X8v.out zf_words
    have HXs := Hd (X8v.out.put3 (.bool (negQ by_)) (.slice E1 h1 i1) (.slice E2 h2 i2))
    have HQs := Hd (HQ.out.keeps hpo.1)
    exact sq56 _
  ·go_wp2_with fail
   have HX : Hid (Blk ((w.alloc (.cells #[.bool false, .slice none 0 0, .slice none 0 0] 40)).drew) w.heap.size 40 #[.bool false, .slice none 0 0, .slice none 0 0]) := Blk.new w 40 #[.bool false, .slice none 0 0, .slice none 0 0]
   have D2 : Hid (Below w.heap.size w ((w.alloc (.cells #[.bool false, .slice none 0 0, .slice none 0 0] 40)).drew)) := Below.drew (below_new w (.cells #[.bool false, .slice none 0 0, .slice none 0 0] 40))
   have hgx : w.heap.size ≤ w.heap.size := Nat.le_refl _
   generalize (w.alloc (.cells #[.bool false, .slice none 0 0, .slice none 0 0] 40)).drew = W1 at *
   refine And.intro D2.out ⟨_, _, rfl, rfl, ?_⟩
   go_wp2_with fail
   refine (number_calls _ 1 (by omega) (by omega)).mono ?_
   rintro ee W3 ⟨v, rfl, hv, hb⟩
   obtain ⟨F1, h3, i3, F2, h4, i4, rfl, HN⟩ := hv.opened
   have X4v := Hd (HX.out.below hb HX.out.lt)
   have D5 := Hd (below_next D2.out hb)
   clear hv hb
   go_wp2_with fail
   refine And.intro D5.out ⟨_, _, rfl, rfl, ?_⟩
   go_wp2_with fail
   refine (fdiv_calls _ _ _ (rawQ 1) (rawQ e) (FR.of_fq HN.out small_one) (FR.of_fq (HFE.out.of_below D5.out) HSE.out) (by rw [fixQ_raw _ HSE.out]; exact HNZ.out)).mono ?_
   rintro ee W6 ⟨v, rfl, hv, hb⟩
   rw [fixQ_raw _ small_one, fixQ_raw _ HSE.out] at hv
   rw [show capQ (1 * e⁻¹) = by_ from HBY.out.symm] at hv
   obtain ⟨E1, h1, i1, E2, h2, i2, rfl, HQ⟩ := hv.opened
   have X7v := Hd (X4v.out.below hb X4v.out.lt)
   have N8v := Hd (HN.out.of_below hb)
   have D9 := Hd (below_next D5.out hb)
   clear hv hb
   go_wp2_with fail
   refine And.intro D9.out ⟨?_, _, ?_, rfl, ?_⟩
   rotate_left
   ·repeat (refine pu ?_; (try simp only [SQ]))
    exact rfl
   obtain ⟨z0, z1, z2⟩ := X7v.out.c3
   obtain ⟨f0, f1, f2⟩ := X7v.out.f3
   have hlx := X7v.out.lt
   go_wp2_with fail
   have hpo := put3_only (o := 0) (a := .bool (negQ by_)) (b := .slice E1 h1 i1) (c := .slice E2 h2 i2) X7v.out zf_words
   have HXs := Hd (X7v.out.put3 (.bool (negQ by_)) (.slice E1 h1 i1) (.slice E2 h2 i2))
   have HQs := Hd (HQ.out.keeps hpo.1)
   have hds := below_put3' D9.out hgx 0 (.bool (negQ by_)) (.slice E1 h1 i1) (.slice E2 h2 i2)
   have HDs := Hd hds
   clear hpo hds z0 z1 z2 f0 f1 f2 hlx
   refine And.intro HDs.out ⟨_, rfl, ?_⟩
   go_wp2_with fail
   refine NoPanic.normal ?_
   exact ⟨rfl, w.heap.size, E1, h1, i1, E2, h2, i2, F1, h3, i3, F2, h4, i4, rfl, HDs.out, hgx, HXs.out, HQs.out⟩
 ·rintro ex a W0 ⟨rfl, gx, E1, h1, i1, E2, h2, i2, F1, h3, i3, F2, h4, i4, rfl, hbl, hgx, hbx, hbq⟩
  unfold PivAct
  have HB0 := Hd hbl
  have HGX := Hd hgx
  have HBX := Hd hbx
  have HBQ := Hd hbq
  have HC0 := Hd (ChgS.of_below (base := base) hbl)
  have HV0 := Hd (HV.out.below hbl)
  have k0 : W0.cell? ⟨gR, row, none⟩ = some (.slice (some ⟨gi, 0, none⟩) width ci) := by rw [(bcell hbl).1 gR _ hgR]; exact kR'
  have hgR0 : gR < W0.heap.size := Nat.lt_of_lt_of_le hgR hbl.size
  clear hbl hgx hbx hbq x0 x4 x5 x6 x7 x8 x9 x10 x11 x12 hltt kR' hgR e0 e1 e2 hgil HFE
  obtain ⟨x0, x4, x5, x6, x7, x8, x9, x10, x11, x12⟩ := (HBS.out.below HB0.out HBS.out.lt).c13
  have hltt := (HBS.out.below HB0.out HBS.out.lt).lt
  have HGXI : Hid (gx ≠ gi) := by have := HV.out.lt HROW.out; have := HGX.out; unfold Hid; omega
  have HPL : Hid ((pivRow by_ r).length = r.length) := by unfold Hid pivRow; rw [lmp]
  have HSB : Hid (Small by_) := by unfold Hid; rw [HBY.out]; exact small_cap _
  go_wp2_with fail
  clear x0 x4 x5 x6 x7 x8 x9 x10 x11 x12 hltt k0 hgR0
  go_loopw [37] (fun vi wr => ∃ j : Nat, j ≤ width ∧ vi = .int .i64 (j : Int) ∧ View base (upd H gi (mix (pivRow by_ r) r j)) I wr ∧ Blk wr gx 40 #[.bool (negQ by_), .slice E1 h1 i1, .slice E2 h2 i2] ∧ FQ wr (.agg #[.bool (negQ by_), .slice E1 h1 i1, .slice E2 h2 i2]) by_ ∧ ChgS base w wr) (fun vi _ => width - (intOf vi).toNat)
  case atStart => exact ⟨0, Nat.zero_le _, rfl, by rw [mix_zero, upd_same HROW.out]; exact HV0.out, HBX.out, HBQ.out, HC0.out⟩
  case round =>
   obtain ⟨j, hj, rfl, hv, hbx, hbq, hcs⟩ := hrel
   have HVj := Hd hv
   have HXj := Hd hbx
   have HQj := Hd hbq
   have HCj := Hd hcs
   clear hv hbx hbq hcs HV0 HBX HBQ HC0
   by_cases hjt : j < width
   ·have hjr : j < r.length := by have := HRL.out; omega
    obtain ⟨f, hf⟩ : ∃ x, r[j]? = some x := ⟨r[j], geq hjr⟩
    have HUL : Hid (upd H gi (mix (pivRow by_ r) r j) gi = some (mix (pivRow by_ r) r j)) := upd_self _ _ _
    have HML := Hd (mix_at HPL.out hf)
    have HPT : Hid ((pivRow by_ r)[j]? = some (if f = 0 then f else mulQ f by_)) := by unfold Hid pivRow; rw [List.getElem?_map, hf]; rfl
    have HSF : Hid (Small f) := HVj.out.small HUL.out HML.out
    have HMN : Hid (j < (mix (pivRow by_ r) r j).length) := by unfold Hid; rw [mix_length HPL.out]; exact hjr
    have HFI := Hd hf
    obtain ⟨A3, n3, c3, A4, n4, c4, k0, k1, k2, HFF⟩ := HVj.out.at_ HUL.out HML.out
    have hgil := HVj.out.lt HUL.out
    have mj1 : (j : Int) < (width : Int) := by omega
    have mj3 : (j : Int).toNat = j := by omega
    have mj4 : (0 : Int) ≤ (j : Int) := by omega
    clear hf
    go_wp2_with fail
    have hbn := below_new wr (.cells #[.bool (negQ f), .slice A3 n3 c3, .slice A4 n4 c4] 40)
    have HV1 := Hd (HVj.out.below hbn)
    have HX1 := Hd (HXj.out.below hbn HXj.out.lt)
    have HQ1 := Hd (HQj.out.of_below hbn)
    have HC1 := Hd (HCj.out.trans (ChgS.of_below hbn))
    have HF1 := Hd (HFF.out.of_below hbn)
    have HY1 := Hd (Blk.new wr 40 #[.bool (negQ f), .slice A3 n3 c3, .slice A4 n4 c4])
    obtain ⟨g7, hg7⟩ : ∃ g, g = wr.heap.size := ⟨_, rfl⟩
    rw [← hg7] at HY1 ⊢
    generalize wr.alloc (.cells #[.bool (negQ f), .slice A3 n3 c3, .slice A4 n4 c4] 40) = W1 at *
    clear hg7 hbn k0 k1 k2 hgil
    refine (sgn_calls _ _ (rawQ f) (FR.of_fq HF1.out HSF.out)).mono ?_
    rintro ee w4 ⟨rfl, hb⟩
    rw [fixQ_raw _ HSF.out]
    have HV4 := Hd (HV1.out.below hb)
    have HX4 := Hd (HX1.out.below hb HX1.out.lt)
    have HQ4 := Hd (HQ1.out.of_below hb)
    have HC4 := Hd (HC1.out.trans (ChgS.of_below hb))
    have HF4 := Hd (HF1.out.of_below hb)
    have HY4 := Hd (HY1.out.below hb HY1.out.lt)
    clear hb
    by_cases fz : f = 0
    ·have u2 : (signQ f != 0) = false := beqI (signQ_zero_iff.2 fz)
     have HMX : Hid (mix (pivRow by_ r) r (j + 1) = mix (pivRow by_ r) r j) := mix_skip HPL.out (by rw [HPT.out, if_pos fz]) HFI.out
     clear fz
     go_wp2_with fail
     go_roundw
     case rel => exact ⟨j + 1, by omega, by go_num, by rw [HMX.out]; exact HV4.out, HX4.out, HQ4.out, HC4.out⟩
     case measure => simp [intOf]; omega
    ·have u2 : (signQ f != 0) = true := bneI fun e => fz (signQ_zero_iff.1 e)
     have HMX : Hid ((mix (pivRow by_ r) r j).set j (mulQ f by_) = mix (pivRow by_ r) r (j + 1)) := mix_set HPL.out (by rw [HPT.out, if_neg fz])
     clear fz
     obtain ⟨gR', eR', hgR', k9⟩ := (HT.out.chg HC4.out).2.1.at_ HGI.out
     injection eR' with eR'
     injection eR' with eR' _
     subst eR'
     have k9' : w4.cell? ⟨gR, row, none⟩ = some (.slice (some ⟨gi, 0, none⟩) width ci) := k9
     obtain ⟨x0, x4, x5, x6, x7, x8, x9, x10, x11, x12⟩ := (HBS.out.chgS HC4.out (by decide) (by decide)).c13
     have hltt := (HBS.out.chgS HC4.out (by decide) (by decide)).lt
     obtain ⟨y0, y1, y2⟩ := HY4.out.c3
     have hly := HY4.out.lt
     obtain ⟨z0, z1, z2⟩ := HX4.out.c3
     have hlx := HX4.out.lt
     clear k9
     go_wp2_with fail
     refine wp_chainF (l := [_, _, _, _, _, _, _, _, _, _, _, _, _]) (S := Below w4.heap.size w4) 11 [([0, 1, 2, 3, 4, 5, 6, 7, 8, 9], 10)] [] (by kernel_rfl) (by kernel_rfl) (by kernel_rfl) rfl Bd ?_
     refine ⟨?_, _, ?_, rfl, ?_⟩
     rotate_left
     ·repeat (refine pu ?_; (try simp only [SQ]))
      exact rfl
     have D0 : Hid (Below w4.heap.size w4 w4.drew) := Bd
     go_wp2_with fail
     refine (fmul_calls _ _ _ (rawQ f) (rawQ by_) (FR.of_fq (HF4.out.of_below D0.out) HSF.out) (FR.of_fq (HQ4.out.of_below D0.out) HSB.out)).mono ?_
     rintro ee w6 ⟨v, rfl, hv, hb⟩
     rw [fixQ_raw _ HSF.out, fixQ_raw _ HSB.out] at hv
     obtain ⟨D7, n9, c9, D8, n10, c10, rfl, HF6⟩ := hv.opened
     have D6 := Hd (below_next D0.out hb)
     have HV6 := Hd (HV4.out.below D6.out)
     have HX6 := Hd (HX4.out.below D6.out HX4.out.lt)
     have HQ6 := Hd (HQ4.out.of_below D6.out)
     have HC6 := Hd (HC4.out.trans (ChgS.of_below D6.out))
     clear hv hb x0 x4 x5 x6 x7 x8 x9 x10 x11 x12 hltt y0 y1 y2 hly z0 z1 z2 hlx k9' hgR'
     go_wp2_with fail
     refine And.intro D6.out ⟨_, rfl, ?_⟩
     obtain ⟨A5, n5, c5, A6, n6, c6, j0, j1, j2, _⟩ := HV6.out.at_ HUL.out HML.out
     have f0 := HV6.out.free HUL.out (j * 3)
     have f1 := HV6.out.free HUL.out (j * 3 + 1)
     have f2 := HV6.out.free HUL.out (j * 3 + 2)
     go_wp2_with fail
     refine NoPanic.normal ?_
     have hst := HV6.out.set HUL.out HMN.out (small_cap _) HF6.out (HV6.out.sep HUL.out)
     obtain ⟨cs9, hb9, _⟩ := HV6.out.blk HUL.out
     have hcs9 := ChgS.of_only hst.2 hb9 (HV6.out.ge HUL.out) (Or.inl rfl)
     have HST := Hd hst
     have HCS9 := Hd hcs9
     clear hst hcs9 hb9
     go_wp2_with fail
     go_roundw
     case rel => exact ⟨j + 1, by omega, by go_num, by rw [← HMX.out, ← upd_upd]; exact HST.out.1, HST.out.2.blk HX6.out HGXI.out, HQ6.out.keeps HST.out.2.1, HC6.out.trans HCS9.out⟩
     case measure => simp [intOf]; omega
   ·obtain rfl : j = width := by omega
    have hmx : mix (pivRow by_ r) r j = pivRow by_ r := by rw [← HRL.out]; exact mix_all HPL.out
    rw [hmx] at HVj
    clear hmx
    obtain ⟨rp, hrp⟩ : ∃ l, l = pivRow by_ r := ⟨_, rfl⟩
    have HRP := Hd hrp
    have HRPL : Hid (rp.length = j) := by unfold Hid; rw [hrp, HPL.out, HRL.out]
    rw [← hrp] at HVj
    clear hrp
    have hrl2 : row < T.right.length := by rw [HTV.out.rightLen, ← HM.out]; exact hrow'
    obtain ⟨x, hx⟩ : ∃ x, T.right[row]? = some x := ⟨T.right[row], geq hrl2⟩
    have HXX := Hd hx
    have HK1 : Hid (upd H gi rp gr = some T.right) := by unfold Hid; rw [upd_ne HNE.out]; exact HGR.out
    have HSX : Hid (Small x) := HVj.out.small HK1.out hx
    obtain ⟨A3, n3, c3, A4, n4, c4, k0, k1, k2, HFX⟩ := HVj.out.at_ HK1.out hx
    have hgrl := HVj.out.lt HK1.out
    obtain ⟨x0, x4, x5, x6, x7, x8, x9, x10, x11, x12⟩ := (HBS.out.chgS HCj.out (by decide) (by decide)).c13
    have hltt := (HBS.out.chgS HCj.out (by decide) (by decide)).lt
    obtain ⟨z0, z1, z2⟩ := HXj.out.c3
    have hlx := HXj.out.lt
    clear hx
    go_wp2_with fail
    refine wp_chainF (l := [_, _, _, _, _, _, _, _, _, _, _, _, _, _, _, _]) (S := Below wr.heap.size wr) 14 [([0, 1, 2, 3, 4, 5, 6, 7, 8, 9, 10, 11, 12], 13)] [] (by kernel_rfl) (by kernel_rfl) (by kernel_rfl) rfl Bd ?_
    refine ⟨?_, _, ?_, rfl, ?_⟩
    rotate_left
    ·repeat (refine pu ?_; (try simp only [SQ]))
     exact rfl
    have D0 : Hid (Below wr.heap.size wr wr.drew) := Bd
    go_wp2_with fail
    refine (fmul_calls _ _ _ (rawQ x) (rawQ by_) (FR.of_fq (HFX.out.of_below D0.out) HSX.out) (FR.of_fq (HQj.out.of_below D0.out) HSB.out)).mono ?_
    rintro ee w6 ⟨v, rfl, hv, hb⟩
    rw [fixQ_raw _ HSX.out, fixQ_raw _ HSB.out] at hv
    obtain ⟨D7, n9, c9, D8, n10, c10, rfl, HF6⟩ := hv.opened
    have D6 := Hd (below_next D0.out hb)
    have HV6 := Hd (HVj.out.below D6.out)
    have HC6 := Hd (HCj.out.trans (ChgS.of_below D6.out))
    clear hv hb x0 x4 x5 x6 x7 x8 x9 x10 x11 x12 hltt z0 z1 z2 hlx k0 k1 k2 hgrl
    go_wp2_with fail
    refine And.intro D6.out ⟨_, rfl, ?_⟩
    obtain ⟨A5, n5, c5, A6, n6, c6, j0, j1, j2, _⟩ := HV6.out.at_ HK1.out HXX.out
    have f0 := HV6.out.free HK1.out (row * 3)
    have f1 := HV6.out.free HK1.out (row * 3 + 1)
    have f2 := HV6.out.free HK1.out (row * 3 + 2)
    have hgl6 := HV6.out.lt HK1.out
    go_wp2_with fail
    refine NoPanic.normal ?_
    have hst := HV6.out.set HK1.out hrl2 (small_cap _) HF6.out (HV6.out.sep HK1.out)
    obtain ⟨cs9, hb9, _⟩ := HV6.out.blk HK1.out
    have hcs9 := ChgS.of_only hst.2 hb9 (HV6.out.ge HK1.out) (Or.inl rfl)
    obtain ⟨rr, hrr⟩ : ∃ q, q = mulQ x by_ := ⟨_, rfl⟩
    have HRQ := Hd hrr
    have HV7 : Hid (View base (upd (upd H gi rp) gr (T.right.set row rr)) I (put3 w6 gr (row * 3) (.bool (negQ (capQ (x * by_)))) (.slice D7 n9 c9) (.slice D8 n10 c10))) := by unfold Hid; rw [hrr]; exact hst.1
    have HC7 := Hd (HC6.out.trans hcs9)
    obtain ⟨W7, hW7⟩ : ∃ W, W = ((w6.setCell ⟨gr, row * 3, none⟩ (.bool (negQ (capQ (x * by_))))).setCell ⟨gr, row * 3 + 1, none⟩ (.slice D7 n9 c9)).setCell ⟨gr, row * 3 + 2, none⟩ (.slice D8 n10 c10) := ⟨_, rfl⟩
    rw [show put3 w6 gr (row * 3) (.bool (negQ (capQ (x * by_)))) (.slice D7 n9 c9) (.slice D8 n10 c10) = W7 from hW7.symm] at HV7 HC7
    rw [← hW7]
    clear hst hb9 hcs9 hrr hW7 j0 j1 j2 f0 f1 f2 hgl6
    obtain ⟨x0, x4, x5, x6, x7, x8, x9, x10, x11, x12⟩ := (HBS.out.chgS HC7.out (by decide) (by decide)).c13
    have hltt := (HBS.out.chgS HC7.out (by decide) (by decide)).lt
    go_wp2_with fail
    clear x0 x4 x5 x6 x7 x8 x9 x10 x11 x12 hltt
    have HND := Hd HTV.out.nodup
    have HRA0 := Hd (ra_zero (row := row) (col := col) (rr := rr) (rows := T.rows) (right := T.right))
    have HGSL : Hid (gs.length = m) := by unfold Hid; rw [HM.out]; exact HTV.out.len
    go_loopw [78] (fun vi wr => ∃ i : Nat, i ≤ m ∧ vi = .int .i64 (i : Int) ∧ (∃ Hc, View base Hc I wr ∧ (∀ (j : Nat) (p : Nat × Nat) (x : List Rat), gs[j]? = some p → T.rows[j]? = some x → Hc p.1 = some (rowsAt row col rp i j x)) ∧ Hc gr = some (T.right.mapIdx (rightAt row col rr T.rows i)) ∧ ∀ k, k ∉ gs.map Prod.fst → k ≠ gr → Hc k = H k) ∧ ChgS base w wr) (fun vi _ => m - (intOf vi).toNat)
    case atStart =>
     refine ⟨0, Nat.zero_le _, rfl, ⟨_, HV7.out, fun k p x hk hx => ?_, by rw [upd_self, HRA0.out], fun k hk hkr => ?_⟩, HC7.out⟩
     ·have hpg : p.1 ≠ gr := fun e => HTV.out.apart gr cr _ rfl (by rw [← e]; exact key_mem hk)
      rw [upd_ne hpg]
      by_cases e : k = row
      ·subst e
       rw [HGI.out] at hk
       injection hk with hk
       subst hk
       rw [upd_self, rowsAt_row]
      ·rw [upd_ne (nodup_key HND.out hk HGI.out e), rowsAt_zero e]
       exact (HTV.out.row k p x hk hx).1
     ·rw [upd_ne hkr, upd_ne (fun e => hk (by rw [e]; exact key_mem HGI.out))]
    case round =>
     obtain ⟨i, hi, rfl, ⟨Hc, hv, hrows, hrt, hoth⟩, hcs⟩ := hrel
     have HVi := Hd hv
     have HRW := Hd hrows
     have HRT := Hd hrt
     have HOT := Hd hoth
     have HCi := Hd hcs
     clear hv hrows hrt hoth hcs HV7 HC7
     obtain ⟨x0, x4, x5, x6, x7, x8, x9, x10, x11, x12⟩ := (HBS.out.chgS HCi.out (by decide) (by decide)).c13
     have hltt := (HBS.out.chgS HCi.out (by decide) (by decide)).lt
     by_cases hlt : i < m
     ·obtain ⟨ri, hri⟩ : ∃ x, T.rows[i]? = some x := ⟨T.rows[i]'(by rw [← HM.out]; exact hlt), geq _⟩
      obtain ⟨⟨gk, ck⟩, hgk⟩ : ∃ x, gs[i]? = some x := ⟨gs[i]'(by rw [HGSL.out]; exact hlt), geq _⟩
      obtain ⟨cu, hcu⟩ : ∃ l, l = rowsAt row col rp i i ri := ⟨_, rfl⟩
      have HKI : Hid (Hc gk = some cu) := by unfold Hid; rw [hcu]; exact HRW.out i _ ri hgk hri
      have HRIL : Hid (ri.length = j) := (HTV.out.row i _ ri hgk hri).2
      have HCUL : Hid (cu.length = j) := by
       unfold Hid
       rw [hcu]
       by_cases e : i = row
       ·rw [e, rowsAt_row]; exact HRPL.out
       ·rw [rowsAt_here e]; exact HRIL.out
      obtain ⟨f, hf⟩ : ∃ x, cu[col]? = some x := ⟨cu[col]'(by rw [HCUL.out]; exact hcol'), geq _⟩
      have HFF := Hd hf
      have HCU := Hd hcu
      have HRI := Hd hri
      have HGK := Hd hgk
      have HSF : Hid (Small f) := HVi.out.small HKI.out hf
      obtain ⟨A5, n5, c5, A6, n6, c6, k0, k1, k2, HFQ⟩ := HVi.out.at_ HKI.out hf
      have hgkl := HVi.out.lt HKI.out
      obtain ⟨gR', eR', hgR', k9⟩ := (HT.out.chg HCi.out).2.1.at_ hgk
      injection eR' with eR'
      injection eR' with eR' _
      subst eR'
      have k9' : wr.cell? ⟨gR, i, none⟩ = some (.slice (some ⟨gk, 0, none⟩) j ck) := k9
      have mi1 : (i : Int) < (m : Int) := by omega
      have mi3 : (i : Int).toNat = i := by omega
      have mi4 : (0 : Int) ≤ (i : Int) := by omega
      clear hri hgk hcu hf k9
      go_upto_region 12 with (fail)
      have hbn := below_new wr (.cells #[.bool (negQ f), .slice A5 n5 c5, .slice A6 n6 c6] 40)
      have HV1 := Hd (HVi.out.below hbn)
      have HC1 := Hd (HCi.out.trans (ChgS.of_below hbn))
      have HF1 := Hd (HFQ.out.of_below hbn)
      have HY1 := Hd (Blk.new wr 40 #[.bool (negQ f), .slice A5 n5 c5, .slice A6 n6 c6])
      obtain ⟨g7, hg7⟩ : ∃ g, g = wr.heap.size := ⟨_, rfl⟩
      have HG7 : Hid (g7 ≠ gk) := by unfold Hid; omega
      rw [← hg7] at HY1 ⊢
      generalize wr.alloc (.cells #[.bool (negQ f), .slice A5 n5 c5, .slice A6 n6 c6] 40) = W1 at *
      clear hg7 hbn k0 k1 k2 hgkl x0 x4 x5 x6 x7 x8 x9 x10 x11 x12 hltt k9' hgR'
      obtain ⟨y0, y1, y2⟩ := HY1.out.c3
      have hly := HY1.out.lt
      by_cases hir : i = row
      ·have u1 : ((i : Int) != (row : Int)) = false := beqI (by omega)
       have HIR := Hd hir
       clear hir
       go_wp2_with fail
       go_roundw
       case rel => exact ⟨i + 1, by omega, by go_num, ⟨Hc, HV1.out, fun k p x hk hx => by rw [rowsAt_same (.inl HIR.out)]; exact HRW.out k p x hk hx, by rw [ra_same (.inl HIR.out)]; exact HRT.out, HOT.out⟩, HC1.out⟩
       case measure => simp [intOf]; omega
      have u1 : ((i : Int) != (row : Int)) = true := bneI (by omega)
      have HCR : Hid (cu = ri) := by unfold Hid; rw [HCU.out, rowsAt_here hir]
      rw [HCR.out] at HKI HFF
      have HIR := Hd hir
      clear hir
      go_wp2_with fail
      refine (sgn_calls _ _ (rawQ f) (FR.of_fq HF1.out HSF.out)).mono ?_
      rintro ee w4 ⟨rfl, hb⟩
      rw [fixQ_raw _ HSF.out]
      have HV4 := Hd (HV1.out.below hb)
      have HC4 := Hd (HC1.out.trans (ChgS.of_below hb))
      have HF4 := Hd (HF1.out.of_below hb)
      have HY4 := Hd (HY1.out.below hb HY1.out.lt)
      clear hb y0 y1 y2 hly
      by_cases fz : f = 0
      ·have u2 : (signQ f != 0) = false := beqI (signQ_zero_iff.2 fz)
       have HF0 : Hid ((T.rows.getD i []).getD col 0 = 0) := by unfold Hid; rw [getD_at HRI.out, getD_at HFF.out, fz]
       clear fz
       go_wp2_with fail
       go_roundw
       case rel => exact ⟨i + 1, by omega, by go_num, ⟨Hc, HV4.out, fun k p x hk hx => by rw [rowsAt_same (.inr fun e => by subst e; rw [getD_at hx] at HF0; exact HF0.out)]; exact HRW.out k p x hk hx, by rw [ra_same (.inr HF0.out)]; exact HRT.out, HOT.out⟩, HC4.out⟩
       case measure => simp [intOf]; omega
      have u2 : (signQ f != 0) = true := bneI fun e => fz (signQ_zero_iff.1 e)
      have HF0 : Hid ((T.rows.getD i []).getD col 0 = f) := by unfold Hid; rw [getD_at HRI.out, getD_at HFF.out]
      have HFN := Hd fz
      clear fz
      have HKR : Hid (Hc gi = some rp) := by
       unfold Hid
       have := HRW.out row _ r HGI.out HRR.out
       rw [rowsAt_row] at this
       exact this
      have HKG : Hid (gk ≠ gi) := nodup_key HND.out HGK.out HGI.out HIR.out
      have HBS4 := Hd (HBS.out.chgS HC4.out (by decide) (by decide))
      obtain ⟨csk, hbk, _⟩ := HV4.out.blk HKI.out
      have hgtk : gt ≠ gk := Blk.apart HBS4.out hbk (by decide)
      obtain ⟨gR', eR', hgR', k9⟩ := (HT.out.chg HC4.out).2.1.at_ HGK.out
      injection eR' with eR'
      injection eR' with eR' _
      subst eR'
      have k9' : w4.cell? ⟨gR, i, none⟩ = some (.slice (some ⟨gk, 0, none⟩) j ck) := k9
      obtain ⟨gR', eR', _, k8⟩ := (HT.out.chg HC4.out).2.1.at_ HGI.out
      injection eR' with eR'
      injection eR' with eR' _
      subst eR'
      have k8' : w4.cell? ⟨gR, row, none⟩ = some (.slice (some ⟨gi, 0, none⟩) j ci) := k8
      have hgRk : gR ≠ gk := by
       obtain ⟨gR2, c2, cur2, e2, hb2, _⟩ | h0 := (HT.out.chg HC4.out).2.1.symm
       ·injection e2 with e2 _ _
        injection e2 with e2
        injection e2 with e2
        subst e2
        exact Blk.apart hb2 hbk (by decide)
       ·cases h0.2
      have HK9 := Hd k9'
      have HK8 := Hd k8'
      have HGTK := Hd hgtk
      have HGRK := Hd hgRk
      have HGRL := Hd hgR'
      clear k9 k8 k9' k8' hbk hgtk hgRk hgR'
      go_wp2_with fail
      refine wp_chainF (l := [_, _, _, _, _, _, _, _, _, _, _, _, _, _, _, _]) (S := Only gk w4) 16 [([0, 1, 2, 3, 4, 5, 6, 7, 8, 9, 10, 11, 12, 13, 14], 15)] [] (by kernel_rfl) (by kernel_rfl) (by kernel_rfl) rfl (Only.of_below Bd) ?_
      refine ⟨?_, _, ?_, rfl, ?_⟩
      rotate_left
      ·repeat (refine ⟨_, ?_, rfl, Or.inl ⟨by rfl, ?_⟩, ?_⟩; rotate_left; focus (intro W hW; obtain ⟨x0, x4, x5, x6, x7, x8, x9, x10, x11, x12⟩ := (hW.blk HBS4.out HGTK.out).c13; have l0 := (hW.blk HBS4.out HGTK.out).lt; obtain ⟨y0, y1, y2⟩ := (hW.blk HY4.out HG7.out).c3; have l1 := (hW.blk HY4.out HG7.out).lt; have k9 := (only_cell hW HGRL.out HGRK.out i).trans HK9.out; have k8 := (only_cell hW HGRL.out HGRK.out row).trans HK8.out; clear hW; go_simp; try with_reducible rfl); (try simp only [SQ]))
       exact rfl
      have D0 : Hid (Below w4.heap.size w4 w4.drew) := Bd
      go_wp2_with fail
      refine (take_calls' base Hc I _ gk gi ck ci ri rp _ f j HRIL.out.symm (HV4.out.below D0.out) HKI.out HKR.out HKG.out (by rw [HRPL.out, HRIL.out]) (HF4.out.of_below D0.out) HSF.out (by rw [HRIL.out]; omega)).mono ?_
      rintro ee w5 ⟨rfl, hv5, ho5⟩
      have HV5 := Hd hv5
      have HO5 := Hd ((Only.of_below D0.out).trans ho5)
      clear hv5 ho5
      go_wp2_with fail
      refine And.intro HO5.out ⟨_, rfl, ?_⟩
      go_wp2_with fail
      refine NoPanic.normal ?_
      have HV6 := HV5
      have HC6 := Hd (HC4.out.trans (ChgS.of_only HO5.out (HV4.out.blk HKI.out).choose_spec.1 (HV4.out.ge HKI.out) (Or.inl rfl)))
      have HY6 := Hd (HO5.out.blk HY4.out HG7.out)
      have HF6 := Hd (HF4.out.keeps HO5.out.1)
      have hil2 : i < T.right.length := by rw [HTV.out.rightLen, ← HM.out]; exact hlt
      obtain ⟨y, hy⟩ : ∃ x, T.right[i]? = some x := ⟨T.right[i], geq hil2⟩
      have HYY := Hd hy
      obtain ⟨RA, hRA⟩ : ∃ l, l = T.right.mapIdx (rightAt row col rr T.rows i) := ⟨_, rfl⟩
      have HRA := Hd hRA
      have HRY : Hid (RA[i]? = some y) := by unfold Hid; rw [hRA, ra_at hy, rightAt_here HIR.out]
      have HRR2 : Hid (RA[row]? = some rr) := by
       unfold Hid
       rw [hRA, ra_at HXX.out, rightAt_row]
      have HKG2 : Hid (gr ≠ gk) := fun e => HTV.out.apart gr cr _ rfl (by rw [e]; exact key_mem HGK.out)
      have HKT : Hid (upd Hc gk (takeQ f ri rp) gr = some RA) := by unfold Hid; rw [upd_ne HKG2.out, hRA]; exact HRT.out
      have HSY : Hid (Small y) := HV6.out.small HKT.out HRY.out
      have HSRR : Hid (Small rr) := HV6.out.small HKT.out HRR2.out
      have HRAL : Hid (i < RA.length) := by unfold Hid; rw [hRA, List.length_mapIdx]; exact hil2
      clear hy hRA
      obtain ⟨A7, n7, c7, A8, n8, c8, k0, k1, k2, HQY⟩ := HV6.out.at_ HKT.out HRY.out
      obtain ⟨A9, n9', c9', A10, n10', c10', l0, l1, l2, HQR⟩ := HV6.out.at_ HKT.out HRR2.out
      have hgrl := HV6.out.lt HKT.out
      obtain ⟨x0, x4, x5, x6, x7, x8, x9, x10, x11, x12⟩ := (HBS.out.chgS HC6.out (by decide) (by decide)).c13
      have hltt := (HBS.out.chgS HC6.out (by decide) (by decide)).lt
      obtain ⟨y0, y1, y2⟩ := HY6.out.c3
      have hly := HY6.out.lt
      have mr1 : (i : Int) < (T.right.length : Int) := by omega
      have mr2 : (row : Int) < (T.right.length : Int) := by omega
      go_wp2_with fail
      refine wp_chainF (l := [_, _, _, _, _, _, _, _, _, _, _, _, _, _, _, _, _, _, _, _, _, _, _, _]) (S := Below w5.heap.size w5) 22 [([0, 1, 2, 3, 4, 5, 6, 7, 8, 9, 10, 11, 12, 13, 14, 15, 16, 17, 18, 19], 20), ([], 21)] [] (by kernel_rfl) (by kernel_rfl) (by kernel_rfl) rfl Bd ?_
      refine ⟨?_, _, ?_, rfl, ?_⟩
      rotate_left
      ·repeat (refine pu ?_; (try simp only [SQ]))
       exact rfl
      have D0' : Hid (Below w5.heap.size w5 w5.drew) := Bd
      go_wp2_with fail
      refine (fmul_calls _ _ _ (rawQ f) (rawQ rr) (FR.of_fq (HF6.out.of_below D0'.out) HSF.out) (FR.of_fq (HQR.out.of_below D0'.out) HSRR.out)).mono ?_
      rintro ee w6' ⟨v, rfl, hv, hb⟩
      rw [fixQ_raw _ HSF.out, fixQ_raw _ HSRR.out] at hv
      have D6' := Hd (below_next D0'.out hb)
      have HM6 := Hd hv
      clear hv hb
      go_wp2_with fail
      refine And.intro D6'.out ⟨_, _, rfl, rfl, ?_⟩
      go_wp2_with fail
      refine (fsub_calls _ _ _ (rawQ y) (rawQ (capQ (f * rr))) (FR.of_fq (HQY.out.of_below D6'.out) HSY.out) (FR.of_fq HM6.out (small_cap _))).mono ?_
      rintro ee w7 ⟨v, rfl, hv, hb⟩
      rw [fixQ_raw _ HSY.out, fixQ_raw (capQ (f * rr)) (small_cap _)] at hv
      obtain ⟨G7, o9, d9, G8, o10, d10, rfl, HF7⟩ := hv.opened
      have D7' := Hd (below_next D6'.out hb)
      have HV7 := Hd (HV6.out.below D7'.out)
      have HC7 := Hd (HC6.out.trans (ChgS.of_below D7'.out))
      clear hv hb k0 k1 k2 l0 l1 l2 hgrl x0 x4 x5 x6 x7 x8 x9 x10 x11 x12 hltt y0 y1 y2 hly
      go_wp2_with fail
      refine And.intro D7'.out ⟨_, rfl, ?_⟩
      obtain ⟨A11, n11, c11, A12, n12, c12, j0, j1, j2, _⟩ := HV7.out.at_ HKT.out HRY.out
      have f0 := HV7.out.free HKT.out (i * 3)
      have f1 := HV7.out.free HKT.out (i * 3 + 1)
      have f2 := HV7.out.free HKT.out (i * 3 + 2)
      go_wp2_with fail
      refine NoPanic.normal ?_
      have hst := HV7.out.set HKT.out HRAL.out (small_cap _) HF7.out (HV7.out.sep HKT.out)
      have hcs9 := ChgS.of_only hst.2 (HV7.out.blk HKT.out).choose_spec.1 (HV7.out.ge HKT.out) (Or.inl rfl)
      have HST := Hd hst
      have HC9 := Hd (HC7.out.trans hcs9)
      have HRN : Hid (RA.set i (subQ y (mulQ f rr)) = T.right.mapIdx (rightAt row col rr T.rows (i + 1))) := by
       have := ra_step (col := col) (rr := rr) (rows := T.rows) HIR.out HYY.out (by rw [HF0.out]; exact HFN.out)
       rw [HF0.out] at this
       unfold Hid
       rw [HRA.out]
       exact this
      clear hst hcs9 j0 j1 j2 f0 f1 f2
      go_wp2_with fail
      go_roundw
      case rel =>
       refine ⟨i + 1, by omega, by go_num, ⟨_, HST.out.1, fun k p x hk hx => ?_, by rw [upd_self]; exact congrArg some HRN.out, fun k hk hkr => ?_⟩, HC9.out⟩
       ·have hpg : p.1 ≠ gr := fun e => HTV.out.apart gr cr _ rfl (by rw [← e]; exact key_mem hk)
        rw [upd_ne hpg]
        by_cases e : k = i
        ·subst e
         rw [HGK.out] at hk
         injection hk with hk
         subst hk
         rw [HRI.out] at hx
         injection hx with hx
         subst hx
         rw [upd_self, rowsAt_done HIR.out]
         unfold pivOther
         rw [getD_at HFF.out, if_neg HFN.out]
        ·rw [upd_ne (nodup_key HND.out hk HGK.out e), rowsAt_next e]
         exact HRW.out k p x hk hx
       ·rw [upd_ne hkr, upd_ne (fun e => hk (by rw [e]; exact key_mem HGK.out))]
        exact HOT.out k hk hkr
      case measure => simp [intOf]; omega
     ·obtain rfl : i = m := by omega
      have HROWS : Hid ((pivotQ T row col).rows = T.rows.mapIdx (rowsAt row col rp T.rows.length)) := by
       unfold Hid pivotQ pivNew pivBy
       rw [getD_at HRR.out, getD_at HEC.out, ← HBY.out, ← HRP.out]
      have HRIGHT : Hid ((pivotQ T row col).right = T.right.mapIdx (rightAt row col rr T.rows T.rows.length)) := by
       unfold Hid pivotQ pivBy
       rw [getD_at HRR.out, getD_at HEC.out, ← HBY.out, getD_at HXX.out, ← HRQ.out]
      have HNEW : Hid (pivNew T row col = rp) := by
       unfold Hid pivNew pivBy
       rw [getD_at HRR.out, getD_at HEC.out, ← HBY.out, ← HRP.out]
      have HKR : Hid (Hc gi = some rp) := by
       unfold Hid
       have := HRW.out row _ r HGI.out HRR.out
       rw [rowsAt_row] at this
       exact this
      have HFIN : Hid (∀ (W : World) (Hf : Nat → Option (List Rat)), View base Hf I W → ChgS base w W → (∀ k, (k ∈ gs.map Prod.fst ∨ k = gr) → Hf k = Hc k) → (∀ k, k ∉ gs.map Prod.fst → k ≠ gr → (∀ x, G ≠ some (k, x)) → Hf k = H k) → (∀ gg x, G = some (gg, x) → Hf gg = some (pivGain col rp x)) →
        PivPost base H I ⟨p0, p1, p2, p3, .slice (some ⟨gR, 0, none⟩) gs.length cR, .slice (some ⟨gr, 0, none⟩) T.right.length cr, .slice (some ⟨gb, 0, none⟩) T.base.length cb, vPlus, vMinus, real, j, vId, vTurned⟩ gs T row col G w (.returned (.tuple #[])) (W.setCell ⟨gb, row, none⟩ (.int .i64 (col : Int)))) := by
       intro W Hf hvf hcf hk ho hg
       have hrb : row < T.base.length := by rw [HTV.out.baseLen, ← HM.out]; exact hrow'
       have hst := hvf.iset (x := (col : Int)) HGB.out hrb (hvf.sepi HGB.out)
       obtain ⟨_, csb, hbb, _⟩ := hvf.int _ _ HGB.out
       refine ⟨rfl, Hf, _, hst.1, ?_, fun gg x e => by rw [HNEW.out]; exact hg gg x e, fun k hnk hng => ?_, hcf.trans (ChgS.of_only hst.2 hbb (hvf.int _ _ HGB.out).1 (Or.inr rfl)), fun k hk => upd_ne fun e => hk T.base.length cb (by rw [e])⟩
       ·have hT' := HTV.out
        refine ⟨by rw [HROWS.out, List.length_mapIdx]; exact hT'.len, fun k p q hkp hkq => ?_, hT'.nodup, ?_, by rw [HRIGHT.out, HROWS.out, List.length_mapIdx, List.length_mapIdx]; exact hT'.rightLen, ?_, by rw [HROWS.out, List.length_mapIdx]; show (T.base.set row (col : Int)).length = _; rw [List.length_set]; exact hT'.baseLen, ?_, ?_, ?_, by rw [HROWS.out, List.length_mapIdx]; exact hT'.idLen, hT'.apart⟩
        ·rw [HROWS.out, List.getElem?_mapIdx] at hkq
         cases hxk : T.rows[k]? with
         | none => rw [hxk] at hkq; simp at hkq
         | some x =>
          rw [hxk] at hkq
          have e : rowsAt row col rp T.rows.length k x = q := by simpa using hkq
          have hxl : x.length = j := (hT'.row k p x hkp hxk).2
          rw [hk p.1 (.inl (key_mem hkp)), HRW.out k p x hkp hxk, HM.out]
          refine ⟨by rw [e], ?_⟩
          rw [← e]
          unfold rowsAt
          split
          ·exact HRPL.out
          ·split
           ·unfold pivOther
            split
            ·exact hxl
            ·rw [takeQ_length (by rw [HRPL.out, hxl])]; exact hxl
           ·exact hxl
        ·rw [HRIGHT.out]
         refine .inr ⟨gr, cr, by rw [List.length_mapIdx], ?_⟩
         rw [hk gr (.inr rfl), HRT.out, HM.out]
        ·refine .inr ⟨gb, cb, by show _ = Value.slice _ (T.base.set row (col : Int)).length _; rw [List.length_set], upd_self _ _ _⟩
        ·exact VI.other hT'.plus HIA.out.1
        ·exact VI.other hT'.minus HIA.out.2.1
        ·exact VI.other hT'.id HIA.out.2.2
       ·refine ho k (fun h => hnk (.inl h)) (fun h => hnk (.inr ⟨_, _, by rw [h]⟩)) hng
      obtain ⟨b0, hb0⟩ : ∃ x, T.base[row]? = some x := ⟨T.base[row]'(by rw [HTV.out.baseLen, ← HM.out]; exact hrow'), geq _⟩
      have HB0' := Hd hb0
      clear hb0
      rcases HGN.out with ⟨rfl, hG⟩ | ⟨gg, cg, gain, rfl, hgg, hgl, hgn, hgr2, hG⟩
      ·have hne : ∀ w, Sem.run Try.prog (binOp .neq 23 (.slice none 0 0) (.slice none 0 0)) w = .ok (.bool false) w := fun _ => by kernel_rfl
       obtain ⟨k0, hgbl, hfz⟩ := HVi.out.iat HGB.out HB0'.out
       have f0 := hfz row
       have HGE := Hd hG
       have mb : (row : Int) < (i : Int) := by omega
       clear hfz hG
       go_wp2_with fail
       go_end0
       exact HFIN.out wr Hc HVi.out HCi.out (fun _ _ => rfl) (fun k h1 h2 _ => HOT.out k h1 h2) (fun gg x e => by rw [HGE.out] at e; cases e)
      ·have hne : ∀ w, Sem.run Try.prog (binOp .neq 23 (.slice (some ⟨gg, 0, none⟩) j cg) (.slice none 0 0)) w = .ok (.bool true) w := fun _ => by kernel_rfl
       have HGE := Hd hG
       have HGG : Hid (gg ≠ gr) := fun e => hgr2 _ _ (by rw [e])
       have HGM := Hd hgn
       have HGL := Hd hgl
       have HCG : Hid (Hc gg = some gain) := by unfold Hid; rw [HOT.out gg hgn HGG.out]; exact hgg
       have HHG := Hd hgg
       obtain ⟨gv, hgv⟩ : ∃ x, gain[col]? = some x := ⟨gain[col]'(by rw [hgl]; exact hcol'), geq _⟩
       have HGV := Hd hgv
       have HSV : Hid (Small gv) := HVi.out.small HCG.out hgv
       obtain ⟨A5, n5, c5, A6, n6, c6, k0, k1, k2, HFG⟩ := HVi.out.at_ HCG.out hgv
       have hggl := HVi.out.lt HCG.out
       clear hG hgr2 hgn hgl hgg hgv
       go_wp2_with fail
       refine (sgn_calls _ _ (rawQ gv) (FR.of_fq HFG.out HSV.out)).mono ?_
       rintro ee w4 ⟨rfl, hb⟩
       rw [fixQ_raw _ HSV.out]
       have HV4 := Hd (HVi.out.below hb)
       have HC4 := Hd (HCi.out.trans (ChgS.of_below hb))
       have HF4 := Hd (HFG.out.of_below hb)
       have j0 : w4.cell? ⟨gg, col * 3, none⟩ = _ := ((bcell hb).1 gg _ hggl).trans k0
       have j1 : w4.cell? ⟨gg, col * 3 + 1, none⟩ = _ := ((bcell hb).1 gg _ hggl).trans k1
       have j2 : w4.cell? ⟨gg, col * 3 + 2, none⟩ = _ := ((bcell hb).1 gg _ hggl).trans k2
       have hggl4 := HV4.out.lt HCG.out
       have mb : (row : Int) < (i : Int) := by omega
       clear hb k0 k1 k2 hggl x0 x4 x5 x6 x7 x8 x9 x10 x11 x12 hltt
       obtain ⟨x0, x4, x5, x6, x7, x8, x9, x10, x11, x12⟩ := (HBS.out.chgS HC4.out (by decide) (by decide)).c13
       have hltt := (HBS.out.chgS HC4.out (by decide) (by decide)).lt
       by_cases gz : gv = 0
       ·have u2 : (signQ gv != 0) = false := beqI (signQ_zero_iff.2 gz)
        have HPG : Hid (pivGain col rp gain = gain) := by unfold Hid pivGain; rw [getD_at HGV.out, if_pos gz]
        obtain ⟨k0, hgbl, hfz⟩ := HV4.out.iat HGB.out HB0'.out
        have f0 := hfz row
        clear hfz gz
        go_wp2_with fail
        go_end0
        exact HFIN.out w4 Hc HV4.out HC4.out (fun _ _ => rfl) (fun k h1 h2 _ => HOT.out k h1 h2) (fun g2 x e => by rw [HGE.out] at e; injection e with e; injection e with e1 e2; subst e1 e2; rw [HPG.out]; exact HCG.out)
       have u2 : (signQ gv != 0) = true := bneI fun e => gz (signQ_zero_iff.1 e)
       have HPG : Hid (pivGain col rp gain = takeQ gv gain rp) := by unfold Hid pivGain; rw [getD_at HGV.out, if_neg gz]
       obtain ⟨gR', eR', hgR', k9⟩ := (HT.out.chg HC4.out).2.1.at_ HGI.out
       injection eR' with eR'
       injection eR' with eR' _
       subst eR'
       have k9' : w4.cell? ⟨gR, row, none⟩ = some (.slice (some ⟨gi, 0, none⟩) j ci) := k9
       clear gz k9
       go_wp2_with fail
       refine wp_chainF (l := [_, _, _, _, _, _, _, _, _, _, _, _, _]) (S := Below w4.heap.size w4) 12 [] [0, 1, 2, 3, 4, 5, 6, 7, 8, 9, 10, 11] (by kernel_rfl) (by kernel_rfl) (by kernel_rfl) rfl Bd ?_
       refine ⟨?_, ?_, ?_⟩
       rotate_left
       ·repeat (refine pu ?_; (try simp only [SQ]))
        exact rfl
       have D0 : Hid (Below w4.heap.size w4 w4.drew) := Bd
       go_wp2_with fail
       refine (take_calls' base Hc I _ gg gi cg ci gain rp _ gv j HGL.out.symm (HV4.out.below D0.out) HCG.out HKR.out (fun e => HGM.out (by rw [e]; exact key_mem HGI.out)) (by rw [HRPL.out, HGL.out]) (HF4.out.of_below D0.out) HSV.out (by rw [HGL.out]; omega)).mono ?_
       rintro ee w5 ⟨rfl, hv5, ho5⟩
       have HV5 := Hd hv5
       have HC5 := Hd (HC4.out.trans (ChgS.of_only ((Only.of_below D0.out).trans ho5) (HV4.out.blk HCG.out).choose_spec.1 (HV4.out.ge HCG.out) (Or.inl rfl)))
       clear hv5 ho5 j0 j1 j2 hggl4 x0 x4 x5 x6 x7 x8 x9 x10 x11 x12 hltt k9' hgR'
       obtain ⟨x0, x4, x5, x6, x7, x8, x9, x10, x11, x12⟩ := (HBS.out.chgS HC5.out (by decide) (by decide)).c13
       have hltt := (HBS.out.chgS HC5.out (by decide) (by decide)).lt
       obtain ⟨k0, hgbl, hfz⟩ := HV5.out.iat HGB.out HB0'.out
       have f0 := hfz row
       clear hfz
       go_wp2_with fail
       refine NoPanic.normal ?_
       go_wp2_with fail
       go_end0
       refine HFIN.out w5 _ HV5.out HC5.out (fun k hk => upd_ne fun e => ?_) (fun k h1 h2 h3 => ?_) (fun g2 x e => by rw [HGE.out] at e; injection e with e; injection e with e1 e2; subst e1 e2; rw [HPG.out]; exact upd_self _ _ _)
       ·rcases hk with hk | hk
        ·exact HGM.out (by rw [← e]; exact hk)
        ·exact HGG.out (by rw [← e]; exact hk)
       ·rw [upd_ne (fun e => h3 gain (by rw [HGE.out, e]))]
        exact HOT.out k h1 h2
inductive Cont where
 | I (l : List Int)
 | B (l : List Bool)
 | R (n : Nat) (l : List (Nat × Nat))
 | F (l : List Rat)
def EBI (w : World) (vs : Array Value) (x : Int) : Prop := vs = #[.int .i64 x]
def EBG (n : Nat) (w : World) (vs : Array Value) (p : Nat × Nat) : Prop := vs = #[.slice (some ⟨p.1, 0, none⟩) n p.2]
theorem EBI.leans : Leans EBI := fun _ _ _ _ h _ => h
theorem EBG.leans (n : Nat) : Leans (EBG n) := fun _ _ _ _ h _ => h
theorem EB.leans : Leans EB := fun _ _ _ _ h _ => h
def Cont.ok (base : Nat) (w : World) (v : Value) : Cont → Prop
 | .I l => OL 1 3 EBI base w v l
 | .B l => OL 1 4 EB base w v l
 | .R n l => OL 1 23 (EBG n) base w v l
 | .F l => OL 3 40 EFQ base w v l
def Step (w w1 : World) (og : Option Nat) : Prop := Keeps w w1 ∧ (∀ k, k < w.heap.size → og ≠ some k → w1.heap[k]? = w.heap[k]?) ∧ (w.os = w1.os ∧ w.tape = w1.tape ∧ w.output = w1.output)
theorem Step.below {w w1 : World} {og : Option Nat} {B : Nat} (h : Step w w1 og) (hB : B ≤ w.heap.size) (ho : ∀ g, og = some g → B ≤ g) : Below B w w1 :=
 ⟨h.2.2.1.symm, h.2.2.2.1.symm, h.2.2.2.2.symm, h.1.1, fun g hg => h.2.1 g (Nat.lt_of_lt_of_le hg hB) fun e => Nat.not_lt.2 (ho g e) hg⟩
theorem OL.moved {α : Type} {k e : Nat} {E : World → Array Value → α → Prop} {base : Nat} {w w1 : World} {v : Value} {ys : List α} (hE : Leans E) (h : OL k e E base w v ys) (hb : ∀ g, v.ownBlock = some g → w1.heap[g]? = w.heap[g]?) (hk : Keeps w w1) : OL k e E base w1 v ys := by
 obtain ⟨xs, h1, h2⟩ := h
 refine ⟨xs, h1.move hb, fun j a hj => ?_⟩
 obtain ⟨vs, h3, h4, h5⟩ := h2 j a hj
 exact ⟨vs, h3, h4, hE _ _ _ _ h5 hk⟩
theorem Cont.ok.move {base : Nat} {w w1 : World} {v : Value} {c : Cont} (h : c.ok base w v) (hb : ∀ g, v.ownBlock = some g → w1.heap[g]? = w.heap[g]?) (hk : Keeps w w1) : c.ok base w1 v := by
 cases c with
 | I l => exact OL.moved EBI.leans h hb hk
 | B l => exact OL.moved EB.leans h hb hk
 | R n l => exact OL.moved (EBG.leans n) h hb hk
 | F l => exact OL.moved EFQ.leans h hb hk
theorem Cont.ok.lt {base : Nat} {w : World} {v : Value} {c : Cont} (h : c.ok base w v) : ∀ g, v.ownBlock = some g → base ≤ g ∧ g < w.heap.size := by
 cases c with
 | I l => exact OL.lt h
 | B l => exact OL.lt h
 | R n l => exact OL.lt h
 | F l => exact OL.lt h
theorem OL.blk {α : Type} {k e : Nat} {E : World → Array Value → α → Prop} {base : Nat} {w : World} {v : Value} {ys : List α} (h : OL k e E base w v ys) : ∀ g, v.ownBlock = some g → ∃ cs, Blk w g e cs := by
 obtain ⟨xs, ⟨_, h1⟩, _⟩ := h
 intro g hg
 rcases h1 with ⟨rfl, _⟩ | ⟨g', cap, cur, rfl, _, hk, _⟩
 ·simp [Value.ownBlock] at hg
 ·simp [Value.ownBlock] at hg
  subst hg
  exact ⟨_, hk⟩
def Cont.typ : Cont → Nat
 | .I _ => 3
 | .B _ => 4
 | .R _ _ => 23
 | .F _ => 40
theorem Cont.ok.blk {base : Nat} {w : World} {v : Value} {c : Cont} (h : c.ok base w v) : ∀ g, v.ownBlock = some g → ∃ cs, Blk w g c.typ cs := by
 cases c with
 | I l => exact OL.blk h
 | B l => exact OL.blk h
 | R n l => exact OL.blk h
 | F l => exact OL.blk h
structure Bag (base : Nat) (w : World) (L : List (Value × Cont)) : Prop where
 size : base ≤ w.heap.size
 ok : ∀ (i : Nat) (v : Value) (c : Cont), L[i]? = some (v, c) → c.ok base w v
 apart : ∀ (i j : Nat) (v : Value) (c : Cont) (v' : Value) (c' : Cont) (g : Nat), i ≠ j → L[i]? = some (v, c) → L[j]? = some (v', c') → v.ownBlock = some g → v'.ownBlock ≠ some g
section
variable {base : Nat} {w w1 : World} {L : List (Value × Cont)}
theorem Bag.moved (h : Bag base w L) (hs : w.heap.size ≤ w1.heap.size) (hk : Keeps w w1) (hb : ∀ (i : Nat) (v : Value) (c : Cont) (g : Nat), L[i]? = some (v, c) → v.ownBlock = some g → w1.heap[g]? = w.heap[g]?) : Bag base w1 L :=
 ⟨Nat.le_trans h.size hs, fun i v c hi => (h.ok i v c hi).move (fun g hg => hb i v c g hi hg) hk, h.apart⟩
theorem Bag.below (h : Bag base w L) (hb : Below w.heap.size w w1) : Bag base w1 L :=
 h.moved hb.size (Keeps.of_below hb) fun i v c g hi hg => hb.block g ((h.ok i v c hi).lt g hg).2
theorem Bag.step {i : Nat} {v v' : Value} {c c' : Cont} (h : Bag base w L) (hi : L[i]? = some (v, c)) (hs : Step w w1 v.ownBlock) (hok : c'.ok base w1 v') (hown : ∀ g, v'.ownBlock = some g → v.ownBlock = some g ∨ w.heap.size ≤ g) : Bag base w1 (L.set i (v', c')) := by
 have hil := (List.getElem?_eq_some_iff.1 hi).1
 have other : ∀ (j : Nat) (u : Value) (d : Cont), j ≠ i → L[j]? = some (u, d) → ∀ g, u.ownBlock = some g → v.ownBlock ≠ some g ∧ v'.ownBlock ≠ some g := fun j u d hj hju g hg => by
  have h1 := h.apart j i u d v c g hj hju hi hg
  refine ⟨h1, fun e => ?_⟩
  rcases hown g e with h2 | h2
  ·exact h1 h2
  ·have := ((h.ok j u d hju).lt g hg).2
   omega
 refine ⟨Nat.le_trans h.size hs.1.1, fun j u d hj => ?_, fun j k u d u' d' g hjk hj hk hg => ?_⟩
 ·by_cases e : i = j
  ·subst e
   rw [List.getElem?_set_self hil] at hj
   obtain ⟨rfl, rfl⟩ := Prod.mk.inj (Option.some.inj hj)
   exact hok
  ·rw [List.getElem?_set_ne e] at hj
   exact (h.ok j u d hj).move (fun g hg => hs.2.1 g ((h.ok j u d hj).lt g hg).2 (other j u d (fun x => e x.symm) hj g hg).1) hs.1
 ·by_cases e : i = j
  ·subst e
   rw [List.getElem?_set_self hil] at hj
   obtain ⟨rfl, rfl⟩ := Prod.mk.inj (Option.some.inj hj)
   rw [List.getElem?_set_ne hjk] at hk
   intro hg'
   exact (other k u' d' (fun x => hjk x.symm) hk g hg').2 hg
  ·rw [List.getElem?_set_ne e] at hj
   by_cases e2 : i = k
   ·subst e2
    rw [List.getElem?_set_self hil] at hk
    obtain ⟨rfl, rfl⟩ := Prod.mk.inj (Option.some.inj hk)
    exact (other j u d (fun x => e x.symm) hj g hg).2
   ·rw [List.getElem?_set_ne e2] at hk
    exact h.apart j k u d u' d' g hjk hj hk hg
theorem Bag.add {v : Value} {c : Cont} (h : Bag base w L) (hb : Below w.heap.size w w1) (hok : c.ok base w1 v) (hf : ∀ g, v.ownBlock = some g → w.heap.size ≤ g) : Bag base w1 (L ++ [(v, c)]) := by
 have h1 := h.below hb
 have last : ∀ (j : Nat) (u : Value) (d : Cont), (L ++ [(v, c)])[j]? = some (u, d) → (j < L.length ∧ L[j]? = some (u, d)) ∨ (j = L.length ∧ u = v ∧ d = c) := fun j u d hj => by
  rw [List.getElem?_append] at hj
  split at hj
  ·rename_i hl
   exact .inl ⟨hl, hj⟩
  ·have h0 : j - L.length = 0 := by
    have := (List.getElem?_eq_some_iff.1 hj).1
    simp at this
    omega
   rw [h0] at hj
   obtain ⟨rfl, rfl⟩ := Prod.mk.inj (Option.some.inj hj)
   exact .inr ⟨by omega, rfl, rfl⟩
 refine ⟨h1.size, fun j u d hj => ?_, fun j k u d u' d' g hjk hj hk hg => ?_⟩
 ·rcases last j u d hj with ⟨_, hj⟩ | ⟨_, rfl, rfl⟩
  ·exact h1.ok j u d hj
  ·exact hok
 ·have a1 := last j u d hj
  have a2 := last k u' d' hk
  clear hj hk
  rcases a1 with ⟨_, hj⟩ | ⟨e1, e2, e3⟩
  ·rcases a2 with ⟨_, hk⟩ | ⟨e1, e2, e3⟩
   ·exact h.apart j k u d u' d' g hjk hj hk hg
   ·intro e
    have := ((h.ok j u d hj).lt g hg).2
    rw [e2] at e
    have := hf g e
    omega
  ·rcases a2 with ⟨_, hk⟩ | ⟨e4, e5, e6⟩
   ·intro e
    have := ((h.ok k u' d' hk).lt g e).2
    rw [e2] at hg
    have := hf g hg
    omega
   ·exact absurd (e1.trans e4.symm) hjk
theorem Bag.other {i k t : Nat} {v : Value} {c : Cont} {cs : Array Value} (h : Bag base w L) (hi : L[i]? = some (v, c)) (hk : Blk w k t cs) (ht : t ≠ 3 ∧ t ≠ 4 ∧ t ≠ 23 ∧ t ≠ 40) : v.ownBlock ≠ some k := by
 intro e
 obtain ⟨cs', hb⟩ := (h.ok i v c hi).blk k e
 have e1 : (some (Obj.cells cs t (0, 0))) = some (.cells cs' c.typ (0, 0)) := hk.symm.trans hb
 injection e1 with e1
 injection e1 with _ e1 _
 obtain ⟨h3, h4, h23, h40⟩ := ht
 cases c with
 | I l => exact h3 e1
 | B l => exact h4 e1
 | R n l => exact h23 e1
 | F l => exact h40 e1
theorem Bag.far {k t : Nat} {cs : Array Value} (h : Bag base w L) (hk : Blk w k t cs) (ht : t ≠ 3 ∧ t ≠ 4 ∧ t ≠ 23 ∧ t ≠ 40) (hs : w.heap.size ≤ w1.heap.size) (hkp : Keeps w w1) (hb : ∀ j, j < w.heap.size → j ≠ k → w1.heap[j]? = w.heap[j]?) : Bag base w1 L :=
 h.moved hs hkp fun i v c g hi hg => hb g ((h.ok i v c hi).lt g hg).2 fun e => h.other hi hk ht (e ▸ hg)
theorem Bag.iat {i j n cap : Nat} {A : Option Addr} {l : List Int} {x : Int} (h : Bag base w L) (hi : L[i]? = some (.slice A n cap, .I l)) (hj : l[j]? = some x) : ∃ g, A = some ⟨g, 0, none⟩ ∧ g < w.heap.size ∧ w.cell? ⟨g, j, none⟩ = some (.int .i64 x) ∧ ∀ m, w.frozen? ⟨g, m, none⟩ = false := by
 obtain ⟨xs, ⟨hl, h1⟩, h2⟩ := (show OL 1 3 EBI base w (.slice A n cap) l from h.ok i _ _ hi)
 have hjl := (List.getElem?_eq_some_iff.1 hj).1
 rcases h1 with ⟨_, h0⟩ | ⟨g, cp, cur, e, hb, hk, hnc, hcm, hcs, htake, hw⟩
 ·omega
 ·injection e with e1 e2 e3
  obtain ⟨vs, h3, h4, h5⟩ := h2 j x hj
  have h5' : vs = #[.int .i64 x] := h5
  have h6 := h4 0 (.int .i64 x) (by rw [h5']; rfl)
  refine ⟨g, e1, hk.lt, hk.cell ?_, hk.frozen⟩
  rw [← htake, List.getElem?_take] at h6
  split at h6
  ·simpa using h6
  ·cases h6
theorem Bag.bat {i j n cap : Nat} {A : Option Addr} {l : List Bool} {x : Bool} (h : Bag base w L) (hi : L[i]? = some (.slice A n cap, .B l)) (hj : l[j]? = some x) : ∃ g, A = some ⟨g, 0, none⟩ ∧ g < w.heap.size ∧ w.cell? ⟨g, j, none⟩ = some (.bool x) ∧ ∀ m, w.frozen? ⟨g, m, none⟩ = false := by
 obtain ⟨xs, ⟨hl, h1⟩, h2⟩ := (show OL 1 4 EB base w (.slice A n cap) l from h.ok i _ _ hi)
 have hjl := (List.getElem?_eq_some_iff.1 hj).1
 rcases h1 with ⟨_, h0⟩ | ⟨g, cp, cur, e, hb, hk, hnc, hcm, hcs, htake, hw⟩
 ·omega
 ·injection e with e1 e2 e3
  obtain ⟨vs, h3, h4, h5⟩ := h2 j x hj
  have h5' : vs = #[.bool x] := h5
  have h6 := h4 0 (.bool x) (by rw [h5']; rfl)
  refine ⟨g, e1, hk.lt, hk.cell ?_, hk.frozen⟩
  rw [← htake, List.getElem?_take] at h6
  split at h6
  ·simpa using h6
  ·cases h6
theorem Cont.ok.slice {base : Nat} {w : World} {v : Value} {c : Cont} (h : c.ok base w v) : ∃ A n cap, v = .slice A n cap ∧ n = (match c with | .I l => l.length | .B l => l.length | .R _ l => l.length | .F l => l.length) := by
 cases c with
 | I l => obtain ⟨A, c, e, _⟩ := OL.slice h; exact ⟨A, _, c, e, rfl⟩
 | B l => obtain ⟨A, c, e, _⟩ := OL.slice h; exact ⟨A, _, c, e, rfl⟩
 | R n l => obtain ⟨A, c, e, _⟩ := OL.slice h; exact ⟨A, _, c, e, rfl⟩
 | F l => obtain ⟨A, c, e, _⟩ := OL.slice h; exact ⟨A, _, c, e, rfl⟩
theorem Bag.islice {i : Nat} {v : Value} {l : List Int} (h : Bag base w L) (hi : L[i]? = some (v, .I l)) : ∃ A c, v = .slice A l.length c := by
 obtain ⟨A, n, c, e, rfl⟩ := (h.ok i _ _ hi).slice
 exact ⟨A, c, e⟩
theorem Bag.bslice {i : Nat} {v : Value} {l : List Bool} (h : Bag base w L) (hi : L[i]? = some (v, .B l)) : ∃ A c, v = .slice A l.length c := by
 obtain ⟨A, n, c, e, rfl⟩ := (h.ok i _ _ hi).slice
 exact ⟨A, c, e⟩
theorem Bag.iset {i j n cap g : Nat} {l : List Int} {x : Int} (h : Bag base w L) (hi : L[i]? = some (.slice (some ⟨g, 0, none⟩) n cap, .I l)) (hj : j < l.length) :
  Bag base (w.setCell ⟨g, j, none⟩ (.int .i64 x)) (L.set i (.slice (some ⟨g, 0, none⟩) n cap, .I (l.set j x))) ∧ Step w (w.setCell ⟨g, j, none⟩ (.int .i64 x)) (some g) := by
 obtain ⟨xs, ⟨hl, h1⟩, h2⟩ := (show OL 1 3 EBI base w (.slice (some ⟨g, 0, none⟩) n cap) l from h.ok i _ _ hi)
 rcases h1 with ⟨e, h0⟩ | ⟨g', cp, cur, e, hb, hk, hnc, hcm, hcs, htake, hw⟩
 ·cases e
 injection e with e1 e2 e3
 injection e1 with e1
 injection e1 with e1 _ _
 subst e1
 subst e3
 have hcell : w.cell? ⟨g, j, none⟩ = some (cur[j]'(by omega)) := hk.cell (Array.getElem?_eq_getElem _)
 have hsz : w.heap.size ≤ (w.setCell ⟨g, j, none⟩ (.int .i64 x)).heap.size := by simp [World.setCell]
 have hst : Step w (w.setCell ⟨g, j, none⟩ (.int .i64 x)) (some g) :=
  ⟨Keeps.set hcell (hw _ (Array.getElem_mem _)), fun k hk' hne => Below.heap_setCell w ⟨g, j, none⟩ (.int .i64 x) k (fun e => hne (by rw [e])), rfl, rfl, rfl⟩
 refine ⟨h.step hi hst ?_ (fun g' hg' => .inl hg'), hst⟩
 show OL 1 3 EBI base _ _ (l.set j x)
 refine ⟨xs.set j (.int .i64 x), ⟨by rw [List.length_set, List.length_set]; exact hl, .inr ⟨g, cap, _, by rw [e2, List.length_set], hb, hk.put j (.int .i64 x), by rw [List.length_set]; exact hnc, hcm, by simpa using hcs, ?_, fun u hu => ?_⟩⟩, fun j' a hj' => ?_⟩
 ·rw [List.length_set, Array.toList_setIfInBounds, ← htake, List.take_set]
 ·rcases Array.mem_or_eq_of_mem_setIfInBounds hu with h | h
  ·exact hw u h
  ·rw [h]; rfl
 ·by_cases ej : j = j'
  ·subst ej
   rw [List.getElem?_set_self hj] at hj'
   obtain rfl := Option.some.inj hj'
   refine ⟨#[.int .i64 x], rfl, fun i' u hu => ?_, rfl⟩
   have hi0 : i' = 0 := by
    have := (Array.getElem?_eq_some_iff.1 hu).1
    simp at this
    omega
   subst hi0
   rw [Nat.mul_one, Nat.add_zero, List.getElem?_set_self (by omega)]
   simpa using hu
  ·rw [List.getElem?_set_ne ej] at hj'
   obtain ⟨vs, h3, h4, h5⟩ := h2 j' a hj'
   refine ⟨vs, h3, fun i' u hu => ?_, h5⟩
   have hi0 : i' = 0 := by
    have := (Array.getElem?_eq_some_iff.1 hu).1
    omega
   have := h4 i' u hu
   subst hi0
   rw [List.getElem?_set_ne (by omega)]
   exact this
end
theorem infoI : (Try.prog.info? 3).map (fun i => (i.zero, i.size, i.bytes)) = some (some (.int .i64 0), 1, 8) := by kernel_rfl
theorem infoB : (Try.prog.info? 4).map (fun i => (i.zero, i.size, i.bytes)) = some (some (.bool false), 1, 1) := by kernel_rfl
theorem infoG : (Try.prog.info? 23).map (fun i => (i.zero, i.size, i.bytes)) = some (some (.slice none 0 0), 1, 24) := by kernel_rfl
section
variable {ops : Array Oper} {rest : List Oper} {o : Oper} {a : Act} {Q : Exit → Act → World → Prop} {W : World} {base : Nat} {L : List (Value × Cont)}
theorem Step.of_grown {v : Value} {w w' : World} (h : w.grownBy w' v.ownBlock) (hk : Keeps w w') : Step w w' v.ownBlock := ⟨hk, fun k hkl hne => h.block k hkl (fun e => hne e.symm), h.os.symm, h.tape.symm, h.output.symm⟩
theorem wpl_bagI (hgd : o.guard = none) (s x : Operand) (ho : o.op = .call { callee := .builtin .append, args := #[s, x], argTypes := #[27, 27] }) (hbag : Bag base W L) (i : Nat) (v : Value) (l : List Int) (hi : L[i]? = some (v, .I l)) (hs : a.eval s = v) {g : Nat} (b : Int) (hx : a.eval x = .slice (some ⟨g, 0, none⟩) 1 1) (hk : Blk W g 3 #[.int .i64 b]) (hl : l.length ≤ 1000000000)
  (h : ∀ v' w', Bag base w' (L.set i (v', .I (l ++ [b]))) → Step W w' v.ownBlock → wpList Try.prog ops Q rest (a.put o.dst v') w') : wpList Try.prog ops Q (o :: rest) a W := by
 have h0 : OL 1 3 EBI base W v l := hbag.ok i v _ hi
 obtain ⟨xs, h1, h2⟩ := id h0
 refine wpl_appendR hgd s x 27 ho (base := base) (.int .i64 0) 8 Try.underlying27 infoI rfl (by intro u hu; simp [Value.cells] at hu; subst hu; rfl) v l.length xs hs h1 ⟨g, 0, none⟩ 1 1 [.int .i64 b] hx rfl (lit_cells hk) (by intro u hu; simp at hu; subst hu; rfl) (by intro u hu; simp at hu; subst hu; rfl) (by decide) (by omega) (by omega) hbag.size fun v' w' h3 h4 h5 h6 => h v' w' (hbag.step hi (Step.of_grown h4 h5) ?_ h6) (Step.of_grown h4 h5)
 exact OL.push1 EBI.leans (vs := #[.int .i64 b]) h1 h2 rfl rfl h5 h3
theorem wpl_bagB (hgd : o.guard = none) (s x : Operand) (ho : o.op = .call { callee := .builtin .append, args := #[s, x], argTypes := #[22, 22] }) (hbag : Bag base W L) (i : Nat) (v : Value) (l : List Bool) (hi : L[i]? = some (v, .B l)) (hs : a.eval s = v) {g : Nat} (b : Bool) (hx : a.eval x = .slice (some ⟨g, 0, none⟩) 1 1) (hk : Blk W g 4 #[.bool b]) (hl : l.length ≤ 1000000000)
  (h : ∀ v' w', Bag base w' (L.set i (v', .B (l ++ [b]))) → Step W w' v.ownBlock → wpList Try.prog ops Q rest (a.put o.dst v') w') : wpList Try.prog ops Q (o :: rest) a W := by
 have h0 : OL 1 4 EB base W v l := hbag.ok i v _ hi
 obtain ⟨xs, h1, h2⟩ := id h0
 refine wpl_appendR hgd s x 22 ho (base := base) (.bool false) 1 Try.underlying22 infoB rfl (by intro u hu; simp [Value.cells] at hu; subst hu; rfl) v l.length xs hs h1 ⟨g, 0, none⟩ 1 1 [.bool b] hx rfl (lit_cells hk) (by intro u hu; simp at hu; subst hu; rfl) (by intro u hu; simp at hu; subst hu; rfl) (by decide) (by omega) (by omega) hbag.size fun v' w' h3 h4 h5 h6 => h v' w' (hbag.step hi (Step.of_grown h4 h5) ?_ h6) (Step.of_grown h4 h5)
 exact OL.push1 EB.leans (vs := #[.bool b]) h1 h2 rfl rfl h5 h3
theorem wpl_bagG {n : Nat} (hgd : o.guard = none) (s x : Operand) (ho : o.op = .call { callee := .builtin .append, args := #[s, x], argTypes := #[119, 119] }) (hbag : Bag base W L) (i : Nat) (v : Value) (l : List (Nat × Nat)) (hi : L[i]? = some (v, .R n l)) (hs : a.eval s = v) {g : Nat} (b : Nat × Nat) (hx : a.eval x = .slice (some ⟨g, 0, none⟩) 1 1) (hk : Blk W g 23 #[.slice (some ⟨b.1, 0, none⟩) n b.2]) (hl : l.length ≤ 1000000000)
  (h : ∀ v' w', Bag base w' (L.set i (v', .R n (l ++ [b]))) → Step W w' v.ownBlock → wpList Try.prog ops Q rest (a.put o.dst v') w') : wpList Try.prog ops Q (o :: rest) a W := by
 have h0 : OL 1 23 (EBG n) base W v l := hbag.ok i v _ hi
 obtain ⟨xs, h1, h2⟩ := id h0
 refine wpl_appendR hgd s x 119 ho (base := base) (.slice none 0 0) 24 Try.underlying119 infoG rfl (by intro u hu; simp [Value.cells] at hu; subst hu; rfl) v l.length xs hs h1 ⟨g, 0, none⟩ 1 1 [.slice (some ⟨b.1, 0, none⟩) n b.2] hx rfl (lit_cells hk) (by intro u hu; simp at hu; subst hu; rfl) (by intro u hu; simp at hu; subst hu; rfl) (by decide) (by omega) (by omega) hbag.size fun v' w' h3 h4 h5 h6 => h v' w' (hbag.step hi (Step.of_grown h4 h5) ?_ h6) (Step.of_grown h4 h5)
 exact OL.push1 (EBG.leans n) (vs := #[.slice (some ⟨b.1, 0, none⟩) n b.2]) h1 h2 rfl rfl h5 h3
theorem wpl_bagF (hgd : o.guard = none) (s x : Operand) (ho : o.op = .call { callee := .builtin .append, args := #[s, x], argTypes := #[23, 23] }) (hbag : Bag base W L) (i : Nat) (v : Value) (l : List Rat) (hi : L[i]? = some (v, .F l)) (hs : a.eval s = v) {g : Nat} {b : Bool} {A1 A2 : Option Addr} {n1 c1 n2 c2 : Nat} (q : Rat) (hx : a.eval x = .slice (some ⟨g, 0, none⟩) 1 1) (hk : Blk W g 40 #[.bool b, .slice A1 n1 c1, .slice A2 n2 c2]) (hf : FQ W (.agg #[.bool b, .slice A1 n1 c1, .slice A2 n2 c2]) q) (hl : l.length ≤ 1000000000)
  (h : ∀ v' w', Bag base w' (L.set i (v', .F (l ++ [q]))) → Step W w' v.ownBlock → wpList Try.prog ops Q rest (a.put o.dst v') w') : wpList Try.prog ops Q (o :: rest) a W := by
 have h0 : OL 3 40 EFQ base W v l := hbag.ok i v _ hi
 obtain ⟨xs, h1, h2⟩ := id h0
 refine wpl_appendR hgd s x 23 ho (base := base) zeroF 56 Try.underlying23 info40z rfl (by intro u hu; simp [zeroF, Value.cells] at hu; rcases hu with rfl | rfl | rfl <;> rfl) v l.length xs hs h1 ⟨g, 0, none⟩ 1 1 [.bool b, .slice A1 n1 c1, .slice A2 n2 c2] hx rfl (lit_cells hk) (by intro u hu; simp at hu; rcases hu with rfl | rfl | rfl <;> rfl) (by intro u hu; simp at hu; rcases hu with rfl | rfl | rfl <;> rfl) (by decide) (by omega) (by omega) hbag.size fun v' w' h3 h4 h5 h6 => h v' w' (hbag.step hi (Step.of_grown h4 h5) ?_ h6) (Step.of_grown h4 h5)
 exact OL.push1 EFQ.leans (vs := #[.bool b, .slice A1 n1 c1, .slice A2 n2 c2]) h1 h2 rfl hf h5 h3
end
structure BS (w0 : World) (gp gt : Nat) (PC TC : Array Value) (L : List (Value × Cont)) (w : World) : Prop where
 bag : Bag w0.heap.size w L
 t : Blk w gt 121 TC
 p : Blk w gp 26 PC
 below : Below w0.heap.size w0 w
 gtb : w0.heap.size ≤ gt
 nw : ∀ u ∈ TC, notWord u = true
 len : TC.size = 13
theorem Blk.ne_typ {w : World} {g k t t' : Nat} {cs cs' : Array Value} (h : Blk w g t cs) (h' : Blk w k t' cs') (ht : t ≠ t') : g ≠ k := by
 rintro rfl
 have e1 : (some (Obj.cells cs t (0, 0))) = some (.cells cs' t' (0, 0)) := h.symm.trans h'
 injection e1 with e1
 injection e1 with _ e1 _
 exact ht e1
section
variable {w0 w w1 : World} {gp gt : Nat} {PC TC : Array Value} {L : List (Value × Cont)}
theorem BS.to (h : BS w0 gp gt PC TC L w) (hb : Below w.heap.size w w1) : BS w0 gp gt PC TC L w1 :=
 ⟨h.bag.below hb, h.t.below hb h.t.lt, h.p.below hb h.p.lt, below_next h.below hb, h.gtb, h.nw, h.len⟩
theorem BS.tput (h : BS w0 gp gt PC TC L w) (j : Nat) (v : Value) (hv : notWord v = true) (hj13 : j < 13) : BS w0 gp gt PC (TC.setIfInBounds j v) L (w.setCell ⟨gt, j, none⟩ v) := by
 have hj : j < TC.size := by rw [h.len]; exact hj13
 have hcell : w.cell? ⟨gt, j, none⟩ = some (TC[j]) := h.t.cell (Array.getElem?_eq_getElem hj)
 have hsz : w.heap.size ≤ (w.setCell ⟨gt, j, none⟩ v).heap.size := by simp [World.setCell]
 refine ⟨h.bag.far h.t (by decide) hsz (Keeps.set hcell (h.nw _ (Array.getElem_mem _))) fun k hk hne => Below.heap_setCell w ⟨gt, j, none⟩ v k hne, h.t.put j v, h.p.other (Blk.ne_typ h.p h.t (by decide)) v, below_put h.below _ h.gtb v, h.gtb, fun u hu => ?_, by rw [Array.size_setIfInBounds]; exact h.len⟩
 rcases Array.mem_or_eq_of_mem_setIfInBounds hu with h1 | h1
 ·exact h.nw u h1
 ·rw [h1]; exact hv
theorem BS.app {i : Nat} {v : Value} {c : Cont} {L' : List (Value × Cont)} (h : BS w0 gp gt PC TC L w) (hi : L[i]? = some (v, c)) (hb : Bag w0.heap.size w1 L') (hs : Step w w1 v.ownBlock) : BS w0 gp gt PC TC L' w1 :=
 ⟨hb, (hs.2.1 gt h.t.lt (h.bag.other hi h.t (by decide))).trans h.t, (hs.2.1 gp h.p.lt (h.bag.other hi h.p (by decide))).trans h.p,
  h.below.trans (hs.below h.below.size fun g hg => ((h.bag.ok i v c hi).lt g hg).1), h.gtb, h.nw, h.len⟩
theorem BS.iset {i j n cap g : Nat} {l : List Int} {x : Int} (h : BS w0 gp gt PC TC L w) (hi : L[i]? = some (.slice (some ⟨g, 0, none⟩) n cap, .I l)) (hj : j < l.length) : BS w0 gp gt PC TC (L.set i (.slice (some ⟨g, 0, none⟩) n cap, .I (l.set j x))) (w.setCell ⟨g, j, none⟩ (.int .i64 x)) :=
 h.app hi (h.bag.iset hi hj).1 (h.bag.iset hi hj).2
theorem BS.add {v : Value} {c : Cont} (h : BS w0 gp gt PC TC L w) (hb : Below w.heap.size w w1) (hok : c.ok w0.heap.size w1 v) (hf : ∀ g, v.ownBlock = some g → w.heap.size ≤ g) : BS w0 gp gt PC TC (L ++ [(v, c)]) w1 :=
 ⟨h.bag.add hb hok hf, h.t.below hb h.t.lt, h.p.below hb h.p.lt, below_next h.below hb, h.gtb, h.nw, h.len⟩
end
theorem Bag.isl {base : Nat} {w : World} {L : List (Value × Cont)} {i k : Nat} {v : Value} {l : List Int} (h : Bag base w L) (hi : L[i]? = some (v, .I l)) (hk : l.length = k) : ∃ A c, v = .slice A k c := by
 subst hk
 exact h.islice hi
theorem Bag.bsl {base : Nat} {w : World} {L : List (Value × Cont)} {i k : Nat} {v : Value} {l : List Bool} (h : Bag base w L) (hi : L[i]? = some (v, .B l)) (hk : l.length = k) : ∃ A c, v = .slice A k c := by
 subst hk
 exact h.bslice hi
def SameT (gt : Nat) (w W : World) : Prop := ∀ o, W.cell? ⟨gt, o, none⟩ = w.cell? ⟨gt, o, none⟩
theorem SameT.of_below {gt : Nat} {w W : World} (hb : Below w.heap.size w W) (hlt : gt < w.heap.size) : SameT gt w W := fun o => (bcell hb).1 gt o hlt
theorem SameT.of_blk {gt t : Nat} {cs : Array Value} {w W : World} (h : Blk w gt t cs) (h' : Blk W gt t cs) : SameT gt w W := fun o => World.cell?_of_block (a := ⟨gt, o, none⟩) (h'.trans h.symm)
theorem SameT.of_step {gt : Nat} {og : Option Nat} {w W : World} (hs : Step w W og) (hlt : gt < w.heap.size) (hne : og ≠ some gt) : SameT gt w W := fun o => World.cell?_of_block (a := ⟨gt, o, none⟩) (hs.2.1 gt hlt hne)
def Same2 (gt gs : Nat) (w W : World) : Prop := SameT gt w W ∧ SameT gs w W
theorem Bag.ne_own {base : Nat} {w : World} {L : List (Value × Cont)} {i j n c g : Nat} {v : Value} {d d' : Cont} (h : Bag base w L) (hij : i ≠ j) (hi : L[i]? = some (v, d)) (hj : L[j]? = some (.slice (some ⟨g, 0, none⟩) n c, d')) : v.ownBlock ≠ some g := fun e => h.apart j i _ _ _ _ g hij.symm hj hi rfl e
theorem Bag.own_lt {base : Nat} {w : World} {L : List (Value × Cont)} {i n c g : Nat} {d : Cont} (h : Bag base w L) (hi : L[i]? = some (.slice (some ⟨g, 0, none⟩) n c, d)) : g < w.heap.size := ((h.ok i _ _ hi).lt g rfl).2
theorem Bag.ne_typ {base : Nat} {w : World} {L : List (Value × Cont)} {i k t : Nat} {v : Value} {c : Cont} {cs : Array Value} (h : Bag base w L) (hi : L[i]? = some (v, c)) (hk : Blk w k t cs) (ht : c.typ ≠ t) : v.ownBlock ≠ some k := by
 intro e
 obtain ⟨cs', hb⟩ := (h.ok i v c hi).blk k e
 exact Blk.ne_typ hb hk ht rfl
theorem Bag.tail {base : Nat} {w : World} {x : Value × Cont} {L : List (Value × Cont)} (h : Bag base w (x :: L)) : Bag base w L :=
 ⟨h.size, fun i v c hi => h.ok (i + 1) v c (by simpa using hi), fun i j v c v' c' g hij hi hj hg => h.apart (i + 1) (j + 1) v c v' c' g (by omega) (by simpa using hi) (by simpa using hj) hg⟩
theorem Bag.cons {base : Nat} {w : World} {v : Value} {c : Cont} {L : List (Value × Cont)} (h : Bag base w L) (hok : c.ok base w v) (hn : ∀ (i : Nat) (v' : Value) (c' : Cont) (g : Nat), L[i]? = some (v', c') → v.ownBlock = some g → v'.ownBlock ≠ some g) : Bag base w ((v, c) :: L) := by
 refine ⟨h.size, fun i u d hi => ?_, fun i j u d u' d' g hij hi hj hg => ?_⟩
 ·cases i with
  | zero => obtain ⟨rfl, rfl⟩ := Prod.mk.inj (Option.some.inj hi); exact hok
  | succ k => exact h.ok k u d (by simpa using hi)
 ·cases i with
  | zero =>
   obtain ⟨rfl, rfl⟩ := Prod.mk.inj (Option.some.inj hi)
   cases j with
   | zero => exact absurd rfl hij
   | succ k => exact hn k u' d' g (by simpa using hj) hg
  | succ k =>
   cases j with
   | zero =>
    obtain ⟨rfl, rfl⟩ := Prod.mk.inj (Option.some.inj hj)
    intro e
    exact hn k u d g (by simpa using hi) e hg
   | succ k' => exact h.apart k k' u d u' d' g (by omega) (by simpa using hi) (by simpa using hj) hg
theorem BS.tail {w0 w : World} {gp gt : Nat} {PC TC : Array Value} {x : Value × Cont} {L : List (Value × Cont)} (h : BS w0 gp gt PC TC (x :: L) w) : BS w0 gp gt PC TC L w := ⟨h.bag.tail, h.t, h.p, h.below, h.gtb, h.nw, h.len⟩
theorem BS.cons {w0 w : World} {gp gt : Nat} {PC TC : Array Value} {v : Value} {c : Cont} {L : List (Value × Cont)} (h : BS w0 gp gt PC TC L w) (hok : c.ok w0.heap.size w v) (hn : ∀ (i : Nat) (v' : Value) (c' : Cont) (g : Nat), L[i]? = some (v', c') → v.ownBlock = some g → v'.ownBlock ≠ some g) : BS w0 gp gt PC TC ((v, c) :: L) w := ⟨h.bag.cons hok hn, h.t, h.p, h.below, h.gtb, h.nw, h.len⟩
structure Same3 (a b c : Nat) (w W : World) : Prop where
 h1 : SameT a w W
 h2 : SameT b w W
 h3 : SameT c w W
theorem SameT.trans {a : Nat} {w V W : World} (h : SameT a w V) (h' : SameT a V W) : SameT a w W := fun o => (h' o).trans (h o)
theorem Same3.next {a b c : Nat} {w V W : World} (h : Same3 a b c w V) (h1 : SameT a V W) (h2 : SameT b V W) (h3 : SameT c V W) : Same3 a b c w W := ⟨h.h1.trans h1, h.h2.trans h2, h.h3.trans h3⟩
def Cont.fr : Cont → Option (List Rat)
 | .F l => some l
 | _ => none
def Cont.it : Cont → Option (List Int)
 | .I l => some l
 | _ => none
def bagH (L : List (Value × Cont)) (g : Nat) : Option (List Rat) := L.findSome? fun e => if e.1.ownBlock = some g then e.2.fr else none
def bagN (L : List (Value × Cont)) (g : Nat) : Option (List Int) := L.findSome? fun e => if e.1.ownBlock = some g then e.2.it else none
theorem findSome_at {α β : Type} {f : α → Option β} : ∀ {L : List α} {i : Nat} {x : α}, L[i]? = some x → (∀ j y, j ≠ i → L[j]? = some y → f y = none) → L.findSome? f = f x
 | [], i, x, h, _ => by simp at h
 | a :: L, 0, x, h, ho => by
  obtain rfl : a = x := by simpa using h
  rw [List.findSome?_cons]
  cases hf : f a with
  | some b => rfl
  | none =>
   show L.findSome? f = none
   rw [List.findSome?_eq_none_iff]
   intro y hy
   obtain ⟨j, hj⟩ := List.getElem?_of_mem hy
   exact ho (j + 1) y (by omega) (by simpa using hj)
 | a :: L, i + 1, x, h, ho => by
  rw [List.findSome?_cons, ho 0 a (by omega) rfl]
  exact findSome_at (i := i) (by simpa using h) fun j y hj hy => ho (j + 1) y (by omega) (by simpa using hy)
section
variable {base : Nat} {w : World} {L : List (Value × Cont)}
theorem Bag.h_at (h : Bag base w L) {i : Nat} {v : Value} {c : Cont} {g : Nat} (hi : L[i]? = some (v, c)) (hg : v.ownBlock = some g) : bagH L g = c.fr := by
 unfold bagH
 rw [findSome_at hi fun j y hj hy => if_neg (h.apart i j v c y.1 y.2 g (fun e => hj e.symm) hi hy hg), if_pos hg]
theorem Bag.n_at (h : Bag base w L) {i : Nat} {v : Value} {c : Cont} {g : Nat} (hi : L[i]? = some (v, c)) (hg : v.ownBlock = some g) : bagN L g = c.it := by
 unfold bagN
 rw [findSome_at hi fun j y hj hy => if_neg (h.apart i j v c y.1 y.2 g (fun e => hj e.symm) hi hy hg), if_pos hg]
theorem bagH_inv {g : Nat} {qs : List Rat} (h : bagH L g = some qs) : ∃ (i : Nat) (v : Value), L[i]? = some (v, Cont.F qs) ∧ v.ownBlock = some g := by
 unfold bagH at h
 obtain ⟨e, he, h⟩ := List.exists_of_findSome?_eq_some h
 split at h
 ·rename_i hg
  obtain ⟨v, c⟩ := e
  obtain ⟨i, hi⟩ := List.getElem?_of_mem he
  cases c with
  | F l => exact ⟨i, v, by rw [hi, show l = qs from Option.some.inj h], hg⟩
  | I l => cases h
  | B l => cases h
  | R n l => cases h
 ·cases h
theorem bagN_inv {g : Nat} {l : List Int} (h : bagN L g = some l) : ∃ (i : Nat) (v : Value), L[i]? = some (v, Cont.I l) ∧ v.ownBlock = some g := by
 unfold bagN at h
 obtain ⟨e, he, h⟩ := List.exists_of_findSome?_eq_some h
 split at h
 ·rename_i hg
  obtain ⟨v, c⟩ := e
  obtain ⟨i, hi⟩ := List.getElem?_of_mem he
  cases c with
  | I m => exact ⟨i, v, by rw [hi, show m = l from Option.some.inj h], hg⟩
  | F l => cases h
  | B l => cases h
  | R n l => cases h
 ·cases h
theorem irow_of {v : Value} {l : List Int} {g : Nat} (h : OL 1 3 EBI base w v l) (hg : v.ownBlock = some g) : base ≤ g ∧ IRow w g l := by
 obtain ⟨xs, ⟨hl, h1⟩, h2⟩ := h
 rcases h1 with ⟨rfl, _⟩ | ⟨g', cap, cur, rfl, hb, hk, hnc, hcm, hcs, htake, hw⟩
 ·simp [Value.ownBlock] at hg
 ·obtain rfl : g' = g := by simpa [Value.ownBlock] using hg
  refine ⟨hb, cur, hk, hw, fun j x hj => ?_⟩
  obtain ⟨vs, h3, h4, h5⟩ := h2 j x hj
  have h5' : vs = #[.int .i64 x] := h5
  have h6 := h4 0 (.int .i64 x) (by rw [h5']; rfl)
  rw [← htake, List.getElem?_take] at h6
  split at h6
  ·simpa using h6
  ·cases h6
theorem frow_of {v : Value} {qs : List Rat} {g : Nat} (h : OL 3 40 EFQ base w v qs) (hg : v.ownBlock = some g) : base ≤ g ∧ RowV w g qs := by
 obtain ⟨A, c, rfl, _⟩ := OL.slice h
 obtain ⟨xs, ⟨hl, h1⟩, h2⟩ := id h
 rcases h1 with ⟨e, _⟩ | ⟨g', cap, cur, e, _⟩
 ·rw [e] at hg; simp [Value.ownBlock] at hg
 ·injection e with e1 e2 e3
  subst e1
  obtain rfl : g' = g := by simpa [Value.ownBlock] using hg
  have := QO.v h
  exact ⟨this.2, this.1⟩
theorem Bag.view (h : Bag base w L) (hs : ∀ (i : Nat) (v : Value) (qs : List Rat), L[i]? = some (v, .F qs) → ∀ q ∈ qs, Small q) : View base (bagH L) (bagN L) w := by
 refine ⟨h.size, fun g qs hg => ?_, fun g l hg => ?_⟩
 ·obtain ⟨i, v, hi, ho⟩ := bagH_inv hg
  have := frow_of (show OL 3 40 EFQ base w v qs from h.ok i v _ hi) ho
  exact ⟨this.1, hs i v qs hi, this.2⟩
 ·obtain ⟨i, v, hi, ho⟩ := bagN_inv hg
  exact irow_of (show OL 1 3 EBI base w v l from h.ok i v _ hi) ho
theorem Bag.vh (h : Bag base w L) {i : Nat} {v : Value} {qs : List Rat} (hi : L[i]? = some (v, .F qs)) : VH (bagH L) v qs := by
 obtain ⟨xs, ⟨hl, h1⟩, h2⟩ := (show OL 3 40 EFQ base w v qs from h.ok i _ _ hi)
 rcases h1 with ⟨e, h0⟩ | ⟨g, cap, cur, e, _⟩
 ·exact .inl ⟨List.eq_nil_of_length_eq_zero h0, e⟩
 ·exact .inr ⟨g, cap, e, h.h_at hi (by rw [e]; rfl)⟩
theorem Bag.vi (h : Bag base w L) {i : Nat} {v : Value} {l : List Int} (hi : L[i]? = some (v, .I l)) : VI (bagN L) v l := by
 obtain ⟨xs, ⟨hl, h1⟩, h2⟩ := (show OL 1 3 EBI base w v l from h.ok i _ _ hi)
 rcases h1 with ⟨e, h0⟩ | ⟨g, cap, cur, e, _⟩
 ·exact .inl ⟨List.eq_nil_of_length_eq_zero h0, e⟩
 ·exact .inr ⟨g, cap, e, h.n_at hi (by rw [e]; rfl)⟩
theorem Bag.vrows (h : Bag base w L) {i n : Nat} {v : Value} {gs : List (Nat × Nat)} (hi : L[i]? = some (v, .R n gs)) : VRows w v n gs := by
 obtain ⟨xs, ⟨hl, h1⟩, h2⟩ := (show OL 1 23 (EBG n) base w v gs from h.ok i _ _ hi)
 rcases h1 with ⟨e, h0⟩ | ⟨g, cap, cur, e, hb, hk, hnc, hcm, hcs, htake, hw⟩
 ·exact .inl ⟨List.eq_nil_of_length_eq_zero h0, e⟩
 ·refine .inr ⟨g, cap, cur, e, hk, fun j p hj => ?_⟩
  obtain ⟨vs, h3, h4, h5⟩ := h2 j p hj
  have h5' : vs = #[.slice (some ⟨p.1, 0, none⟩) n p.2] := h5
  have h6 := h4 0 _ (by rw [h5']; rfl)
  rw [← htake, List.getElem?_take] at h6
  split at h6
  ·simpa using h6
  ·cases h6
theorem Bag.fro (h : Bag base w L) {i : Nat} {v : Value} {bs : List Bool} (hi : L[i]? = some (v, .B bs)) : FrO 0 w v bs := by
 have h0 : OL 1 4 EB base w v bs := h.ok i _ _ hi
 exact ⟨OL.sl h0, fun g hg _ => .inr (OL.blk h0 g hg)⟩
end
def enterQ (gain : List Rat) (k : Nat) : Option Nat := (List.range k).find? fun c => decide (0 < gain.getD c 0)
noncomputable def leaveStep (T : Tab) (col i : Nat) (acc : Option (Nat × Rat)) : Option (Nat × Rat) :=
 if (T.rows.getD i []).getD col 0 ≤ 0 then acc
 else match acc with
  | none => some (i, quoQ (T.right.getD i 0) ((T.rows.getD i []).getD col 0))
  | some (r, l) => if 0 < ordQ (quoQ (T.right.getD i 0) ((T.rows.getD i []).getD col 0)) l ∨ (ordQ (quoQ (T.right.getD i 0) ((T.rows.getD i []).getD col 0)) l = 0 ∧ T.base.getD r 0 < T.base.getD i 0) then acc else some (i, quoQ (T.right.getD i 0) ((T.rows.getD i []).getD col 0))
noncomputable def leaveN (T : Tab) (col : Nat) : Nat → Option (Nat × Rat)
 | 0 => none
 | i + 1 => leaveStep T col i (leaveN T col i)
noncomputable def climbQ (k : Nat) : Nat → Tab → List Rat → Option (Int × Tab × List Rat)
 | 0, _, _ => none
 | n + 1, T, g =>
  match enterQ g k with
  | none => some (-1, T, g)
  | some col =>
   match leaveN T col T.rows.length with
   | none => some ((col : Int), T, g)
   | some (row, _) => climbQ k n (pivotQ T row col) (pivGain col (pivNew T row col) g)
theorem enterQ_none {gain : List Rat} {k : Nat} (h : ∀ c, c < k → ¬ 0 < gain.getD c 0) : enterQ gain k = none := by
 unfold enterQ
 rw [List.find?_eq_none]
 intro c hc
 rw [decide_eq_true_eq]
 exact h c (List.mem_range.1 hc)
theorem enterQ_some {gain : List Rat} {k c : Nat} (hc : c < k) (hg : 0 < gain.getD c 0) (h : ∀ d, d < c → ¬ 0 < gain.getD d 0) : enterQ gain k = some c := by
 unfold enterQ
 rw [List.find?_eq_some_iff_getElem]
 refine ⟨decide_eq_true hg, c, by simpa using hc, by simp, fun j hj => ?_⟩
 simp only [List.getElem_range, Bool.not_eq_true', decide_eq_false_iff_not]
 exact h j hj
theorem leaveN_at {T : Tab} {col : Nat} : ∀ {i row : Nat} {l : Rat}, leaveN T col i = some (row, l) → row < i ∧ 0 < (T.rows.getD row []).getD col 0 ∧ Small l
 | 0, row, l, h => by simp [leaveN] at h
 | i + 1, row, l, h => by
  unfold leaveN leaveStep at h
  have ih := @leaveN_at T col i
  split at h
  ·obtain ⟨h1, h2⟩ := ih h
   exact ⟨by omega, h2⟩
  ·rename_i hpos
   have hpos' : 0 < (T.rows.getD i []).getD col 0 := Rat.not_le.1 hpos
   split at h
   ·injection h with h
    injection h with h1 h2
    subst h1 h2
    exact ⟨Nat.lt_succ_self _, hpos', small_cap _⟩
   ·rename_i r l' e
    split at h
    ·obtain ⟨h1, h2⟩ := ih h
     exact ⟨by omega, h2⟩
    ·injection h with h
     injection h with h1 h2
     subst h1 h2
     exact ⟨Nat.lt_succ_self _, hpos', small_cap _⟩
theorem num_neg {q : Rat} : q.num < 0 ↔ q < 0 := by
 have := @Rat.num_nonneg q
 constructor
 ·intro h1; exact Rat.not_le.1 (fun h2 => by have := this.2 h2; omega)
 ·intro h1; exact Int.not_le.1 (fun h2 => Rat.not_le.2 h1 (this.1 h2))
theorem signQ_pos {q : Rat} : 0 < signQ q ↔ 0 < q := by
 unfold signQ
 by_cases h0 : q.num = 0
 ·rw [if_pos h0, Rat.num_eq_zero.1 h0]
  exact ⟨fun h => by omega, fun h => absurd h (Rat.not_lt.2 Rat.le_refl)⟩
 ·rw [if_neg h0]
  by_cases h1 : q.num < 0
  ·rw [if_pos h1]
   exact ⟨fun h => by omega, fun h => absurd (num_neg.1 h1) (Rat.not_lt.2 (Rat.le_of_lt h))⟩
  ·rw [if_neg h1]
   have h2 : 0 ≤ q := Rat.num_nonneg.1 (by omega)
   have h3 : q ≠ 0 := fun e => h0 (Rat.num_eq_zero.2 e)
   exact ⟨fun _ => Rat.lt_of_le_of_ne h2 (fun e => h3 e.symm), fun _ => by omega⟩
theorem signQ_nonpos {q : Rat} : signQ q ≤ 0 ↔ q ≤ 0 := by
 have := @signQ_pos q
 constructor
 ·intro h; exact Rat.not_lt.1 fun hl => by have := this.2 hl; omega
 ·intro h; exact Int.not_lt.1 fun hl => Rat.not_lt.2 h (this.1 hl)
theorem small_q0 : Small 0 := by unfold Small sizeQ; decide +kernel
def colN (n : Nat) (base : List Int) (f : Nat → Rat) : Nat → List Rat
 | 0 => List.replicate n 0
 | i + 1 => (colN n base f i).set (base.getD i 0).toNat (f i)
theorem colN_length (n : Nat) (base : List Int) (f : Nat → Rat) : ∀ i, (colN n base f i).length = n
 | 0 => List.length_replicate ..
 | i + 1 => by rw [colN, List.length_set, colN_length n base f i]
theorem colN_small (n : Nat) (base : List Int) (f : Nat → Rat) (h : ∀ i, Small (f i)) : ∀ i, ∀ q ∈ colN n base f i, Small q
 | 0, q, hq => by rw [List.eq_of_mem_replicate hq]; exact small_q0
 | i + 1, q, hq => by
  rw [colN] at hq
  rcases List.mem_or_eq_of_mem_set hq with h1 | h1
  ·exact colN_small n base f h i q h1
  ·rw [h1]; exact h i
theorem col_put {qs : List Rat} {q : Rat} {i : Nat} : ∀ (j : Nat) (x : Rat), (qs.set i q)[j]? = some x → (j = i ∧ x = q) ∨ (j ≠ i ∧ qs[j]? = some x) := fun j x hj => by
 by_cases h : i = j
 ·subst h
  have hl := (List.getElem?_eq_some_iff.1 hj).1
  rw [List.length_set] at hl
  rw [List.getElem?_set_self hl] at hj
  exact .inl ⟨rfl, (Option.some.inj hj).symm⟩
 ·rw [List.getElem?_set_ne h] at hj
  exact .inr ⟨fun e => h e.symm, hj⟩
def FxPost (w : World) (q : Rat) (e : Ending) (w' : World) : Prop := ∃ A1 n1 c1 A2 n2 c2, e = .returned (.agg #[.bool (negQ q), .slice A1 n1 c1, .slice A2 n2 c2]) ∧ FQ w' (.agg #[.bool (negQ q), .slice A1 n1 c1, .slice A2 n2 c2]) q ∧ Below w.heap.size w w'
theorem sq9 (P : Prop) (h : P := by
 have HTV := Hd hV
 have HFS := Hd hf
 have HOF := Hd hof
 have HBB := Hd hb
 obtain ⟨p0, p1, p2, p3, vRows, vRight, vBase, vPlus, vMinus, real, width, vId, vTurned⟩ := S
 obtain ⟨Ab, cb, eb⟩ := hV.base.slice
 obtain rfl : vBase = _ := eb
 have HT := Hd hT
 have HBS : Hid (Blk w gt 121 #[p0, p1, p2, p3, vRows, vRight, .slice Ab T.base.length cb, vPlus, vMinus, .int .i64 (real : Int), .int .i64 (width : Int), vId, vTurned]) := hT.1
 clear hv hT hV hf hof hb
 obtain ⟨x0, x4, x5, x6, x7, x8, x9, x10, x11, x12⟩ := HBS.out.c13
 have hlt := HBS.out.lt
 have hmk := run_make3 23 40 _ Try.underlying23 info40m width (by show width ≤ _; have : width ≤ 1000000 := hll; omega)
 have hll' : width ≤ 1000000 := hll
 clear hll
 go_enter Try.func109, Try.ntmps109
 go_wp2_with fail
 have HP0 := Hd (RowP.made w width)
 have HB0 := Hd (below_new w (.cells (madeCells #[.bool false, .slice none 0 0, .slice none 0 0] (width * 3)) 40))
 clear hmk x0 x4 x5 x6 x7 x8 x9 x10 x11 x12 hlt
 generalize w.alloc (.cells (madeCells #[.bool false, .slice none 0 0, .slice none 0 0] (width * 3)) 40) = W0 at *
 obtain ⟨go, hgo⟩ : ∃ g, g = w.heap.size := ⟨_, rfl⟩
 rw [← hgo] at HP0 ⊢
 have HGO : Hid (w.heap.size ≤ go) := by unfold Hid; omega
 clear hgo
 go_loopw [16] (fun vi wr => ∃ i : Nat, i ≤ width ∧ vi = .int .i64 (i : Int) ∧ RowP wr go width (List.replicate i 0) ∧ Below w.heap.size w wr) (fun vi _ => width - (intOf vi).toNat)
 case atStart => exact ⟨0, Nat.zero_le _, rfl, HP0.out, HB0.out⟩
 case round =>
  obtain ⟨i, hi, rfl, hrp, hbl⟩ := hrel
  have HRP := Hd hrp
  have HBr := Hd hbl
  clear hrp hbl HP0 HB0
  by_cases hlt : i < width
  ·have m1 : (i : Int) < (width : Int) := by omega
   have m3 : (i : Int).toNat = i := by omega
   have m4 : (0 : Int) ≤ (i : Int) := by omega
   go_wp2_with fail
   refine (number_calls _ 0 (by decide) (by decide)).mono ?_
   rintro e w2 ⟨v, rfl, hv, hb⟩
   obtain ⟨D7, n9, c9, D8, n10, c10, rfl, HF6⟩ := hv.opened
   have D6 := Hd hb
   have HR6 := Hd (HRP.out.below D6.out)
   have HB6 := Hd (below_next HBr.out D6.out)
   clear hv hb
   obtain ⟨o0, o1, o2, z0, z1, z2⟩ := HR6.out.cells hlt
   have f0 := HR6.out.free (i * 3)
   have f1 := HR6.out.free (i * 3 + 1)
   have f2 := HR6.out.free (i * 3 + 2)
   have hgol := HR6.out.lt
   go_wp2_with fail
   have hst := HR6.out.put (q := ((0 : Int) : Rat)) (qs' := List.replicate i 0 ++ [((0 : Int) : Rat)]) hlt HF6.out (by simp [notWord]) (put_last' (List.length_replicate ..))
   have hb7 := below_put3' HB6.out HGO.out (i * 3) (.bool (negQ ((0 : Int) : Rat))) (.slice D7 n9 c9) (.slice D8 n10 c10)
   go_roundw
   case rel => exact ⟨i + 1, by omega, by go_num, by rw [List.replicate_succ']; exact hst.1, hb7⟩
   case measure => simp [intOf]; omega
  ·obtain rfl : i = width := by omega
   obtain ⟨x0, x4, x5, x6, x7, x8, x9, x10, x11, x12⟩ := (HBS.out.below HBr.out HBS.out.lt).c13
   have hltt := (HBS.out.below HBr.out HBS.out.lt).lt
   go_wp2_with fail
   clear x0 x4 x5 x6 x7 x8 x9 x10 x11 x12 hltt
   go_loopw [29] (fun vi wr2 => ∃ j : Nat, j ≤ T.base.length ∧ vi = .int .i64 (j : Int) ∧ RowP wr2 go i (colN i T.base f j) ∧ Below w.heap.size w wr2) (fun vi _ => T.base.length - (intOf vi).toNat)
   case atStart => exact ⟨0, Nat.zero_le _, rfl, HRP.out, HBr.out⟩
   case round =>
    obtain ⟨j, hj, rfl, hrp, hbl⟩ := hrel
    have HR1 := Hd hrp
    have HB1 := Hd hbl
    clear hrp hbl HRP HBr
    by_cases hlj : j < T.base.length
    ·obtain ⟨b, hb⟩ : ∃ x, T.base[j]? = some x := ⟨T.base[j], geq hlj⟩
     have hbr := HBB.out b (mog hb)
     obtain ⟨n, rfl⟩ : ∃ n : Nat, b = n := ⟨b.toNat, by omega⟩
     obtain ⟨gb, rfl, hgb⟩ := HTV.out.base.at_ (by omega)
     have HBD : Hid (T.base.getD j 0 = (n : Int)) := by unfold Hid; rw [gdd, hb]; rfl
     have HV1 := Hd (HV.out.below HB1.out)
     obtain ⟨k0, hgbl, _⟩ := HV1.out.iat hgb hb
     have m1 : (j : Int) < (T.base.length : Int) := by omega
     have m3 : (j : Int).toNat = j := by omega
     have m4 : (0 : Int) ≤ (j : Int) := by omega
     have m5 : (n : Int).toNat = n := by omega
     have m6 : (0 : Int) ≤ (n : Int) := by omega
     have m7 : (n : Int) < (i : Int) := hbr.2
     have hn : n < i := by omega
     clear hb hgb hbr
     go_wp2_with fail
     refine (HOF.out _ j HB1.out hlj).mono ?_
     rintro e w2 ⟨D7, n9, c9, D8, n10, c10, rfl, hF, hb⟩
     have HF6 := Hd hF
     have D6 := Hd hb
     have HR6 := Hd (HR1.out.below D6.out)
     have HB6 := Hd (below_next HB1.out D6.out)
     clear hF hb k0 hgbl
     obtain ⟨o0, o1, o2, z0, z1, z2⟩ := HR6.out.cells hn
     have f0 := HR6.out.free (n * 3)
     have f1 := HR6.out.free (n * 3 + 1)
     have f2 := HR6.out.free (n * 3 + 2)
     have hgol := HR6.out.lt
     go_wp2_with fail
     have hst := HR6.out.put (q := f j) (qs' := (colN i T.base f j).set n (f j)) hn HF6.out (by simp [notWord]) col_put
     have hb7 := below_put3' HB6.out HGO.out (n * 3) (.bool (negQ (f j))) (.slice D7 n9 c9) (.slice D8 n10 c10)
     go_roundw
     case rel => exact ⟨j + 1, by omega, by go_num, by rw [colN, HBD.out, Int.toNat_natCast]; exact hst.1, hb7⟩
     case measure => simp [intOf]; omega
    ·obtain rfl : j = T.base.length := by omega
     go_wp2_with fail
     go_ret
     exact ⟨go, _, by rw [colN_length]; rfl, HGO.out, HR1.out.lt, (HV.out.below HB1.out).add HR1.out.v (Nat.le_trans HV.out.size HGO.out) (colN_small _ _ _ HFS.out _), HB1.out⟩) : P := h
theorem columns_x (base : Nat) (H : Nat → Option (List Rat)) (I : Nat → Option (List Int)) (w : World) (gt : Nat) (S : Shape) (gs : List (Nat × Nat)) (tn : List Bool) (T : Tab) (f : Nat → Rat) (gb0 : Nat) (hv : View base H I w) (hT : TabW w gt S gs tn) (hV : TabV H I S gs T) (hf : ∀ i, Small (f i)) (hof : ∀ (W : World) (i : Nat), Below w.heap.size w W → i < T.base.length → Calls Try.prog 110 #[.int .i64 (i : Int), .pointer (some ⟨gb0, 0, none⟩)] W fun e w' => FxPost W (f i) e w') (hb : ∀ b ∈ T.base, 0 ≤ b ∧ b < (S.width : Int)) (hll : S.width ≤ 1000000) (hml : T.base.length ≤ 1000000) (hp : 0 < S.width) :
  Calls Try.prog 109 #[.pointer (some ⟨gt, 0, none⟩), .func (.func 110) #[] #[.pointer (some ⟨gb0, 0, none⟩)]] w fun e w' => RedPost base H I (colN S.width T.base f T.base.length) w e w' := by
 have HV := Hd hv
 exact sq9 _
theorem columns_r (base : Nat) (H : Nat → Option (List Rat)) (I : Nat → Option (List Int)) (w : World) (gt : Nat) (S : Shape) (gs : List (Nat × Nat)) (tn : List Bool) (T : Tab) (f : Nat → Rat) (gb0 gb1 : Nat) (hv : View base H I w) (hT : TabW w gt S gs tn) (hV : TabV H I S gs T) (hf : ∀ i, Small (f i)) (hof : ∀ (W : World) (i : Nat), Below w.heap.size w W → i < T.base.length → Calls Try.prog 111 #[.int .i64 (i : Int), .pointer (some ⟨gb0, 0, none⟩), .pointer (some ⟨gb1, 0, none⟩)] W fun e w' => FxPost W (f i) e w') (hb : ∀ b ∈ T.base, 0 ≤ b ∧ b < (S.width : Int)) (hll : S.width ≤ 1000000) (hml : T.base.length ≤ 1000000) (hp : 0 < S.width) :
  Calls Try.prog 109 #[.pointer (some ⟨gt, 0, none⟩), .func (.func 111) #[] #[.pointer (some ⟨gb0, 0, none⟩), .pointer (some ⟨gb1, 0, none⟩)]] w fun e w' => RedPost base H I (colN S.width T.base f T.base.length) w e w' := by
 have HV := Hd hv
 exact sq9 _
theorem clo_right (base : Nat) (H : Nat → Option (List Rat)) (I : Nat → Option (List Int)) (w : World) (gt gb : Nat) (S : Shape) (gs : List (Nat × Nat)) (tn : List Bool) (T : Tab) (i : Nat) (hv : View base H I w) (hT : TabW w gt S gs tn) (hV : TabV H I S gs T) (hg : Blk w gb 117 #[.pointer (some ⟨gt, 0, none⟩)]) (hi : i < T.right.length) (hm : T.right.length ≤ 1000000) :
  Calls Try.prog 110 #[.int .i64 (i : Int), .pointer (some ⟨gb, 0, none⟩)] w fun e w' => FxPost w (T.right.getD i 0) e w' := by
 have HV := Hd hv
 have HTV := Hd hV
 obtain ⟨p0, p1, p2, p3, vRows, vRight, vBase, vPlus, vMinus, real, width, vId, vTurned⟩ := S
 obtain ⟨Ar, cr, er⟩ := hV.right.slice
 obtain rfl : vRight = _ := er
 obtain ⟨gr, rfl, hgr⟩ := hV.right.at_ (by omega)
 have HBS : Hid (Blk w gt 121 #[p0, p1, p2, p3, vRows, .slice (some ⟨gr, 0, none⟩) T.right.length cr, vBase, vPlus, vMinus, .int .i64 (real : Int), .int .i64 (width : Int), vId, vTurned]) := hT.1
 obtain ⟨q, hq⟩ : ∃ x, T.right[i]? = some x := ⟨T.right[i], geq hi⟩
 have HQD : Hid (T.right.getD i 0 = q) := getD_at hq
 have HK := Hd hg
 obtain ⟨A1, n1, c1, A2, n2, c2, q0, q1, q2, HFQ⟩ := hv.at_ hgr hq
 have hgl := hv.lt hgr
 have hb0 : w.cell? ⟨gb, 0, none⟩ = some (.pointer (some ⟨gt, 0, none⟩)) := hg.cell rfl
 have hbl := hg.lt
 obtain ⟨x0, x4, x5, x6, x7, x8, x9, x10, x11, x12⟩ := HBS.out.c13
 have hlt := HBS.out.lt
 have m1 : (i : Int) < (T.right.length : Int) := by omega
 have m3 : (i : Int).toNat = i := by omega
 have m4 : (0 : Int) ≤ (i : Int) := by omega
 rw [HQD.out]
 clear hv hT hV hg hq hgr hi
 go_enter Try.func110, Try.ntmps110
 go_wp2_with fail
 exact ret40 Try.results110 rfl (Blk.new w 40 #[.bool (negQ q), .slice A1 n1 c1, .slice A2 n2 c2]) ⟨A1, n1, c1, A2, n2, c2, rfl, HFQ.out.of_below (below_new _ _), below_new _ _⟩
theorem clo_ray (base : Nat) (H : Nat → Option (List Rat)) (I : Nat → Option (List Int)) (w : World) (gt gb gc : Nat) (S : Shape) (gs : List (Nat × Nat)) (tn : List Bool) (T : Tab) (i col : Nat) (hv : View base H I w) (hT : TabW w gt S gs tn) (hV : TabV H I S gs T) (hg : Blk w gb 117 #[.pointer (some ⟨gt, 0, none⟩)]) (hc : w.cell? ⟨gc, 0, none⟩ = some (.int .i64 (col : Int))) (hcl : gc < w.heap.size) (hi : i < T.rows.length) (hm : T.rows.length ≤ 1000000) (hcol : col < S.width) (hw : S.width ≤ 1000000) :
  Calls Try.prog 111 #[.int .i64 (i : Int), .pointer (some ⟨gb, 0, none⟩), .pointer (some ⟨gc, 0, none⟩)] w fun e w' => FxPost w (-((T.rows.getD i []).getD col 0)) e w' := by
 have HV := Hd hv
 have HTV := Hd hV
 obtain ⟨p0, p1, p2, p3, vRows, vRight, vBase, vPlus, vMinus, real, width, vId, vTurned⟩ := S
 obtain ⟨Ar, cr, er⟩ := hT.2.1.slice
 obtain rfl : vRows = _ := er
 obtain ⟨pg, hpg⟩ : ∃ p, gs[i]? = some p := ⟨gs[i]'(by rw [hV.len]; exact hi), geq _⟩
 obtain ⟨row, hrow⟩ : ∃ r, T.rows[i]? = some r := ⟨T.rows[i], geq hi⟩
 obtain ⟨hgq, hrl⟩ := hV.row i pg row hpg hrow
 obtain ⟨gR, rfl, hgRl, hgRc⟩ := hT.2.1.at_ hpg
 obtain ⟨gi, ci⟩ := pg
 have HBS : Hid (Blk w gt 121 #[p0, p1, p2, p3, .slice (some ⟨gR, 0, none⟩) gs.length cr, vRight, vBase, vPlus, vMinus, .int .i64 (real : Int), .int .i64 (width : Int), vId, vTurned]) := hT.1
 have hrl' : row.length = width := hrl
 have hcol' : col < width := hcol
 have hw' : width ≤ 1000000 := hw
 obtain ⟨q, hq⟩ : ∃ x, row[col]? = some x := ⟨row[col]'(by omega), geq _⟩
 have HQD : Hid ((T.rows.getD i []).getD col 0 = q) := by
  unfold Hid
  rw [show T.rows.getD i [] = row by rw [gdd, hrow]; rfl]
  exact getD_at hq
 obtain ⟨A1, n1, c1, A2, n2, c2, q0, q1, q2, HFQ⟩ := hv.at_ hgq hq
 have HSQ : Hid (Small q) := hv.small hgq hq
 have hgl := hv.lt hgq
 have hb0 : w.cell? ⟨gb, 0, none⟩ = some (.pointer (some ⟨gt, 0, none⟩)) := hg.cell rfl
 have hbl := hg.lt
 have hc0 := hc
 obtain ⟨x0, x4, x5, x6, x7, x8, x9, x10, x11, x12⟩ := HBS.out.c13
 have hlt := HBS.out.lt
 have m1 : (i : Int) < (gs.length : Int) := by rw [hV.len]; omega
 have m2 : (col : Int) < (width : Int) := by omega
 have m3 : (i : Int).toNat = i := by omega
 have m4 : (0 : Int) ≤ (i : Int) := by omega
 have m5 : (col : Int).toNat = col := by omega
 have m6 : (0 : Int) ≤ (col : Int) := by omega
 rw [HQD.out]
 clear hv hT hV hg hc hq hgq hrow hpg hi hrl hrl' hcol hw hcol'
 go_enter Try.func111, Try.ntmps111
 go_wp2_with fail
 have HB0 := Hd (below_new w (.cells #[.bool false, .slice none 0 0, .slice none 0 0] 40))
 have HK0 := Hd (Blk.new w 40 #[.bool false, .slice none 0 0, .slice none 0 0])
 obtain ⟨go, hgo⟩ : ∃ g, g = w.heap.size := ⟨_, rfl⟩
 rw [← hgo] at HK0 ⊢
 have HGO : Hid (w.heap.size ≤ go) := by unfold Hid; omega
 clear hgo
 have hcW := (bcell HB0.out).1
 rw [← hcW _ _ hbl] at hb0
 rw [← hcW _ _ hcl] at hc0
 rw [← hcW _ _ hgl] at q0 q1 q2
 rw [← hcW _ _ hgRl] at hgRc
 rw [← hcW _ _ hlt] at x4
 have hbl := Nat.lt_of_lt_of_le hbl HB0.out.size
 have hcl := Nat.lt_of_lt_of_le hcl HB0.out.size
 have hgl := Nat.lt_of_lt_of_le hgl HB0.out.size
 have hgRl := Nat.lt_of_lt_of_le hgRl HB0.out.size
 have hlt := Nat.lt_of_lt_of_le hlt HB0.out.size
 have HFQ0 := Hd (HFQ.out.of_below HB0.out)
 clear x0 x5 x6 x7 x8 x9 x10 x11 x12 hcW
 generalize w.alloc (.cells #[.bool false, .slice none 0 0, .slice none 0 0] 40) = W0 at *
 go_wp2_with fail
 refine wp_chainF (l := [_, _, _, _, _, _, _, _, _, _, _, _]) (S := Below W0.heap.size W0) 11 [([0, 1, 2, 3, 4, 5, 6, 7, 8, 9], 10)] [] (by kernel_rfl) (by kernel_rfl) (by kernel_rfl) rfl Bd ?_
 refine ⟨?_, _, ?_, rfl, ?_⟩
 rotate_left
 ·(iterate 10 ((refine pu ?_); (try simp only [SQ])))
  exact rfl
 have D0 : Hid (Below W0.heap.size W0 W0.drew) := Bd
 go_wp2_with fail
 refine (fneg_calls _ _ (rawQ q) (FR.of_fq (HFQ0.out.of_below D0.out) HSQ.out)).mono ?_
 rintro e w6 ⟨v, rfl, hv, hb⟩
 rw [fixQ_raw _ HSQ.out] at hv
 obtain ⟨D7, n9, c9, D8, n10, c10, rfl, HF6⟩ := hv.opened
 have D6 := Hd (below_next D0.out hb)
 have HK6 := Hd (HK0.out.below D6.out HK0.out.lt)
 clear hv hb
 go_wp2_with fail
 refine And.intro D6.out ⟨_, rfl, ?_⟩
 obtain ⟨z0, z1, z2⟩ := (show Blk w6 go 40 #[.bool false, .slice none 0 0, .slice none 0 0] from HK6.out).c3
 obtain ⟨f0, f1, f2⟩ := (show Blk w6 go 40 #[.bool false, .slice none 0 0, .slice none 0 0] from HK6.out).f3
 have hgol := HK6.out.lt
 clear q0 q1 q2 hb0 hc0 hgRc x4 hbl hcl hgl hgRl hlt
 go_wp2_with fail
 refine NoPanic.normal ?_
 go_wp2_with fail
 have HB6 := below_next HB0.out D6.out
 have hb2 := below_put3' HB6 HGO.out 0 (.bool (negQ (-q))) (.slice D7 n9 c9) (.slice D8 n10 c10)
 exact ret40 Try.results111 rfl (HK6.out.put3 _ _ _) ⟨D7, n9, c9, D8, n10, c10, rfl, HF6.out.keeps (put3_only (o := 0) HK6.out (by intro u hu; simp at hu; rcases hu with rfl | rfl <;> rfl)).1, hb2⟩
def varsN (fr : List Bool) : Nat → List Int × List Int × Nat
 | 0 => ([], [], 0)
 | i + 1 => ((varsN fr i).1 ++ [((varsN fr i).2.2 : Int)], (varsN fr i).2.1 ++ [if fr.getD i false = true then (((varsN fr i).2.2 + 1 : Nat) : Int) else -1], (varsN fr i).2.2 + if fr.getD i false = true then 2 else 1)
theorem varsN_len1 (fr : List Bool) : ∀ i, (varsN fr i).1.length = i
 | 0 => rfl
 | i + 1 => by rw [varsN, lap, varsN_len1 fr i]; rfl
theorem varsN_len2 (fr : List Bool) : ∀ i, (varsN fr i).2.1.length = i
 | 0 => rfl
 | i + 1 => by rw [varsN, lap, varsN_len2 fr i]; rfl
theorem varsN_real (fr : List Bool) : ∀ i, (varsN fr i).2.2 ≤ 2 * i
 | 0 => Nat.le_refl _
 | i + 1 => by
  have := varsN_real fr i
  show (varsN fr i).2.2 + (if fr.getD i false = true then 2 else 1) ≤ _
  split <;> omega
theorem run_makeI (n : Nat) (hn : n ≤ 1000000000000) (w : World) :
  Sem.run Try.prog (Instr.makeSlice 27 (.int .i64 (n : Int)) (.int .i64 (n : Int))) w = .ok (.slice (some ⟨w.heap.size, 0, none⟩) n n) (w.alloc (.cells (madeCells #[.int .i64 0] n) 3)) := by
 obtain ⟨i, hi, hzz⟩ := Option.map_eq_some_iff.1 infoI
 simp only [Prod.mk.injEq] at hzz
 obtain ⟨hz, hsz, hby⟩ := hzz
 have := run_make (P := Try.prog) w 27 3 i _ Try.underlying27 hi hz .i64 .i64 (n : Int) (n : Int) (by omega) (Int.le_refl _) (by rw [hby]; omega) (by omega)
 rw [hsz, Int.toNat_natCast, Nat.mul_one] at this
 exact this
theorem madeI_list (n : Nat) : (madeCells #[Value.int .i64 0] n).toList = List.replicate n (Value.int .i64 0) := by
 apply List.ext_getElem
 ·simp [size_madeCells]
 ·intro i h1 h2
  simp only [madeCells, Array.getElem_toList, Array.getElem_map, Array.getElem_range, List.getElem_replicate]
  rw [show i % (#[Value.int .i64 0] : Array Value).size = 0 from Nat.mod_one i]
  rfl
theorem madeI_ok (base : Nat) (w : World) (n : Nat) (hb : base ≤ w.heap.size) (hn : n ≤ 1000000000000) : (Cont.I (List.replicate n 0)).ok base (w.alloc (.cells (madeCells #[.int .i64 0] n) 3)) (.slice (some ⟨w.heap.size, 0, none⟩) n n) := by
 have hl := madeI_list n
 refine ⟨List.replicate n (.int .i64 0), ⟨by simp, .inr ⟨w.heap.size, n, _, by rw [List.length_replicate], hb, Blk.new w 3 _, by rw [List.length_replicate]; exact Nat.le_refl _, by unfold maxLen; omega, by simp [size_madeCells], ?_, ?_⟩⟩, fun j a hj => ?_⟩
 ·rw [hl, List.length_replicate, Nat.mul_one, List.take_of_length_le (by simp)]
 ·intro u hu
  rw [← Array.mem_toList_iff, hl] at hu
  rw [List.eq_of_mem_replicate hu]
  rfl
 ·obtain ⟨hjl, rfl⟩ := List.getElem?_eq_some_iff.1 hj
  rw [List.length_replicate] at hjl
  refine ⟨#[.int .i64 0], rfl, fun i u hu => ?_, by rw [List.getElem_replicate]; rfl⟩
  have hi0 : i = 0 := by
   have := (Array.getElem?_eq_some_iff.1 hu).1
   simp at this
   omega
  subst hi0
  rw [Nat.mul_one, Nat.add_zero, List.getElem?_replicate, if_pos hjl]
  simpa using hu
def sOf (rs : List RowQ) (i : Nat) : Int := (rs[i]?.map RowQ.s).getD 0
def slackN (rs : List RowQ) (r0 : Nat) : Nat → List Int × Nat
 | 0 => ([], r0)
 | i + 1 => ((slackN rs r0 i).1 ++ [if sOf rs i = 0 then -1 else ((slackN rs r0 i).2 : Int)], (slackN rs r0 i).2 + if sOf rs i = 0 then 0 else 1)
theorem slackN_len (rs : List RowQ) (r0 : Nat) : ∀ i, (slackN rs r0 i).1.length = i
 | 0 => rfl
 | i + 1 => by rw [slackN, lap, slackN_len rs r0 i]; rfl
theorem slackN_real (rs : List RowQ) (r0 : Nat) : ∀ i, (slackN rs r0 i).2 ≤ r0 + i
 | 0 => Nat.le_refl _
 | i + 1 => by
  have := slackN_real rs r0 i
  show (slackN rs r0 i).2 + (if sOf rs i = 0 then 0 else 1) ≤ _
  split <;> omega
theorem set_rep {l : List Int} {i m : Nat} (x : Int) (hl : l.length = i) (hi : i < m) : (l ++ List.replicate (m - i) 0).set i x = l ++ [x] ++ List.replicate (m - (i + 1)) 0 := by
 obtain ⟨k, rfl⟩ : ∃ k, m = i + (k + 1) := ⟨m - i - 1, by omega⟩
 rw [show i + (k + 1) - i = k + 1 by omega, show i + (k + 1) - (i + 1) = k by omega, List.replicate_succ, List.set_append_right _ _ (by omega), show i - l.length = 0 by omega]
 simp
theorem set_mid2 {l r : List Int} {i : Nat} (x y : Int) (hl : l.length = i) : (l ++ [x] ++ r).set i y = l ++ [y] ++ r := by
 rw [List.append_assoc, List.set_append_right _ _ (by omega), show i - l.length = 0 by omega]
 simp
theorem signQ_neg_iff (q : Rat) : signQ q < 0 ↔ q < 0 := by
 unfold signQ
 by_cases h0 : q.num = 0
 ·rw [if_pos h0, Rat.num_eq_zero.1 h0]
  exact ⟨fun h => by omega, fun h => absurd h (Rat.not_lt.2 Rat.le_refl)⟩
 ·rw [if_neg h0]
  by_cases h1 : q.num < 0
  ·rw [if_pos h1]
   exact ⟨fun _ => num_neg.1 h1, fun _ => by omega⟩
  ·rw [if_neg h1]
   exact ⟨fun h => by omega, fun h => absurd (num_neg.2 h) h1⟩
def bOf (rs : List RowQ) (i : Nat) : Rat := (rs[i]?.map RowQ.b).getD 0
def tOf (rs : List RowQ) (i : Nat) : Bool := decide (bOf rs i < 0)
def turnN (rs : List RowQ) (i : Nat) : List Bool := (rs.take i).map fun r => decide (r.b < 0)
theorem turnN_len (rs : List RowQ) (i : Nat) (h : i ≤ rs.length) : (turnN rs i).length = i := by simp [turnN]; omega
theorem turnN_succ {rs : List RowQ} {i : Nat} {r : RowQ} (h : rs[i]? = some r) : turnN rs (i + 1) = turnN rs i ++ [decide (r.b < 0)] := by
 unfold turnN
 rw [List.take_add_one, h, List.map_append]
 rfl
def idC (rs : List RowQ) (sl : List Int) (i : Nat) : Bool := decide (0 ≤ sl.getD i 0) && decide (-(sOf rs i) * (if tOf rs i = true then -1 else 1) = 1)
theorem idC_eq {rs : List RowQ} {sl : List Int} {i : Nat} {x t : Int} {tb : Bool} (h1 : sl.getD i 0 = x) (h2 : sOf rs i = t) (h3 : tOf rs i = tb) : idC rs sl i = (decide (0 ≤ x) && decide (-t * (if tb = true then -1 else 1) = 1)) := by unfold idC; rw [h1, h2, h3]
def idN (rs : List RowQ) (sl : List Int) (w0 : Nat) : Nat → List Int × Nat
 | 0 => ([], w0)
 | i + 1 => ((idN rs sl w0 i).1 ++ [if idC rs sl i = true then sl.getD i 0 else ((idN rs sl w0 i).2 : Int)], (idN rs sl w0 i).2 + if idC rs sl i = true then 0 else 1)
theorem idN_len (rs : List RowQ) (sl : List Int) (w0 : Nat) : ∀ i, (idN rs sl w0 i).1.length = i
 | 0 => rfl
 | i + 1 => by rw [idN, lap, idN_len rs sl w0 i]; rfl
theorem idN_width (rs : List RowQ) (sl : List Int) (w0 : Nat) : ∀ i, (idN rs sl w0 i).2 ≤ w0 + i
 | 0 => Nat.le_refl _
 | i + 1 => by
  have := idN_width rs sl w0 i
  show (idN rs sl w0 i).2 + (if idC rs sl i = true then 0 else 1) ≤ _
  split <;> omega
theorem varsN_lt1 (fr : List Bool) : ∀ i, ∀ x ∈ (varsN fr i).1, 0 ≤ x ∧ x < ((varsN fr i).2.2 : Int)
 | 0, x, h => by simp [varsN] at h
 | i + 1, x, h => by
  have hr : (varsN fr i).2.2 < (varsN fr (i + 1)).2.2 := by
   show _ < (varsN fr i).2.2 + (if fr.getD i false = true then 2 else 1)
   split <;> omega
  rw [varsN, List.mem_append] at h
  rcases h with h | h
  ·have := varsN_lt1 fr i x h
   omega
  ·rw [List.mem_singleton] at h
   omega
theorem varsN_lt2 (fr : List Bool) : ∀ i, ∀ x ∈ (varsN fr i).2.1, x < ((varsN fr i).2.2 : Int)
 | 0, x, h => by simp [varsN] at h
 | i + 1, x, h => by
  have hr : (varsN fr (i + 1)).2.2 = (varsN fr i).2.2 + (if fr.getD i false = true then 2 else 1) := rfl
  rw [varsN, List.mem_append] at h
  rcases h with h | h
  ·have := varsN_lt2 fr i x h
   split at hr <;> omega
  ·rw [List.mem_singleton] at h
   split at hr
   ·rename_i hf
    rw [if_pos hf] at h
    omega
   ·rename_i hf
    rw [if_neg hf] at h
    omega
theorem slackN_lt (rs : List RowQ) (r0 : Nat) : ∀ i, ∀ x ∈ (slackN rs r0 i).1, x < ((slackN rs r0 i).2 : Int)
 | 0, x, h => by simp [slackN] at h
 | i + 1, x, h => by
  have hr : (slackN rs r0 (i + 1)).2 = (slackN rs r0 i).2 + (if sOf rs i = 0 then 0 else 1) := rfl
  rw [slackN, List.mem_append] at h
  rcases h with h | h
  ·have := slackN_lt rs r0 i x h
   split at hr <;> omega
  ·rw [List.mem_singleton] at h
   split at hr
   ·rename_i hf
    rw [if_pos hf] at h
    omega
   ·rename_i hf
    rw [if_neg hf] at h
    omega
theorem slackN_ge (rs : List RowQ) (r0 : Nat) : ∀ i, r0 ≤ (slackN rs r0 i).2
 | 0 => Nat.le_refl _
 | i + 1 => Nat.le_trans (slackN_ge rs r0 i) (Nat.le_add_right _ _)
theorem idN_ge (rs : List RowQ) (sl : List Int) (w0 : Nat) : ∀ i, w0 ≤ (idN rs sl w0 i).2
 | 0 => Nat.le_refl _
 | i + 1 => Nat.le_trans (idN_ge rs sl w0 i) (Nat.le_add_right _ _)
theorem idN_lt (rs : List RowQ) (sl : List Int) (w0 : Nat) (hs : ∀ x ∈ sl, x < (w0 : Int)) : ∀ i, i ≤ sl.length → ∀ x ∈ (idN rs sl w0 i).1, 0 ≤ x ∧ x < ((idN rs sl w0 i).2 : Int)
 | 0, _, x, h => by simp [idN] at h
 | i + 1, hi, x, h => by
  have hr : (idN rs sl w0 (i + 1)).2 = (idN rs sl w0 i).2 + (if idC rs sl i = true then 0 else 1) := rfl
  have hg := idN_ge rs sl w0 i
  rw [idN, List.mem_append] at h
  rcases h with h | h
  ·have := idN_lt rs sl w0 hs i (by omega) x h
   split at hr <;> omega
  ·rw [List.mem_singleton] at h
   split at hr
   ·rename_i hf
    rw [if_pos hf] at h
    unfold idC at hf
    rw [Bool.and_eq_true, decide_eq_true_eq] at hf
    have hm : sl.getD i 0 ∈ sl := by
     rw [gdd, geq (by omega)]
     exact List.getElem_mem _
    have := hs _ hm
    rw [h]
    omega
   ·rename_i hf
    rw [if_neg hf] at h
    omega
def aOf (r : RowQ) : List Rat := if r.b < 0 then r.a.map fun q => -q else r.a
def bOfR (r : RowQ) : Rat := if r.b < 0 then -r.b else r.b
def fillN (ps ms : List Int) (a : List Rat) (wd : Nat) : Nat → List Rat
 | 0 => List.replicate wd 0
 | v + 1 => if 0 ≤ ms.getD v 0 then ((fillN ps ms a wd v).set (ps.getD v 0).toNat (a.getD v 0)).set (ms.getD v 0).toNat (-(a.getD v 0)) else (fillN ps ms a wd v).set (ps.getD v 0).toNat (a.getD v 0)
theorem fillN_len (ps ms : List Int) (a : List Rat) (wd : Nat) : ∀ v, (fillN ps ms a wd v).length = wd
 | 0 => List.length_replicate ..
 | v + 1 => by
  rw [fillN]
  split
  ·rw [List.length_set, List.length_set, fillN_len ps ms a wd v]
  ·rw [List.length_set, fillN_len ps ms a wd v]
def rowS (ps ms sl : List Int) (wd n i : Nat) (r : RowQ) : List Rat := if 0 ≤ sl.getD i 0 then (fillN ps ms (aOf r) wd n).set (sl.getD i 0).toNat (((if r.b < 0 then r.s else -r.s : Int) : Int) : Rat) else fillN ps ms (aOf r) wd n
def rowD (ps ms sl il : List Int) (wd n i : Nat) (r : RowQ) : List Rat := (rowS ps ms sl wd n i r).set (il.getD i 0).toNat 1
def rowsN (ps ms sl il : List Int) (wd n : Nat) (rs : List RowQ) : List (List Rat) := rs.mapIdx fun i r => rowD ps ms sl il wd n i r
def entN (wd : Nat) (gl : List (Nat × Nat)) (qs : List (List Rat)) : List (Value × Cont) := List.zipWith (fun p q => (Value.slice (some ⟨p.1, 0, none⟩) wd p.2, Cont.F q)) gl qs
theorem BS.only {w0 w w1 : World} {gp gt g : Nat} {PC TC : Array Value} {L : List (Value × Cont)} (h : BS w0 gp gt PC TC L w) (ho : Only g w w1) (hn : ∀ (i : Nat) (v : Value) (c : Cont), L[i]? = some (v, c) → v.ownBlock ≠ some g) (hgt : gt ≠ g) (hgp : gp ≠ g) (hg : w0.heap.size ≤ g) : BS w0 gp gt PC TC L w1 :=
 ⟨h.bag.moved ho.1.1 ho.1 fun i v c k hi hk => ho.2.1 k ((h.bag.ok i v c hi).lt k hk).2 (fun e => hn i v c hi (by rw [← e]; exact hk)), (ho.2.1 gt h.t.lt hgt).trans h.t, (ho.2.1 gp h.p.lt hgp).trans h.p,
  h.below.trans ⟨ho.2.2.1.symm, ho.2.2.2.1.symm, ho.2.2.2.2.symm, ho.1.1, fun k hk => ho.2.1 k (Nat.lt_of_lt_of_le hk h.below.size) (by omega)⟩, h.gtb, h.nw, h.len⟩
theorem RowP.ol {w : World} {g n base : Nat} {qs : List Rat} (h : RowP w g n qs) (hl : qs.length = n) (hb : base ≤ g) (hn : n ≤ 1000000) : OL 3 40 EFQ base w (.slice (some ⟨g, 0, none⟩) n n) qs := by
 obtain ⟨cs, hbk, hnw, hs, hx⟩ := h
 refine ⟨cs.toList, ⟨by simp [hl, hs], .inr ⟨g, n, cs, by rw [hl], hb, hbk, by omega, by unfold maxLen; omega, hs, by rw [hl]; exact List.take_of_length_le (by simp [hs]), hnw⟩⟩, fun j a hj => ?_⟩
 obtain ⟨a', b', c', e0, e1, e2, hE⟩ := hx j a hj
 refine ⟨#[a', b', c'], rfl, fun i u hu => ?_, hE⟩
 have hi : i < 3 := (Array.getElem?_eq_some_iff.1 hu).1
 match i, hi with
 | 0, _ => rw [show u = a' by simpa using hu.symm]; simpa using e0
 | 1, _ => rw [show u = b' by simpa using hu.symm]; simpa using e1
 | 2, _ => rw [show u = c' by simpa using hu.symm]; simpa using e2
theorem box_ol {w : World} {g base : Nat} {a b c : Value} {q : Rat} (hk : Blk w g 40 #[a, b, c]) (hw : ∀ u ∈ #[a, b, c], notWord u = true) (hq : FQ w (.agg #[a, b, c]) q) (hb : base ≤ g) : OL 3 40 EFQ base w (.slice (some ⟨g, 0, none⟩) 1 1) [q] := by
 refine ⟨[a, b, c], ⟨rfl, .inr ⟨g, 1, _, rfl, hb, hk, Nat.le_refl _, by unfold maxLen; omega, rfl, rfl, hw⟩⟩, fun j x hj => ?_⟩
 have hj0 : j = 0 := by
  have := (List.getElem?_eq_some_iff.1 hj).1
  simp at this
  omega
 subst hj0
 have e : q = x := by simpa using hj
 subst e
 exact ⟨#[a, b, c], rfl, fun i u hu => by simpa using hu, hq⟩
theorem rowD_len (ps ms sl il : List Int) (wd n i : Nat) (r : RowQ) : (rowD ps ms sl il wd n i r).length = wd := by
 unfold rowD rowS
 rw [List.length_set]
 split
 ·rw [List.length_set, fillN_len]
 ·rw [fillN_len]
theorem zip_snoc {α β γ : Type} (f : α → β → γ) (x : α) (y : β) : ∀ (l : List α) (m : List β), l.length = m.length → List.zipWith f (l ++ [x]) (m ++ [y]) = List.zipWith f l m ++ [f x y]
 | [], [], _ => rfl
 | a :: l, b :: m, h => by
  rw [List.cons_append, List.cons_append, List.zipWith_cons_cons, List.zipWith_cons_cons, zip_snoc f x y l m (by simpa using h)]
  rfl
theorem set_last {α : Type} (l : List α) (x y : α) {i : Nat} (h : l.length = i) : (l ++ [x]).set i y = l ++ [y] := by
 subst h
 simp
def realB (p : ProgQ) (n m : Nat) : Nat := (slackN p.rows (varsN p.free n).2.2 m).2
def slackB (p : ProgQ) (n m : Nat) : List Int := (slackN p.rows (varsN p.free n).2.2 m).1
def idB (p : ProgQ) (n m : Nat) : List Int := (idN p.rows (slackB p n m) (realB p n m) m).1
def widthB (p : ProgQ) (n m : Nat) : Nat := (idN p.rows (slackB p n m) (realB p n m) m).2
def buildTab (p : ProgQ) (n m : Nat) : Tab := ⟨rowsN (varsN p.free n).1 (varsN p.free n).2.1 (slackB p n m) (idB p n m) (widthB p n m) n p.rows, p.rows.map bOfR, idB p n m, (varsN p.free n).1, (varsN p.free n).2.1, idB p n m⟩
def ApartS (S : Shape) : Prop := ∀ g n c, S.base = .slice (some ⟨g, 0, none⟩) n c → (∀ n c, S.plus ≠ .slice (some ⟨g, 0, none⟩) n c) ∧ (∀ n c, S.minus ≠ .slice (some ⟨g, 0, none⟩) n c) ∧ ∀ n c, S.id ≠ .slice (some ⟨g, 0, none⟩) n c
structure BuildOut (p : ProgQ) (n m : Nat) (PC : Array Value) (w w' : World) (gt : Nat) (S : Shape) (gs : List (Nat × Nat)) (H : Nat → Option (List Rat)) (I : Nat → Option (List Int)) : Prop where
 view : View w.heap.size H I w'
 tw : TabW w' gt S gs (turnN p.rows m)
 tv : TabV H I S gs (buildTab p n m)
 below : Below w.heap.size w w'
 prog : #[S.p0, S.p1, S.p2, S.p3] = PC
 real : S.real = realB p n m
 width : S.width = widthB p n m
 apart : ApartS S
def BuildPost (p : ProgQ) (n m : Nat) (PC : Array Value) (w : World) (e : Ending) (w' : World) : Prop := ∃ gt S gs H I, e = .returned (.pointer (some ⟨gt, 0, none⟩)) ∧ BuildOut p n m PC w w' gt S gs H I
theorem small_int {x : Int} (h1 : -1 ≤ x) (h2 : x ≤ 1) : Small (x : Rat) := by
 have := size_int x (by omega) (by omega)
 unfold Small
 omega
theorem small_set {l : List Rat} {i : Nat} {q : Rat} (h : ∀ x ∈ l, Small x) (hq : Small q) : ∀ x ∈ l.set i q, Small x := fun x hx => by
 rcases List.mem_or_eq_of_mem_set hx with h1 | h1
 ·exact h x h1
 ·rw [h1]; exact hq
theorem small_aOf {r : RowQ} (h : SmallR r) : ∀ q ∈ aOf r, Small q := by
 unfold aOf
 split
 ·intro q hq
  obtain ⟨q', hq', rfl⟩ := List.mem_map.1 hq
  exact small_neg (h.1 q' hq')
 ·exact h.1
theorem small_bOfR {r : RowQ} (h : SmallR r) : Small (bOfR r) := by
 unfold bOfR
 split
 ·exact small_neg h.2
 ·exact h.2
theorem small_getD {l : List Rat} (h : ∀ q ∈ l, Small q) (i : Nat) : Small (l.getD i 0) := by
 rw [gdd]
 cases hq : l[i]? with
 | none => exact small_q0
 | some q => exact h q (mog hq)
theorem small_fill {ps ms : List Int} {a : List Rat} {wd : Nat} (h : ∀ q ∈ a, Small q) : ∀ v, ∀ q ∈ fillN ps ms a wd v, Small q
 | 0 => fun q hq => by rw [fillN] at hq; rw [List.eq_of_mem_replicate hq]; exact small_q0
 | v + 1 => by
  rw [fillN]
  split
  ·exact small_set (small_set (small_fill h v) (small_getD h v)) (small_neg (small_getD h v))
  ·exact small_set (small_fill h v) (small_getD h v)
theorem small_rowD {ps ms sl il : List Int} {wd n i : Nat} {r : RowQ} (h : SmallR r) (h1 : -1 ≤ r.s) (h2 : r.s ≤ 1) : ∀ q ∈ rowD ps ms sl il wd n i r, Small q := by
 unfold rowD
 refine small_set ?_ small_one
 unfold rowS
 split
 ·refine small_set (small_fill (small_aOf h) n) ?_
  split
  ·exact small_int h1 h2
  ·exact small_int (by omega) (by omega)
 ·exact small_fill (small_aOf h) n
theorem build_post {w wr : World} {gp gt gs n m real rb wd : Nat} {A1 A2 A3 P0 M0 I0 T0 : Option Addr} {c1 c2 c3 pc mc ic tc : Nat} {vR vRt vB : Value} {gl : List (Nat × Nat)} {p : ProgQ} {ps ms sl il : List Int} (hvn : varsN p.free n = (ps, ms, real)) (hsn : slackN p.rows real m = (sl, rb)) (hin : idN p.rows sl rb m = (il, wd)) (hil : il.length = m) (hrl : p.rows.length = m) (hgl : gl.length = m) (hrs : ∀ r ∈ p.rows, SmallR r) (hss : ∀ r ∈ p.rows, -1 ≤ r.s ∧ r.s ≤ 1)
  (h : BS w gp gt #[.int .i64 (n : Int), .slice A1 n c1, .slice A2 n c2, .slice A3 m c3] #[.int .i64 (n : Int), .slice A1 n c1, .slice A2 n c2, .slice A3 m c3, vR, vRt, vB, .slice P0 n pc, .slice M0 n mc, .int .i64 ((rb : Nat) : Int), .int .i64 ((wd : Nat) : Int), .slice I0 m ic, .slice T0 m tc] ((.slice P0 n pc, .I ps) :: (.slice M0 n mc, .I ms) :: (.slice (some ⟨gs, 0, none⟩) m m, .I sl) :: (.slice T0 m tc, .B (turnN p.rows m)) :: (.slice I0 m ic, .I il) :: (vR, .R wd (gl)) :: (vRt, .F (p.rows.map bOfR)) :: (vB, .I (il)) :: entN wd gl (rowsN ps ms sl il wd n p.rows)) wr) : BuildPost p n m #[.int .i64 (n : Int), .slice A1 n c1, .slice A2 n c2, .slice A3 m c3] w (.returned (.pointer (some ⟨gt, 0, none⟩))) wr := by
 have hv1 : (varsN p.free n).1 = ps := by rw [hvn]
 have hv2 : (varsN p.free n).2.1 = ms := by rw [hvn]
 have hv3 : (varsN p.free n).2.2 = real := by rw [hvn]
 have hs1 : slackB p n m = sl := by unfold slackB; rw [hv3, hsn]
 have hs2 : realB p n m = rb := by unfold realB; rw [hv3, hsn]
 have hi1 : idB p n m = il := by unfold idB; rw [hs1, hs2, hin]
 have hi2 : widthB p n m = wd := by unfold widthB; rw [hs1, hs2, hin]
 have hrn : (rowsN ps ms sl il wd n p.rows).length = m := by unfold rowsN; rw [List.length_mapIdx, hrl]
 have hT : buildTab p n m = ⟨rowsN ps ms sl il wd n p.rows, p.rows.map bOfR, il, ps, ms, il⟩ := by unfold buildTab; rw [hv1, hv2, hs1, hi1, hi2]
 have hent : ∀ (i : Nat) (x : Nat × Nat) (q : List Rat), gl[i]? = some x → (rowsN ps ms sl il wd n p.rows)[i]? = some q → (entN wd gl (rowsN ps ms sl il wd n p.rows))[i]? = some (.slice (some ⟨x.1, 0, none⟩) wd x.2, .F q) := fun i x q hx hq => by
  unfold entN
  rw [List.getElem?_zipWith, hx, hq]
 have hq0 : ∀ (i : Nat) (x : Nat × Nat), gl[i]? = some x → ∃ q, (rowsN ps ms sl il wd n p.rows)[i]? = some q := fun i x hx => ⟨_, geq (by rw [hrn, ← hgl]; exact (List.getElem?_eq_some_iff.1 hx).1)⟩
 have hrow : ∀ (i : Nat) (q : List Rat), (rowsN ps ms sl il wd n p.rows)[i]? = some q → q.length = wd ∧ ∀ x ∈ q, Small x := fun i q hq => by
  unfold rowsN at hq
  rw [List.getElem?_mapIdx] at hq
  cases hr : p.rows[i]? with
  | none => rw [hr] at hq; cases hq
  | some r =>
   rw [hr] at hq
   obtain rfl : rowD ps ms sl il wd n i r = q := by simpa using hq
   have hm := mog hr
   exact ⟨rowD_len .., small_rowD (hrs r hm) (hss r hm).1 (hss r hm).2⟩
 have hsm : ∀ (i : Nat) (v : Value) (qs : List Rat), (((.slice P0 n pc, .I ps) :: (.slice M0 n mc, .I ms) :: (.slice (some ⟨gs, 0, none⟩) m m, .I sl) :: (.slice T0 m tc, .B (turnN p.rows m)) :: (.slice I0 m ic, .I il) :: (vR, .R wd (gl)) :: (vRt, .F (p.rows.map bOfR)) :: (vB, .I (il)) :: entN wd gl (rowsN ps ms sl il wd n p.rows)))[i]? = some (v, .F qs) → ∀ q ∈ qs, Small q := fun i v qs hi => by
  match i, hi with
  | 0, hi => cases (Prod.mk.inj (Option.some.inj hi)).2
  | 1, hi => cases (Prod.mk.inj (Option.some.inj hi)).2
  | 2, hi => cases (Prod.mk.inj (Option.some.inj hi)).2
  | 3, hi => cases (Prod.mk.inj (Option.some.inj hi)).2
  | 4, hi => cases (Prod.mk.inj (Option.some.inj hi)).2
  | 5, hi => cases (Prod.mk.inj (Option.some.inj hi)).2
  | 6, hi =>
   have e := (Prod.mk.inj (Option.some.inj hi)).2
   injection e with e
   intro q hq
   rw [← e] at hq
   obtain ⟨r, hr, rfl⟩ := List.mem_map.1 hq
   exact small_bOfR (hrs r hr)
  | 7, hi => cases (Prod.mk.inj (Option.some.inj hi)).2
  | k + 8, hi =>
   have hi' : (entN wd gl (rowsN ps ms sl il wd n p.rows))[k]? = some (v, .F qs) := hi
   unfold entN at hi'
   rw [List.getElem?_zipWith] at hi'
   cases hx : gl[k]? with
   | none => rw [hx] at hi'; simp at hi'
   | some x =>
    obtain ⟨q, hq⟩ := hq0 k x hx
    rw [hx, hq] at hi'
    have e := (Prod.mk.inj (Option.some.inj hi')).2
    injection e with e
    rw [← e]
    exact (hrow k q hq).2
 refine ⟨gt, ⟨.int .i64 (n : Int), .slice A1 n c1, .slice A2 n c2, .slice A3 m c3, vR, vRt, vB, .slice P0 n pc, .slice M0 n mc, rb, wd, .slice I0 m ic, .slice T0 m tc⟩, gl, bagH ((.slice P0 n pc, .I ps) :: (.slice M0 n mc, .I ms) :: (.slice (some ⟨gs, 0, none⟩) m m, .I sl) :: (.slice T0 m tc, .B (turnN p.rows m)) :: (.slice I0 m ic, .I il) :: (vR, .R wd (gl)) :: (vRt, .F (p.rows.map bOfR)) :: (vB, .I (il)) :: entN wd gl (rowsN ps ms sl il wd n p.rows)), bagN ((.slice P0 n pc, .I ps) :: (.slice M0 n mc, .I ms) :: (.slice (some ⟨gs, 0, none⟩) m m, .I sl) :: (.slice T0 m tc, .B (turnN p.rows m)) :: (.slice I0 m ic, .I il) :: (vR, .R wd (gl)) :: (vRt, .F (p.rows.map bOfR)) :: (vB, .I (il)) :: entN wd gl (rowsN ps ms sl il wd n p.rows)), rfl, h.bag.view hsm, ⟨h.t, h.bag.vrows (i := 5) rfl, h.bag.fro (i := 3) rfl⟩, ?_, h.below, rfl, hs2.symm, hi2.symm, fun g k c hb => ?_⟩
 ·rw [hT]
  refine ⟨by rw [hgl, hrn], fun i x q hx hq => ⟨h.bag.h_at (i := i + 8) (hent i x q hx hq) rfl, (hrow i q hq).1⟩, ?_, h.bag.vh (i := 6) rfl, by rw [hrn, lmp, hrl], h.bag.vi (i := 7) rfl, by rw [hrn, hil], h.bag.vi (i := 0) rfl, h.bag.vi (i := 1) rfl, h.bag.vi (i := 4) rfl, by rw [hrn, hil], fun g c k hb hm => ?_⟩
  ·rw [List.Nodup, List.pairwise_iff_getElem]
   intro i j hi hj hij e
   rw [List.getElem_map, List.getElem_map] at e
   rw [lmp] at hi hj
   obtain ⟨q, hq⟩ := hq0 i _ (geq hi)
   obtain ⟨q', hq'⟩ := hq0 j _ (geq hj)
   exact h.bag.apart (i + 8) (j + 8) _ _ _ _ gl[i].1 (by omega) (hent i _ q (geq hi) hq) (hent j _ q' (geq hj) hq') rfl (by rw [e]; rfl)
  ·obtain ⟨x, hx, rfl⟩ := List.mem_map.1 hm
   obtain ⟨i, hi⟩ := List.getElem?_of_mem hx
   obtain ⟨q, hq⟩ := hq0 i x hi
   have hb' : vRt = .slice (some ⟨x.1, 0, none⟩) k c := hb
   exact h.bag.apart (i + 8) 6 _ _ _ _ x.1 (by omega) (hent i x q hi hq) rfl rfl (by rw [hb']; rfl)
 ·have hb' : vB = .slice (some ⟨g, 0, none⟩) k c := hb
  refine ⟨fun k' c' e => ?_, fun k' c' e => ?_, fun k' c' e => ?_⟩
  ·exact h.bag.apart 7 0 _ _ _ _ g (by decide) rfl rfl (by rw [hb']; rfl) (by rw [show Value.slice P0 n pc = _ from e]; rfl)
  ·exact h.bag.apart 7 1 _ _ _ _ g (by decide) rfl rfl (by rw [hb']; rfl) (by rw [show Value.slice M0 n mc = _ from e]; rfl)
  ·exact h.bag.apart 7 4 _ _ _ _ g (by decide) rfl rfl (by rw [hb']; rfl) (by rw [show Value.slice I0 m ic = _ from e]; rfl)
open Go
section
variable {P : Program} {ops : Array Oper} {Q : Exit → Act → World → Prop} {md : Region.Mode} {S : World → Prop} {L : Nat}
theorem wpAnyF_weaken (L' : Nat) : ∀ (fuel : Nat) (listed : Array Bool) (a : Act) (w : World), wpAnyF P md ops Q S L fuel listed a w → wpAnyF P md ops Q (fun _ => True) L' fuel listed a w
 | 0, _, _, _, h => h
 | n + 1, _, _, _, h => ⟨h.1, fun i hi => wpOp_mono (fun a' w' hk => ⟨fun _ => trivial, wpAnyF_weaken L' n _ a' w' hk.2⟩) (h.2 i hi)⟩
theorem wp_fork0 {id : Nat} {a : Act} {w : World} {l : List Oper} (q : List Nat) (S : World → Prop) (L : Nat) (t : CU) (hm : P.follows .mixedOrders = true) (hs : Region.noSelect l.toArray = true)
  (hc0 : takesF .any l.toArray l.toArray.size q (Array.replicate l.toArray.size false) = true) (hc : forkOk .any l.toArray L t (marked q (Array.replicate l.toArray.size false)) = true)
  (hlen : q.length + (t.len + (l.toArray.size - L)) = l.toArray.size) (hS : S w.drew) (h : ∃ A, pureTo P l.toArray (fun _ => True) q a A ∧ forkF P l.toArray (NoPanic Q) S (l.drop L) t A w.drew) : (Code.region id l.toArray true).wp P Q a w := by
 obtain ⟨A, hp, hf⟩ := h
 have h1 := takesF_sound (md := .any) (S := fun _ => True) (L := l.toArray.size) (Q := NoPanic Q) (Region.noSelect_spec hs) (fun _ _ _ _ _ h => h) q (Array.replicate l.toArray.size false) a A w.drew (t.len + (l.toArray.size - L)) hc0 (Closed.start _) hp trivial
  (fun hcl => wpAnyF_weaken l.toArray.size _ _ _ _ (by
   have := fork_sound (md := .any) (L := L) (Region.noSelect_spec hs) (fun _ _ _ _ _ h => h) (l.drop L) (by simp) t _ A w.drew hc hcl hf hS 0
   rw [Nat.add_zero] at this
   exact this))
 rw [hlen] at h1
 exact wp_region_noPanic (wp_region_any hm (wpAny_of_F _ _ _ _ h1))
end
open Go
section
variable {P : Program} {ops : Array Oper} {Q : Exit → Act → World → Prop} {S : World → Prop}
theorem wp_chain_mono {o : Oper} {K K' : Act → World → Prop} {a : Act} {w : World} (hm : ∀ a w, K a w → K' a w) (h : o.wp P a w (wpList P ops (chainQ Q K) []) (chainQ Q K)) : o.wp P a w (wpList P ops (chainQ Q K') []) (chainQ Q K') := by
 unfold Oper.wp at *
 generalize (execOp a.eval o).run P w = r at *
 cases r with
 | ok n w' =>
  cases n <;> simp only [Oper.upon] at h ⊢ <;>
   first
    | exact hm _ _ h
    | exact Calls.mono h (fun e w'' he => by cases e <;> first | exact hm _ _ he | exact he)
    | exact Rows.mono h (fun _ _ he => hm _ _ he)
 | halt x w' => cases x <;> simp only [Oper.upon] at h ⊢ <;> exact h
theorem chain_list_mono {o : Oper} {K K' : Act → World → Prop} {a : Act} {w : World} (hm : ∀ a w, K a w → K' a w) (h : wpList P ops (chainQ Q K) [o] a w) : wpList P ops (chainQ Q K') [o] a w := by
 unfold wpList at h ⊢
 split at h
 ·rename_i hw
  rw [if_pos hw]
  rcases h with h | h
  ·exact .inl (wp_chain_mono hm h)
  ·exact .inr h
 ·rename_i hw
  rw [if_neg hw]
  exact hm _ _ h
def forkK (P : Program) (ops : Array Oper) (Q : Exit → Act → World → Prop) (S : World → Prop) (K : Act → World → Prop) : CU → Act → World → Prop
 | .fin p0, a, w => ∃ A, pureTo P ops S p0 a A ∧ K A w
 | .one p c t, a, w => ∃ A o, pureTo P ops S p a A ∧ ops[c]? = some o ∧ wpList P ops (chainQ Q fun a' w' => S w' ∧ forkK P ops Q S K t a' w') [o] A w
 | .two p c1 t1 c2 t2, a, w => ∃ A o1 o2, pureTo P ops S p a A ∧ ops[c1]? = some o1 ∧ ops[c2]? = some o2 ∧ wpList P ops (chainQ Q fun a' w' => S w' ∧ forkK P ops Q S K t1 a' w') [o1] A w ∧ wpList P ops (chainQ Q fun a' w' => S w' ∧ forkK P ops Q S K t2 a' w') [o2] A w
 | .three p c1 t1 c2 t2 c3 t3, a, w => ∃ A o1 o2 o3, pureTo P ops S p a A ∧ ops[c1]? = some o1 ∧ ops[c2]? = some o2 ∧ ops[c3]? = some o3 ∧ wpList P ops (chainQ Q fun a' w' => S w' ∧ forkK P ops Q S K t1 a' w') [o1] A w ∧ wpList P ops (chainQ Q fun a' w' => S w' ∧ forkK P ops Q S K t2 a' w') [o2] A w ∧ wpList P ops (chainQ Q fun a' w' => S w' ∧ forkK P ops Q S K t3 a' w') [o3] A w
theorem forkF_of_K {K : Act → World → Prop} {os : List Oper} (hk : ∀ a w, K a w → wpList P ops Q os a w) : ∀ (t : CU) (a : Act) (w : World), forkK P ops Q S K t a w → forkF P ops Q S os t a w
 | .fin p0, a, w, ⟨A, hp, h⟩ => ⟨A, hp, hk A w h⟩
 | .one p c t, a, w, ⟨A, o, hp, ho, h⟩ => ⟨A, o, hp, ho, chain_list_mono (fun a' w' hx => ⟨hx.1, forkF_of_K hk t a' w' hx.2⟩) h⟩
 | .two p c1 t1 c2 t2, a, w, ⟨A, o1, o2, hp, ho1, ho2, h1, h2⟩ => ⟨A, o1, o2, hp, ho1, ho2, chain_list_mono (fun a' w' hx => ⟨hx.1, forkF_of_K hk t1 a' w' hx.2⟩) h1, chain_list_mono (fun a' w' hx => ⟨hx.1, forkF_of_K hk t2 a' w' hx.2⟩) h2⟩
 | .three p c1 t1 c2 t2 c3 t3, a, w, ⟨A, o1, o2, o3, hp, ho1, ho2, ho3, h1, h2, h3⟩ => ⟨A, o1, o2, o3, hp, ho1, ho2, ho3, chain_list_mono (fun a' w' hx => ⟨hx.1, forkF_of_K hk t1 a' w' hx.2⟩) h1, chain_list_mono (fun a' w' hx => ⟨hx.1, forkF_of_K hk t2 a' w' hx.2⟩) h2, chain_list_mono (fun a' w' hx => ⟨hx.1, forkF_of_K hk t3 a' w' hx.2⟩) h3⟩
theorem fork_share3 {X : Type} (put : Act → X → Act) (Kx : X → World → Prop) {os : List Oper} {p : List Nat} {c1 c2 c3 : Nat} {t1 t2 t3 : CU} {a : Act} {w : World}
  (h : ∃ A, pureTo P ops S p a A ∧ (∀ x V, Kx x V → wpList P ops Q os (put A x) V) ∧ ∀ (O : Array Oper) (K : Act → World → Prop), (∀ c : Nat, O[c]? = ops[c]?) → (∀ x V, Kx x V → K (put A x) V) → ∃ o1 o2 o3, O[c1]? = some o1 ∧ O[c2]? = some o2 ∧ O[c3]? = some o3 ∧ wpList P O (chainQ Q fun a' w' => S w' ∧ forkK P O Q S K t1 a' w') [o1] A w ∧ wpList P O (chainQ Q fun a' w' => S w' ∧ forkK P O Q S K t2 a' w') [o2] A w ∧ wpList P O (chainQ Q fun a' w' => S w' ∧ forkK P O Q S K t3 a' w') [o3] A w) :
  forkF P ops Q S os (.three p c1 t1 c2 t2 c3 t3) a w := by
 obtain ⟨A, hp, hl, h⟩ := h
 obtain ⟨o1, o2, o3, ho1, ho2, ho3, h1, h2, h3⟩ := h ops (fun b V => ∃ x, b = put A x ∧ Kx x V) (fun _ => rfl) (fun x V hx => ⟨x, rfl, hx⟩)
 exact forkF_of_K (K := fun b V => ∃ x, b = put A x ∧ Kx x V) (fun b V ⟨x, e, hx⟩ => by rw [e]; exact hl x V hx) _ _ _ ⟨A, o1, o2, o3, hp, ho1, ho2, ho3, h1, h2, h3⟩
theorem fin_eq {K : Act → World → Prop} {a b : Act} {w : World} (h : K a w) (e : a = b) : K b w := e ▸ h
theorem forkK_fin {K : Act → World → Prop} {a : Act} {w : World} (h : K a w) : forkK P ops Q S K (.fin []) a w := ⟨a, rfl, h⟩
theorem forkK_one {K : Act → World → Prop} {a : Act} {w : World} {c : Nat} {t : CU} {o : Oper} (ho : ops[c]? = some o) (h : wpList P ops (chainQ Q fun a' w' => S w' ∧ forkK P ops Q S K t a' w') [o] a w) : forkK P ops Q S K (.one [] c t) a w := ⟨a, o, rfl, ho, h⟩
theorem forkK_two {K : Act → World → Prop} {a : Act} {w : World} {c1 c2 : Nat} {t1 t2 : CU} {o1 o2 : Oper} (ho1 : ops[c1]? = some o1) (ho2 : ops[c2]? = some o2) (h1 : wpList P ops (chainQ Q fun a' w' => S w' ∧ forkK P ops Q S K t1 a' w') [o1] a w) (h2 : wpList P ops (chainQ Q fun a' w' => S w' ∧ forkK P ops Q S K t2 a' w') [o2] a w) : forkK P ops Q S K (.two [] c1 t1 c2 t2) a w := ⟨a, o1, o2, rfl, ho1, ho2, h1, h2⟩
theorem forkK_three {K : Act → World → Prop} {a : Act} {w : World} {c1 c2 c3 : Nat} {t1 t2 t3 : CU} {o1 o2 o3 : Oper} (ho1 : ops[c1]? = some o1) (ho2 : ops[c2]? = some o2) (ho3 : ops[c3]? = some o3) (h1 : wpList P ops (chainQ Q fun a' w' => S w' ∧ forkK P ops Q S K t1 a' w') [o1] a w) (h2 : wpList P ops (chainQ Q fun a' w' => S w' ∧ forkK P ops Q S K t2 a' w') [o2] a w) (h3 : wpList P ops (chainQ Q fun a' w' => S w' ∧ forkK P ops Q S K t3 a' w') [o3] a w) : forkK P ops Q S K (.three [] c1 t1 c2 t2 c3 t3) a w := ⟨a, o1, o2, o3, rfl, ho1, ho2, ho3, h1, h2, h3⟩
end
open Go
def forceL : List Bool → (List Bool → Bool) → Bool
 | [], k => k []
 | true :: l, k => forceL l fun r => k (true :: r)
 | false :: l, k => forceL l fun r => k (false :: r)
theorem forceL_eq : ∀ (l : List Bool) (k : List Bool → Bool), forceL l k = k l
 | [], _ => rfl
 | true :: l, k => by rw [forceL, forceL_eq l]
 | false :: l, k => by rw [forceL, forceL_eq l]
def forceA (a : Array Bool) (k : Array Bool → Bool) : Bool := forceL a.toList fun l => k ⟨l⟩
theorem forceA_eq (a : Array Bool) (k : Array Bool → Bool) : forceA a k = k a := by rw [forceA, forceL_eq]
def takesC (md : Region.Mode) (ops : Array Oper) (L : Nat) : List Nat → Array Bool → (Array Bool → Bool) → Bool
 | [], listed, k => k listed
 | i :: p, listed, k => Region.free md ops listed i && (Region.ready md ops listed).contains i && waitsF md ops L i && forceA (listed.setIfInBounds i true) fun l => takesC md ops L p l k
theorem takesC_eq {md : Region.Mode} {ops : Array Oper} {L : Nat} : ∀ (p : List Nat) (listed : Array Bool) (k : Array Bool → Bool), takesC md ops L p listed k = (takesF md ops L p listed && k (marked p listed))
 | [], listed, k => by simp [takesC, takesF, marked]
 | i :: p, listed, k => by
  rw [takesC, takesF, forceA_eq, takesC_eq p, Bool.and_assoc]
  simp [marked, Bool.and_assoc]
def freeC (md : Region.Mode) (ops : Array Oper) : Nat → Nat → Array Bool → Bool
 | 0, _, listed => (Region.ready md ops listed).isEmpty
 | k + 1, L, listed => (Region.ready md ops listed == [L]) && forceA (listed.setIfInBounds L true) fun l => freeC md ops k (L + 1) l
theorem freeC_eq {md : Region.Mode} {ops : Array Oper} : ∀ (k L : Nat) (listed : Array Bool), freeC md ops k L listed = freeF md ops k L listed
 | 0, _, _ => rfl
 | k + 1, L, listed => by rw [freeC, freeF, forceA_eq, freeC_eq k]
def forkC (md : Region.Mode) (ops : Array Oper) (L : Nat) : CU → Array Bool → Bool
 | .fin p0, listed => takesC md ops L p0 listed fun l => freeC md ops (ops.size - L) L l
 | .one p c t, listed => takesC md ops L p listed fun l => (Region.ready md ops l == [c]) && forceA (l.setIfInBounds c true) (forkC md ops L t)
 | .two p c1 t1 c2 t2, listed => takesC md ops L p listed fun l => (Region.ready md ops l == [c1, c2]) && forceA (l.setIfInBounds c1 true) (forkC md ops L t1) && forceA (l.setIfInBounds c2 true) (forkC md ops L t2) && (t1.len == t2.len)
 | .three p c1 t1 c2 t2 c3 t3, listed => takesC md ops L p listed fun l => (Region.ready md ops l == [c1, c2, c3]) && forceA (l.setIfInBounds c1 true) (forkC md ops L t1) && forceA (l.setIfInBounds c2 true) (forkC md ops L t2) && forceA (l.setIfInBounds c3 true) (forkC md ops L t3) && (t1.len == t2.len) && (t1.len == t3.len)
theorem forkC_eq {md : Region.Mode} {ops : Array Oper} {L : Nat} : ∀ (t : CU) (listed : Array Bool), forkC md ops L t listed = forkOk md ops L t listed
 | .fin p0, listed => by rw [forkC, forkOk, takesC_eq, freeC_eq]
 | .one p c t, listed => by rw [forkC, forkOk, takesC_eq, forceA_eq, forkC_eq t, Bool.and_assoc]
 | .two p c1 t1 c2 t2, listed => by
  rw [forkC, forkOk, takesC_eq, forceA_eq, forceA_eq, forkC_eq t1, forkC_eq t2]
  simp only [Bool.and_assoc]
 | .three p c1 t1 c2 t2 c3 t3, listed => by
  rw [forkC, forkOk, takesC_eq, forceA_eq, forceA_eq, forceA_eq, forkC_eq t1, forkC_eq t2, forkC_eq t3]
  simp only [Bool.and_assoc]
theorem forkOk_of {md : Region.Mode} {ops : Array Oper} {L : Nat} {t : CU} {listed : Array Bool} (h : forceA listed (forkC md ops L t) = true) : forkOk md ops L t listed = true := by
 rw [forceA_eq, forkC_eq] at h
 exact h
end Go.Proofs.Ytfhambfgjigneaa

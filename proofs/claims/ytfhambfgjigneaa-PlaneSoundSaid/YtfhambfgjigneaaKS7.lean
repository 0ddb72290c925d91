/- Contracts of Go functions that the statement reaches, proved by walking their text, and plain laws over them (texts put together). -/
import Derived.Test.YtfhambfgjigneaaKS6
import Derived.Test.YtfhambfgjigneaaKS5
set_option linter.unusedVariables false
set_option linter.unusedSimpArgs false
set_option maxHeartbeats 64000000
set_option maxRecDepth 100000
namespace Go.Proofs.Ytfhambfgjigneaa
open Go.RowKit
theorem small_q0 : Small 0 := by unfold Small sizeQ; decide +kernel
theorem getD_set_ne {l : List Rat} {i j : Nat} {q : Rat} (h : i ≠ j) : (l.set i q)[j]? = l[j]? := by rw [List.getElem?_set_ne h]
def colN (n : Nat) (base : List Int) (f : Nat → Rat) : Nat → List Rat
 | 0 => List.replicate n 0
 | i + 1 => (colN n base f i).set (base.getD i 0).toNat (f i)
theorem colN_length (n : Nat) (base : List Int) (f : Nat → Rat) : ∀ i, (colN n base f i).length = n
 | 0 => List.length_replicate ..
 | i + 1 => by rw [colN, List.length_set, colN_length n base f i]
theorem colN_small (n : Nat) (base : List Int) (f : Nat → Rat) (h : ∀ i, Small (f i)) : ∀ i, ∀ q ∈ colN n base f i, Small q
 | 0, q, hq => by rw [List.eq_of_mem_replicate hq]; exact small_q0
 | i + 1, q, hq => by
  rw [colN] at hq
  rcases List.mem_or_eq_of_mem_set hq with h1 | h1
  ·exact colN_small n base f h i q h1
  ·rw [h1]; exact h i
theorem col_put {qs : List Rat} {q : Rat} {i : Nat} : ∀ (j : Nat) (x : Rat), (qs.set i q)[j]? = some x → (j = i ∧ x = q) ∨ (j ≠ i ∧ qs[j]? = some x) := fun j x hj => by
 by_cases h : i = j
 ·subst h
  have hl := (List.getElem?_eq_some_iff.1 hj).1
  rw [List.length_set] at hl
  rw [List.getElem?_set_self hl] at hj
  exact .inl ⟨rfl, (Option.some.inj hj).symm⟩
 ·rw [List.getElem?_set_ne h] at hj
  exact .inr ⟨fun e => h e.symm, hj⟩
def FxPost (w : World) (q : Rat) (e : Ending) (w' : World) : Prop := ∃ A1 n1 c1 A2 n2 c2, e = .returned (.agg #[.bool (negQ q), .slice A1 n1 c1, .slice A2 n2 c2]) ∧ FQ w' (.agg #[.bool (negQ q), .slice A1 n1 c1, .slice A2 n2 c2]) q ∧ Below w.heap.size w w'
theorem sq7 (P : Prop) (h : P := by
 have HTV := Hd hV
 have HFS := Hd hf
 have HOF := Hd hof
 have HBB := Hd hb
 obtain ⟨p0, p1, p2, p3, vRows, vRight, vBase, vPlus, vMinus, real, width, vId, vTurned⟩ := S
 obtain ⟨Ab, cb, eb⟩ := hV.base.slice
 obtain rfl : vBase = _ := eb
 have HT := Hd hT
 have HBS : Hid (Blk w gt 121 #[p0, p1, p2, p3, vRows, vRight, .slice Ab T.base.length cb, vPlus, vMinus, .int .i64 (real : Int), .int .i64 (width : Int), vId, vTurned]) := hT.1
 clear hv hT hV hf hof hb
 obtain ⟨x0, x4, x5, x6, x7, x8, x9, x10, x11, x12⟩ := HBS.out.c13
 have hlt := HBS.out.lt
 have hmk := run_make3 23 40 _ Try.underlying23 info40m width (by show width ≤ _; have : width ≤ 1000000 := hll; omega)
 have hll' : width ≤ 1000000 := hll
 clear hll
 go_enter Try.func109, Try.ntmps109
 go_wp2_with fail
 have HP0 := Hd (RowP.made w width)
 have HB0 := Hd (below_new w (.cells (madeCells #[.bool false, .slice none 0 0, .slice none 0 0] (width * 3)) 40))
 clear hmk x0 x4 x5 x6 x7 x8 x9 x10 x11 x12 hlt
 generalize w.alloc (.cells (madeCells #[.bool false, .slice none 0 0, .slice none 0 0] (width * 3)) 40) = W0 at *
 obtain ⟨go, hgo⟩ : ∃ g, g = w.heap.size := ⟨_, rfl⟩
 rw [← hgo] at HP0 ⊢
 have HGO : Hid (w.heap.size ≤ go) := by unfold Hid; omega
 clear hgo
 go_loopw [16] (fun vi wr => ∃ i : Nat, i ≤ width ∧ vi = .int .i64 (i : Int) ∧ RowP wr go width (List.replicate i 0) ∧ Below w.heap.size w wr) (fun vi _ => width - (intOf vi).toNat)
 case atStart => exact ⟨0, Nat.zero_le _, rfl, HP0.out, HB0.out⟩
 case round =>
  obtain ⟨i, hi, rfl, hrp, hbl⟩ := hrel
  have HRP := Hd hrp
  have HBr := Hd hbl
  clear hrp hbl HP0 HB0
  by_cases hlt : i < width
  ·have m1 : (i : Int) < (width : Int) := by omega
   have m3 : (i : Int).toNat = i := by omega
   have m4 : (0 : Int) ≤ (i : Int) := by omega
   go_wp2_with fail
   refine (number_calls _ 0 (by decide) (by decide)).mono ?_
   rintro e w2 ⟨v, rfl, hv, hb⟩
   obtain ⟨D7, n9, c9, D8, n10, c10, rfl, HF6⟩ := hv.opened
   have D6 := Hd hb
   have HR6 := Hd (HRP.out.below D6.out)
   have HB6 := Hd (below_next HBr.out D6.out)
   clear hv hb
   obtain ⟨o0, o1, o2, z0, z1, z2⟩ := HR6.out.cells hlt
   have f0 := HR6.out.free (i * 3)
   have f1 := HR6.out.free (i * 3 + 1)
   have f2 := HR6.out.free (i * 3 + 2)
   have hgol := HR6.out.lt
   go_wp2_with fail
   have hst := HR6.out.put (q := ((0 : Int) : Rat)) (qs' := List.replicate i 0 ++ [((0 : Int) : Rat)]) hlt HF6.out (by simp [notWord]) (put_last' (List.length_replicate ..))
   have hb7 := below_put3' HB6.out HGO.out (i * 3) (.bool (negQ ((0 : Int) : Rat))) (.slice D7 n9 c9) (.slice D8 n10 c10)
   go_roundw
   case rel => exact ⟨i + 1, by omega, by go_num, by rw [List.replicate_succ']; exact hst.1, hb7⟩
   case measure => simp [intOf]; omega
  ·obtain rfl : i = width := by omega
   obtain ⟨x0, x4, x5, x6, x7, x8, x9, x10, x11, x12⟩ := (HBS.out.below HBr.out HBS.out.lt).c13
   have hltt := (HBS.out.below HBr.out HBS.out.lt).lt
   go_wp2_with fail
   clear x0 x4 x5 x6 x7 x8 x9 x10 x11 x12 hltt
   go_loopw [29] (fun vi wr2 => ∃ j : Nat, j ≤ T.base.length ∧ vi = .int .i64 (j : Int) ∧ RowP wr2 go i (colN i T.base f j) ∧ Below w.heap.size w wr2) (fun vi _ => T.base.length - (intOf vi).toNat)
   case atStart => exact ⟨0, Nat.zero_le _, rfl, HRP.out, HBr.out⟩
   case round =>
    obtain ⟨j, hj, rfl, hrp, hbl⟩ := hrel
    have HR1 := Hd hrp
    have HB1 := Hd hbl
    clear hrp hbl HRP HBr
    by_cases hlj : j < T.base.length
    ·obtain ⟨b, hb⟩ : ∃ x, T.base[j]? = some x := ⟨T.base[j], List.getElem?_eq_getElem hlj⟩
     have hbr := HBB.out b (List.mem_of_getElem? hb)
     obtain ⟨n, rfl⟩ : ∃ n : Nat, b = n := ⟨b.toNat, by omega⟩
     obtain ⟨gb, rfl, hgb⟩ := HTV.out.base.at_ (by omega)
     have HBD : Hid (T.base.getD j 0 = (n : Int)) := by unfold Hid; rw [List.getD_eq_getElem?_getD, hb]; rfl
     have HV1 := Hd (HV.out.below HB1.out)
     obtain ⟨k0, hgbl, _⟩ := HV1.out.iat hgb hb
     have m1 : (j : Int) < (T.base.length : Int) := by omega
     have m3 : (j : Int).toNat = j := by omega
     have m4 : (0 : Int) ≤ (j : Int) := by omega
     have m5 : (n : Int).toNat = n := by omega
     have m6 : (0 : Int) ≤ (n : Int) := by omega
     have m7 : (n : Int) < (i : Int) := hbr.2
     have hn : n < i := by omega
     clear hb hgb hbr
     go_wp2_with fail
     refine (HOF.out _ j HB1.out hlj).mono ?_
     rintro e w2 ⟨D7, n9, c9, D8, n10, c10, rfl, hF, hb⟩
     have HF6 := Hd hF
     have D6 := Hd hb
     have HR6 := Hd (HR1.out.below D6.out)
     have HB6 := Hd (below_next HB1.out D6.out)
     clear hF hb k0 hgbl
     obtain ⟨o0, o1, o2, z0, z1, z2⟩ := HR6.out.cells hn
     have f0 := HR6.out.free (n * 3)
     have f1 := HR6.out.free (n * 3 + 1)
     have f2 := HR6.out.free (n * 3 + 2)
     have hgol := HR6.out.lt
     go_wp2_with fail
     have hst := HR6.out.put (q := f j) (qs' := (colN i T.base f j).set n (f j)) hn HF6.out (by simp [notWord]) col_put
     have hb7 := below_put3' HB6.out HGO.out (n * 3) (.bool (negQ (f j))) (.slice D7 n9 c9) (.slice D8 n10 c10)
     go_roundw
     case rel => exact ⟨j + 1, by omega, by go_num, by rw [colN, HBD.out, Int.toNat_natCast]; exact hst.1, hb7⟩
     case measure => simp [intOf]; omega
    ·obtain rfl : j = T.base.length := by omega
     go_wp2_with fail
     go_ret
     exact ⟨go, _, by rw [colN_length]; rfl, HGO.out, HR1.out.lt, (HV.out.below HB1.out).add HR1.out.v (Nat.le_trans HV.out.size HGO.out) (colN_small _ _ _ HFS.out _), HB1.out⟩) : P := h
theorem columns_x (base : Nat) (H : Nat → Option (List Rat)) (I : Nat → Option (List Int)) (w : World) (gt : Nat) (S : Shape) (gs : List (Nat × Nat)) (tn : List Bool) (T : Tab) (f : Nat → Rat) (gb0 : Nat) (hv : View base H I w) (hT : TabW w gt S gs tn) (hV : TabV H I S gs T) (hf : ∀ i, Small (f i)) (hof : ∀ (W : World) (i : Nat), Below w.heap.size w W → i < T.base.length → Calls Try.prog 110 #[.int .i64 (i : Int), .pointer (some ⟨gb0, 0, none⟩)] W fun e w' => FxPost W (f i) e w') (hb : ∀ b ∈ T.base, 0 ≤ b ∧ b < (S.width : Int)) (hll : S.width ≤ 1000000) (hml : T.base.length ≤ 1000000) (hp : 0 < S.width) :
  Calls Try.prog 109 #[.pointer (some ⟨gt, 0, none⟩), .func (.func 110) #[] #[.pointer (some ⟨gb0, 0, none⟩)]] w fun e w' => RedPost base H I (colN S.width T.base f T.base.length) w e w' := by
 have HV := Hd hv
 exact sq7 _
theorem columns_r (base : Nat) (H : Nat → Option (List Rat)) (I : Nat → Option (List Int)) (w : World) (gt : Nat) (S : Shape) (gs : List (Nat × Nat)) (tn : List Bool) (T : Tab) (f : Nat → Rat) (gb0 gb1 : Nat) (hv : View base H I w) (hT : TabW w gt S gs tn) (hV : TabV H I S gs T) (hf : ∀ i, Small (f i)) (hof : ∀ (W : World) (i : Nat), Below w.heap.size w W → i < T.base.length → Calls Try.prog 111 #[.int .i64 (i : Int), .pointer (some ⟨gb0, 0, none⟩), .pointer (some ⟨gb1, 0, none⟩)] W fun e w' => FxPost W (f i) e w') (hb : ∀ b ∈ T.base, 0 ≤ b ∧ b < (S.width : Int)) (hll : S.width ≤ 1000000) (hml : T.base.length ≤ 1000000) (hp : 0 < S.width) :
  Calls Try.prog 109 #[.pointer (some ⟨gt, 0, none⟩), .func (.func 111) #[] #[.pointer (some ⟨gb0, 0, none⟩), .pointer (some ⟨gb1, 0, none⟩)]] w fun e w' => RedPost base H I (colN S.width T.base f T.base.length) w e w' := by
 have HV := Hd hv
 exact sq7 _
theorem clo_right (base : Nat) (H : Nat → Option (List Rat)) (I : Nat → Option (List Int)) (w : World) (gt gb : Nat) (S : Shape) (gs : List (Nat × Nat)) (tn : List Bool) (T : Tab) (i : Nat) (hv : View base H I w) (hT : TabW w gt S gs tn) (hV : TabV H I S gs T) (hg : Blk w gb 117 #[.pointer (some ⟨gt, 0, none⟩)]) (hi : i < T.right.length) (hm : T.right.length ≤ 1000000) :
  Calls Try.prog 110 #[.int .i64 (i : Int), .pointer (some ⟨gb, 0, none⟩)] w fun e w' => FxPost w (T.right.getD i 0) e w' := by
 have HV := Hd hv
 have HTV := Hd hV
 obtain ⟨p0, p1, p2, p3, vRows, vRight, vBase, vPlus, vMinus, real, width, vId, vTurned⟩ := S
 obtain ⟨Ar, cr, er⟩ := hV.right.slice
 obtain rfl : vRight = _ := er
 obtain ⟨gr, rfl, hgr⟩ := hV.right.at_ (by omega)
 have HBS : Hid (Blk w gt 121 #[p0, p1, p2, p3, vRows, .slice (some ⟨gr, 0, none⟩) T.right.length cr, vBase, vPlus, vMinus, .int .i64 (real : Int), .int .i64 (width : Int), vId, vTurned]) := hT.1
 obtain ⟨q, hq⟩ : ∃ x, T.right[i]? = some x := ⟨T.right[i], List.getElem?_eq_getElem hi⟩
 have HQD : Hid (T.right.getD i 0 = q) := getD_at hq
 have HK := Hd hg
 obtain ⟨A1, n1, c1, A2, n2, c2, q0, q1, q2, HFQ⟩ := hv.at_ hgr hq
 have hgl := hv.lt hgr
 have hb0 : w.cell? ⟨gb, 0, none⟩ = some (.pointer (some ⟨gt, 0, none⟩)) := hg.cell rfl
 have hbl := hg.lt
 obtain ⟨x0, x4, x5, x6, x7, x8, x9, x10, x11, x12⟩ := HBS.out.c13
 have hlt := HBS.out.lt
 have m1 : (i : Int) < (T.right.length : Int) := by omega
 have m3 : (i : Int).toNat = i := by omega
 have m4 : (0 : Int) ≤ (i : Int) := by omega
 rw [HQD.out]
 clear hv hT hV hg hq hgr hi
 go_enter Try.func110, Try.ntmps110
 go_wp2_with fail
 exact ret40 Try.results110 rfl (Blk.new w 40 #[.bool (negQ q), .slice A1 n1 c1, .slice A2 n2 c2]) ⟨A1, n1, c1, A2, n2, c2, rfl, HFQ.out.of_below (below_new _ _), below_new _ _⟩
theorem clo_ray (base : Nat) (H : Nat → Option (List Rat)) (I : Nat → Option (List Int)) (w : World) (gt gb gc : Nat) (S : Shape) (gs : List (Nat × Nat)) (tn : List Bool) (T : Tab) (i col : Nat) (hv : View base H I w) (hT : TabW w gt S gs tn) (hV : TabV H I S gs T) (hg : Blk w gb 117 #[.pointer (some ⟨gt, 0, none⟩)]) (hc : w.cell? ⟨gc, 0, none⟩ = some (.int .i64 (col : Int))) (hcl : gc < w.heap.size) (hi : i < T.rows.length) (hm : T.rows.length ≤ 1000000) (hcol : col < S.width) (hw : S.width ≤ 1000000) :
  Calls Try.prog 111 #[.int .i64 (i : Int), .pointer (some ⟨gb, 0, none⟩), .pointer (some ⟨gc, 0, none⟩)] w fun e w' => FxPost w (-((T.rows.getD i []).getD col 0)) e w' := by
 have HV := Hd hv
 have HTV := Hd hV
 obtain ⟨p0, p1, p2, p3, vRows, vRight, vBase, vPlus, vMinus, real, width, vId, vTurned⟩ := S
 obtain ⟨Ar, cr, er⟩ := hT.2.1.slice
 obtain rfl : vRows = _ := er
 obtain ⟨pg, hpg⟩ : ∃ p, gs[i]? = some p := ⟨gs[i]'(by rw [hV.len]; exact hi), List.getElem?_eq_getElem _⟩
 obtain ⟨row, hrow⟩ : ∃ r, T.rows[i]? = some r := ⟨T.rows[i], List.getElem?_eq_getElem hi⟩
 obtain ⟨hgq, hrl⟩ := hV.row i pg row hpg hrow
 obtain ⟨gR, rfl, hgRl, hgRc⟩ := hT.2.1.at_ hpg
 obtain ⟨gi, ci⟩ := pg
 have HBS : Hid (Blk w gt 121 #[p0, p1, p2, p3, .slice (some ⟨gR, 0, none⟩) gs.length cr, vRight, vBase, vPlus, vMinus, .int .i64 (real : Int), .int .i64 (width : Int), vId, vTurned]) := hT.1
 have hrl' : row.length = width := hrl
 have hcol' : col < width := hcol
 have hw' : width ≤ 1000000 := hw
 obtain ⟨q, hq⟩ : ∃ x, row[col]? = some x := ⟨row[col]'(by omega), List.getElem?_eq_getElem _⟩
 have HQD : Hid ((T.rows.getD i []).getD col 0 = q) := by
  unfold Hid
  rw [show T.rows.getD i [] = row by rw [List.getD_eq_getElem?_getD, hrow]; rfl]
  exact getD_at hq
 obtain ⟨A1, n1, c1, A2, n2, c2, q0, q1, q2, HFQ⟩ := hv.at_ hgq hq
 have HSQ : Hid (Small q) := hv.small hgq hq
 have hgl := hv.lt hgq
 have hb0 : w.cell? ⟨gb, 0, none⟩ = some (.pointer (some ⟨gt, 0, none⟩)) := hg.cell rfl
 have hbl := hg.lt
 have hc0 := hc
 obtain ⟨x0, x4, x5, x6, x7, x8, x9, x10, x11, x12⟩ := HBS.out.c13
 have hlt := HBS.out.lt
 have m1 : (i : Int) < (gs.length : Int) := by rw [hV.len]; omega
 have m2 : (col : Int) < (width : Int) := by omega
 have m3 : (i : Int).toNat = i := by omega
 have m4 : (0 : Int) ≤ (i : Int) := by omega
 have m5 : (col : Int).toNat = col := by omega
 have m6 : (0 : Int) ≤ (col : Int) := by omega
 rw [HQD.out]
 clear hv hT hV hg hc hq hgq hrow hpg hi hrl hrl' hcol hw hcol'
 go_enter Try.func111, Try.ntmps111
 go_wp2_with fail
 have HB0 := Hd (below_new w (.cells #[.bool false, .slice none 0 0, .slice none 0 0] 40))
 have HK0 := Hd (Blk.new w 40 #[.bool false, .slice none 0 0, .slice none 0 0])
 obtain ⟨go, hgo⟩ : ∃ g, g = w.heap.size := ⟨_, rfl⟩
 rw [← hgo] at HK0 ⊢
 have HGO : Hid (w.heap.size ≤ go) := by unfold Hid; omega
 clear hgo
 have hcW := (bcell HB0.out).1
 rw [← hcW _ _ hbl] at hb0
 rw [← hcW _ _ hcl] at hc0
 rw [← hcW _ _ hgl] at q0 q1 q2
 rw [← hcW _ _ hgRl] at hgRc
 rw [← hcW _ _ hlt] at x4
 have hbl := Nat.lt_of_lt_of_le hbl HB0.out.size
 have hcl := Nat.lt_of_lt_of_le hcl HB0.out.size
 have hgl := Nat.lt_of_lt_of_le hgl HB0.out.size
 have hgRl := Nat.lt_of_lt_of_le hgRl HB0.out.size
 have hlt := Nat.lt_of_lt_of_le hlt HB0.out.size
 have HFQ0 := Hd (HFQ.out.of_below HB0.out)
 clear x0 x5 x6 x7 x8 x9 x10 x11 x12 hcW
 generalize w.alloc (.cells #[.bool false, .slice none 0 0, .slice none 0 0] 40) = W0 at *
 go_wp2_with fail
 refine wp_chainF (l := [_, _, _, _, _, _, _, _, _, _, _, _]) (S := Below W0.heap.size W0) 11 [([0, 1, 2, 3, 4, 5, 6, 7, 8, 9], 10)] [] (by kernel_rfl) (by kernel_rfl) (by kernel_rfl) rfl (Below.drew (Below.refl _ _)) ?_
 refine ⟨?_, _, ?_, rfl, ?_⟩
 rotate_left
 ·(iterate 10 ((refine pu ?_); (try simp only [SQ])))
  exact rfl
 have D0 : Hid (Below W0.heap.size W0 W0.drew) := Below.drew (Below.refl _ _)
 go_wp2_with fail
 refine (fneg_calls _ _ (rawQ q) (FR.of_fq (HFQ0.out.of_below D0.out) HSQ.out)).mono ?_
 rintro e w6 ⟨v, rfl, hv, hb⟩
 rw [fixQ_raw _ HSQ.out] at hv
 obtain ⟨D7, n9, c9, D8, n10, c10, rfl, HF6⟩ := hv.opened
 have D6 := Hd (below_next D0.out hb)
 have HK6 := Hd (HK0.out.below D6.out HK0.out.lt)
 clear hv hb
 go_wp2_with fail
 refine And.intro D6.out ⟨_, rfl, ?_⟩
 obtain ⟨z0, z1, z2⟩ := (show Blk w6 go 40 #[.bool false, .slice none 0 0, .slice none 0 0] from HK6.out).c3
 obtain ⟨f0, f1, f2⟩ := (show Blk w6 go 40 #[.bool false, .slice none 0 0, .slice none 0 0] from HK6.out).f3
 have hgol := HK6.out.lt
 clear q0 q1 q2 hb0 hc0 hgRc x4 hbl hcl hgl hgRl hlt
 go_wp2_with fail
 refine NoPanic.normal ?_
 go_wp2_with fail
 have HB6 := below_next HB0.out D6.out
 have hb2 := below_put3' HB6 HGO.out 0 (.bool (negQ (-q))) (.slice D7 n9 c9) (.slice D8 n10 c10)
 exact ret40 Try.results111 rfl (HK6.out.put3 _ _ _) ⟨D7, n9, c9, D8, n10, c10, rfl, HF6.out.keeps (put3_only (o := 0) HK6.out (by intro u hu; simp at hu; rcases hu with rfl | rfl <;> rfl)).1, hb2⟩
def varsN (fr : List Bool) : Nat → List Int × List Int × Nat
 | 0 => ([], [], 0)
 | i + 1 => ((varsN fr i).1 ++ [((varsN fr i).2.2 : Int)], (varsN fr i).2.1 ++ [if fr.getD i false = true then (((varsN fr i).2.2 + 1 : Nat) : Int) else -1], (varsN fr i).2.2 + if fr.getD i false = true then 2 else 1)
theorem varsN_len1 (fr : List Bool) : ∀ i, (varsN fr i).1.length = i
 | 0 => rfl
 | i + 1 => by rw [varsN, List.length_append, varsN_len1 fr i]; rfl
theorem varsN_len2 (fr : List Bool) : ∀ i, (varsN fr i).2.1.length = i
 | 0 => rfl
 | i + 1 => by rw [varsN, List.length_append, varsN_len2 fr i]; rfl
theorem varsN_real (fr : List Bool) : ∀ i, (varsN fr i).2.2 ≤ 2 * i
 | 0 => Nat.le_refl _
 | i + 1 => by
  have := varsN_real fr i
  show (varsN fr i).2.2 + (if fr.getD i false = true then 2 else 1) ≤ _
  split <;> omega
theorem run_makeI (n : Nat) (hn : n ≤ 1000000000000) (w : World) :
  Sem.run Try.prog (Instr.makeSlice 27 (.int .i64 (n : Int)) (.int .i64 (n : Int))) w = .ok (.slice (some ⟨w.heap.size, 0, none⟩) n n) (w.alloc (.cells (madeCells #[.int .i64 0] n) 3)) := by
 obtain ⟨i, hi, hzz⟩ := Option.map_eq_some_iff.1 infoI
 simp only [Prod.mk.injEq] at hzz
 obtain ⟨hz, hsz, hby⟩ := hzz
 have := run_make (P := Try.prog) w 27 3 i _ Try.underlying27 hi hz .i64 .i64 (n : Int) (n : Int) (by omega) (Int.le_refl _) (by rw [hby]; omega) (by omega)
 rw [hsz, Int.toNat_natCast, Nat.mul_one] at this
 exact this
theorem madeI_list (n : Nat) : (madeCells #[Value.int .i64 0] n).toList = List.replicate n (Value.int .i64 0) := by
 apply List.ext_getElem
 ·simp [size_madeCells]
 ·intro i h1 h2
  simp only [madeCells, Array.getElem_toList, Array.getElem_map, Array.getElem_range, List.getElem_replicate]
  rw [show i % (#[Value.int .i64 0] : Array Value).size = 0 from Nat.mod_one i]
  rfl
theorem madeI_ok (base : Nat) (w : World) (n : Nat) (hb : base ≤ w.heap.size) (hn : n ≤ 1000000000000) : (Cont.I (List.replicate n 0)).ok base (w.alloc (.cells (madeCells #[.int .i64 0] n) 3)) (.slice (some ⟨w.heap.size, 0, none⟩) n n) := by
 have hl := madeI_list n
 refine ⟨List.replicate n (.int .i64 0), ⟨by simp, .inr ⟨w.heap.size, n, _, by rw [List.length_replicate], hb, Blk.new w 3 _, by rw [List.length_replicate]; exact Nat.le_refl _, by unfold maxLen; omega, by simp [size_madeCells], ?_, ?_⟩⟩, fun j a hj => ?_⟩
 ·rw [hl, List.length_replicate, Nat.mul_one, List.take_of_length_le (by simp)]
 ·intro u hu
  rw [← Array.mem_toList_iff, hl] at hu
  rw [List.eq_of_mem_replicate hu]
  rfl
 ·obtain ⟨hjl, rfl⟩ := List.getElem?_eq_some_iff.1 hj
  rw [List.length_replicate] at hjl
  refine ⟨#[.int .i64 0], rfl, fun i u hu => ?_, by rw [List.getElem_replicate]; rfl⟩
  have hi0 : i = 0 := by
   have := (Array.getElem?_eq_some_iff.1 hu).1
   simp at this
   omega
  subst hi0
  rw [Nat.mul_one, Nat.add_zero, List.getElem?_replicate, if_pos hjl]
  simpa using hu
def sOf (rs : List RowQ) (i : Nat) : Int := (rs[i]?.map RowQ.s).getD 0
def slackN (rs : List RowQ) (r0 : Nat) : Nat → List Int × Nat
 | 0 => ([], r0)
 | i + 1 => ((slackN rs r0 i).1 ++ [if sOf rs i = 0 then -1 else ((slackN rs r0 i).2 : Int)], (slackN rs r0 i).2 + if sOf rs i = 0 then 0 else 1)
theorem slackN_len (rs : List RowQ) (r0 : Nat) : ∀ i, (slackN rs r0 i).1.length = i
 | 0 => rfl
 | i + 1 => by rw [slackN, List.length_append, slackN_len rs r0 i]; rfl
theorem slackN_real (rs : List RowQ) (r0 : Nat) : ∀ i, (slackN rs r0 i).2 ≤ r0 + i
 | 0 => Nat.le_refl _
 | i + 1 => by
  have := slackN_real rs r0 i
  show (slackN rs r0 i).2 + (if sOf rs i = 0 then 0 else 1) ≤ _
  split <;> omega
theorem set_rep {l : List Int} {i m : Nat} (x : Int) (hl : l.length = i) (hi : i < m) : (l ++ List.replicate (m - i) 0).set i x = l ++ [x] ++ List.replicate (m - (i + 1)) 0 := by
 obtain ⟨k, rfl⟩ : ∃ k, m = i + (k + 1) := ⟨m - i - 1, by omega⟩
 rw [show i + (k + 1) - i = k + 1 by omega, show i + (k + 1) - (i + 1) = k by omega, List.replicate_succ, List.set_append_right _ _ (by omega), show i - l.length = 0 by omega]
 simp
theorem set_mid2 {l r : List Int} {i : Nat} (x y : Int) (hl : l.length = i) : (l ++ [x] ++ r).set i y = l ++ [y] ++ r := by
 rw [List.append_assoc, List.set_append_right _ _ (by omega), show i - l.length = 0 by omega]
 simp
theorem signQ_neg_iff (q : Rat) : signQ q < 0 ↔ q < 0 := by
 unfold signQ
 by_cases h0 : q.num = 0
 ·rw [if_pos h0, Rat.num_eq_zero.1 h0]
  exact ⟨fun h => by omega, fun h => absurd h (Rat.not_lt.2 Rat.le_refl)⟩
 ·rw [if_neg h0]
  by_cases h1 : q.num < 0
  ·rw [if_pos h1]
   exact ⟨fun _ => num_neg.1 h1, fun _ => by omega⟩
  ·rw [if_neg h1]
   exact ⟨fun h => by omega, fun h => absurd (num_neg.2 h) h1⟩
def bOf (rs : List RowQ) (i : Nat) : Rat := (rs[i]?.map RowQ.b).getD 0
def tOf (rs : List RowQ) (i : Nat) : Bool := decide (bOf rs i < 0)
def turnN (rs : List RowQ) (i : Nat) : List Bool := (rs.take i).map fun r => decide (r.b < 0)
theorem turnN_len (rs : List RowQ) (i : Nat) (h : i ≤ rs.length) : (turnN rs i).length = i := by simp [turnN]; omega
theorem turnN_succ {rs : List RowQ} {i : Nat} {r : RowQ} (h : rs[i]? = some r) : turnN rs (i + 1) = turnN rs i ++ [decide (r.b < 0)] := by
 unfold turnN
 rw [List.take_add_one, h, List.map_append]
 rfl
def idC (rs : List RowQ) (sl : List Int) (i : Nat) : Bool := decide (0 ≤ sl.getD i 0) && decide (-(sOf rs i) * (if tOf rs i = true then -1 else 1) = 1)
theorem idC_eq {rs : List RowQ} {sl : List Int} {i : Nat} {x t : Int} {tb : Bool} (h1 : sl.getD i 0 = x) (h2 : sOf rs i = t) (h3 : tOf rs i = tb) : idC rs sl i = (decide (0 ≤ x) && decide (-t * (if tb = true then -1 else 1) = 1)) := by unfold idC; rw [h1, h2, h3]
def idN (rs : List RowQ) (sl : List Int) (w0 : Nat) : Nat → List Int × Nat
 | 0 => ([], w0)
 | i + 1 => ((idN rs sl w0 i).1 ++ [if idC rs sl i = true then sl.getD i 0 else ((idN rs sl w0 i).2 : Int)], (idN rs sl w0 i).2 + if idC rs sl i = true then 0 else 1)
theorem idN_len (rs : List RowQ) (sl : List Int) (w0 : Nat) : ∀ i, (idN rs sl w0 i).1.length = i
 | 0 => rfl
 | i + 1 => by rw [idN, List.length_append, idN_len rs sl w0 i]; rfl
theorem idN_width (rs : List RowQ) (sl : List Int) (w0 : Nat) : ∀ i, (idN rs sl w0 i).2 ≤ w0 + i
 | 0 => Nat.le_refl _
 | i + 1 => by
  have := idN_width rs sl w0 i
  show (idN rs sl w0 i).2 + (if idC rs sl i = true then 0 else 1) ≤ _
  split <;> omega
theorem varsN_lt1 (fr : List Bool) : ∀ i, ∀ x ∈ (varsN fr i).1, 0 ≤ x ∧ x < ((varsN fr i).2.2 : Int)
 | 0, x, h => by simp [varsN] at h
 | i + 1, x, h => by
  have hr : (varsN fr i).2.2 < (varsN fr (i + 1)).2.2 := by
   show _ < (varsN fr i).2.2 + (if fr.getD i false = true then 2 else 1)
   split <;> omega
  rw [varsN, List.mem_append] at h
  rcases h with h | h
  ·have := varsN_lt1 fr i x h
   omega
  ·rw [List.mem_singleton] at h
   omega
theorem varsN_lt2 (fr : List Bool) : ∀ i, ∀ x ∈ (varsN fr i).2.1, x < ((varsN fr i).2.2 : Int)
 | 0, x, h => by simp [varsN] at h
 | i + 1, x, h => by
  have hr : (varsN fr (i + 1)).2.2 = (varsN fr i).2.2 + (if fr.getD i false = true then 2 else 1) := rfl
  rw [varsN, List.mem_append] at h
  rcases h with h | h
  ·have := varsN_lt2 fr i x h
   split at hr <;> omega
  ·rw [List.mem_singleton] at h
   split at hr
   ·rename_i hf
    rw [if_pos hf] at h
    omega
   ·rename_i hf
    rw [if_neg hf] at h
    omega
theorem slackN_lt (rs : List RowQ) (r0 : Nat) : ∀ i, ∀ x ∈ (slackN rs r0 i).1, x < ((slackN rs r0 i).2 : Int)
 | 0, x, h => by simp [slackN] at h
 | i + 1, x, h => by
  have hr : (slackN rs r0 (i + 1)).2 = (slackN rs r0 i).2 + (if sOf rs i = 0 then 0 else 1) := rfl
  rw [slackN, List.mem_append] at h
  rcases h with h | h
  ·have := slackN_lt rs r0 i x h
   split at hr <;> omega
  ·rw [List.mem_singleton] at h
   split at hr
   ·rename_i hf
    rw [if_pos hf] at h
    omega
   ·rename_i hf
    rw [if_neg hf] at h
    omega
theorem slackN_ge (rs : List RowQ) (r0 : Nat) : ∀ i, r0 ≤ (slackN rs r0 i).2
 | 0 => Nat.le_refl _
 | i + 1 => Nat.le_trans (slackN_ge rs r0 i) (Nat.le_add_right _ _)
theorem idN_ge (rs : List RowQ) (sl : List Int) (w0 : Nat) : ∀ i, w0 ≤ (idN rs sl w0 i).2
 | 0 => Nat.le_refl _
 | i + 1 => Nat.le_trans (idN_ge rs sl w0 i) (Nat.le_add_right _ _)
theorem idN_lt (rs : List RowQ) (sl : List Int) (w0 : Nat) (hs : ∀ x ∈ sl, x < (w0 : Int)) : ∀ i, i ≤ sl.length → ∀ x ∈ (idN rs sl w0 i).1, 0 ≤ x ∧ x < ((idN rs sl w0 i).2 : Int)
 | 0, _, x, h => by simp [idN] at h
 | i + 1, hi, x, h => by
  have hr : (idN rs sl w0 (i + 1)).2 = (idN rs sl w0 i).2 + (if idC rs sl i = true then 0 else 1) := rfl
  have hg := idN_ge rs sl w0 i
  rw [idN, List.mem_append] at h
  rcases h with h | h
  ·have := idN_lt rs sl w0 hs i (by omega) x h
   split at hr <;> omega
  ·rw [List.mem_singleton] at h
   split at hr
   ·rename_i hf
    rw [if_pos hf] at h
    unfold idC at hf
    rw [Bool.and_eq_true, decide_eq_true_eq] at hf
    have hm : sl.getD i 0 ∈ sl := by
     rw [List.getD_eq_getElem?_getD, List.getElem?_eq_getElem (by omega)]
     exact List.getElem_mem _
    have := hs _ hm
    rw [h]
    omega
   ·rename_i hf
    rw [if_neg hf] at h
    omega
def aOf (r : RowQ) : List Rat := if r.b < 0 then r.a.map fun q => -q else r.a
def bOfR (r : RowQ) : Rat := if r.b < 0 then -r.b else r.b
def fillN (ps ms : List Int) (a : List Rat) (wd : Nat) : Nat → List Rat
 | 0 => List.replicate wd 0
 | v + 1 => if 0 ≤ ms.getD v 0 then ((fillN ps ms a wd v).set (ps.getD v 0).toNat (a.getD v 0)).set (ms.getD v 0).toNat (-(a.getD v 0)) else (fillN ps ms a wd v).set (ps.getD v 0).toNat (a.getD v 0)
theorem fillN_len (ps ms : List Int) (a : List Rat) (wd : Nat) : ∀ v, (fillN ps ms a wd v).length = wd
 | 0 => List.length_replicate ..
 | v + 1 => by
  rw [fillN]
  split
  ·rw [List.length_set, List.length_set, fillN_len ps ms a wd v]
  ·rw [List.length_set, fillN_len ps ms a wd v]
def rowS (ps ms sl : List Int) (wd n i : Nat) (r : RowQ) : List Rat := if 0 ≤ sl.getD i 0 then (fillN ps ms (aOf r) wd n).set (sl.getD i 0).toNat (((if r.b < 0 then r.s else -r.s : Int) : Int) : Rat) else fillN ps ms (aOf r) wd n
def rowD (ps ms sl il : List Int) (wd n i : Nat) (r : RowQ) : List Rat := (rowS ps ms sl wd n i r).set (il.getD i 0).toNat 1
def rowsN (ps ms sl il : List Int) (wd n : Nat) (rs : List RowQ) : List (List Rat) := rs.mapIdx fun i r => rowD ps ms sl il wd n i r
def entN (wd : Nat) (gl : List (Nat × Nat)) (qs : List (List Rat)) : List (Value × Cont) := List.zipWith (fun p q => (Value.slice (some ⟨p.1, 0, none⟩) wd p.2, Cont.F q)) gl qs
theorem BS.only {w0 w w1 : World} {gp gt g : Nat} {PC TC : Array Value} {L : List (Value × Cont)} (h : BS w0 gp gt PC TC L w) (ho : Only g w w1) (hn : ∀ (i : Nat) (v : Value) (c : Cont), L[i]? = some (v, c) → v.ownBlock ≠ some g) (hgt : gt ≠ g) (hgp : gp ≠ g) (hg : w0.heap.size ≤ g) : BS w0 gp gt PC TC L w1 :=
 ⟨h.bag.moved ho.1.1 ho.1 fun i v c k hi hk => ho.2.1 k ((h.bag.ok i v c hi).lt k hk).2 (fun e => hn i v c hi (by rw [← e]; exact hk)), (ho.2.1 gt h.t.lt hgt).trans h.t, (ho.2.1 gp h.p.lt hgp).trans h.p,
  h.below.trans ⟨ho.2.2.1.symm, ho.2.2.2.1.symm, ho.2.2.2.2.symm, ho.1.1, fun k hk => ho.2.1 k (Nat.lt_of_lt_of_le hk h.below.size) (by omega)⟩, h.gtb, h.nw, h.len⟩
theorem RowP.ol {w : World} {g n base : Nat} {qs : List Rat} (h : RowP w g n qs) (hl : qs.length = n) (hb : base ≤ g) (hn : n ≤ 1000000) : OL 3 40 EFQ base w (.slice (some ⟨g, 0, none⟩) n n) qs := by
 obtain ⟨cs, hbk, hnw, hs, hx⟩ := h
 refine ⟨cs.toList, ⟨by simp [hl, hs], .inr ⟨g, n, cs, by rw [hl], hb, hbk, by omega, by unfold maxLen; omega, hs, by rw [hl]; exact List.take_of_length_le (by simp [hs]), hnw⟩⟩, fun j a hj => ?_⟩
 obtain ⟨a', b', c', e0, e1, e2, hE⟩ := hx j a hj
 refine ⟨#[a', b', c'], rfl, fun i u hu => ?_, hE⟩
 have hi : i < 3 := (Array.getElem?_eq_some_iff.1 hu).1
 match i, hi with
 | 0, _ => rw [show u = a' by simpa using hu.symm]; simpa using e0
 | 1, _ => rw [show u = b' by simpa using hu.symm]; simpa using e1
 | 2, _ => rw [show u = c' by simpa using hu.symm]; simpa using e2
theorem box_ol {w : World} {g base : Nat} {a b c : Value} {q : Rat} (hk : Blk w g 40 #[a, b, c]) (hw : ∀ u ∈ #[a, b, c], notWord u = true) (hq : FQ w (.agg #[a, b, c]) q) (hb : base ≤ g) : OL 3 40 EFQ base w (.slice (some ⟨g, 0, none⟩) 1 1) [q] := by
 refine ⟨[a, b, c], ⟨rfl, .inr ⟨g, 1, _, rfl, hb, hk, Nat.le_refl _, by unfold maxLen; omega, rfl, rfl, hw⟩⟩, fun j x hj => ?_⟩
 have hj0 : j = 0 := by
  have := (List.getElem?_eq_some_iff.1 hj).1
  simp at this
  omega
 subst hj0
 have e : q = x := by simpa using hj
 subst e
 exact ⟨#[a, b, c], rfl, fun i u hu => by simpa using hu, hq⟩
theorem rowD_len (ps ms sl il : List Int) (wd n i : Nat) (r : RowQ) : (rowD ps ms sl il wd n i r).length = wd := by
 unfold rowD rowS
 rw [List.length_set]
 split
 ·rw [List.length_set, fillN_len]
 ·rw [fillN_len]
theorem zip_snoc {α β γ : Type} (f : α → β → γ) (x : α) (y : β) : ∀ (l : List α) (m : List β), l.length = m.length → List.zipWith f (l ++ [x]) (m ++ [y]) = List.zipWith f l m ++ [f x y]
 | [], [], _ => rfl
 | a :: l, b :: m, h => by
  rw [List.cons_append, List.cons_append, List.zipWith_cons_cons, List.zipWith_cons_cons, zip_snoc f x y l m (by simpa using h)]
  rfl
theorem set_last {α : Type} (l : List α) (x y : α) {i : Nat} (h : l.length = i) : (l ++ [x]).set i y = l ++ [y] := by
 subst h
 simp
def realB (p : ProgQ) (n m : Nat) : Nat := (slackN p.rows (varsN p.free n).2.2 m).2
def slackB (p : ProgQ) (n m : Nat) : List Int := (slackN p.rows (varsN p.free n).2.2 m).1
def idB (p : ProgQ) (n m : Nat) : List Int := (idN p.rows (slackB p n m) (realB p n m) m).1
def widthB (p : ProgQ) (n m : Nat) : Nat := (idN p.rows (slackB p n m) (realB p n m) m).2
def buildTab (p : ProgQ) (n m : Nat) : Tab := ⟨rowsN (varsN p.free n).1 (varsN p.free n).2.1 (slackB p n m) (idB p n m) (widthB p n m) n p.rows, p.rows.map bOfR, idB p n m, (varsN p.free n).1, (varsN p.free n).2.1, idB p n m⟩
def ApartS (S : Shape) : Prop := ∀ g n c, S.base = .slice (some ⟨g, 0, none⟩) n c → (∀ n c, S.plus ≠ .slice (some ⟨g, 0, none⟩) n c) ∧ (∀ n c, S.minus ≠ .slice (some ⟨g, 0, none⟩) n c) ∧ ∀ n c, S.id ≠ .slice (some ⟨g, 0, none⟩) n c
structure BuildOut (p : ProgQ) (n m : Nat) (PC : Array Value) (w w' : World) (gt : Nat) (S : Shape) (gs : List (Nat × Nat)) (H : Nat → Option (List Rat)) (I : Nat → Option (List Int)) : Prop where
 view : View w.heap.size H I w'
 tw : TabW w' gt S gs (turnN p.rows m)
 tv : TabV H I S gs (buildTab p n m)
 below : Below w.heap.size w w'
 prog : #[S.p0, S.p1, S.p2, S.p3] = PC
 real : S.real = realB p n m
 width : S.width = widthB p n m
 apart : ApartS S
def BuildPost (p : ProgQ) (n m : Nat) (PC : Array Value) (w : World) (e : Ending) (w' : World) : Prop := ∃ gt S gs H I, e = .returned (.pointer (some ⟨gt, 0, none⟩)) ∧ BuildOut p n m PC w w' gt S gs H I
theorem small_int {x : Int} (h1 : -1 ≤ x) (h2 : x ≤ 1) : Small (x : Rat) := by
 have := size_int x (by omega) (by omega)
 unfold Small
 omega
theorem small_set {l : List Rat} {i : Nat} {q : Rat} (h : ∀ x ∈ l, Small x) (hq : Small q) : ∀ x ∈ l.set i q, Small x := fun x hx => by
 rcases List.mem_or_eq_of_mem_set hx with h1 | h1
 ·exact h x h1
 ·rw [h1]; exact hq
theorem small_aOf {r : RowQ} (h : SmallR r) : ∀ q ∈ aOf r, Small q := by
 unfold aOf
 split
 ·intro q hq
  obtain ⟨q', hq', rfl⟩ := List.mem_map.1 hq
  exact small_neg (h.1 q' hq')
 ·exact h.1
theorem small_bOfR {r : RowQ} (h : SmallR r) : Small (bOfR r) := by
 unfold bOfR
 split
 ·exact small_neg h.2
 ·exact h.2
theorem small_getD {l : List Rat} (h : ∀ q ∈ l, Small q) (i : Nat) : Small (l.getD i 0) := by
 rw [List.getD_eq_getElem?_getD]
 cases hq : l[i]? with
 | none => exact small_q0
 | some q => exact h q (List.mem_of_getElem? hq)
theorem small_fill {ps ms : List Int} {a : List Rat} {wd : Nat} (h : ∀ q ∈ a, Small q) : ∀ v, ∀ q ∈ fillN ps ms a wd v, Small q
 | 0 => fun q hq => by rw [fillN] at hq; rw [List.eq_of_mem_replicate hq]; exact small_q0
 | v + 1 => by
  rw [fillN]
  split
  ·exact small_set (small_set (small_fill h v) (small_getD h v)) (small_neg (small_getD h v))
  ·exact small_set (small_fill h v) (small_getD h v)
theorem small_rowD {ps ms sl il : List Int} {wd n i : Nat} {r : RowQ} (h : SmallR r) (h1 : -1 ≤ r.s) (h2 : r.s ≤ 1) : ∀ q ∈ rowD ps ms sl il wd n i r, Small q := by
 unfold rowD
 refine small_set ?_ small_one
 unfold rowS
 split
 ·refine small_set (small_fill (small_aOf h) n) ?_
  split
  ·exact small_int h1 h2
  ·exact small_int (by omega) (by omega)
 ·exact small_fill (small_aOf h) n
theorem build_post {w wr : World} {gp gt gs n m real rb wd : Nat} {A1 A2 A3 P0 M0 I0 T0 : Option Addr} {c1 c2 c3 pc mc ic tc : Nat} {vR vRt vB : Value} {gl : List (Nat × Nat)} {p : ProgQ} {ps ms sl il : List Int} (hvn : varsN p.free n = (ps, ms, real)) (hsn : slackN p.rows real m = (sl, rb)) (hin : idN p.rows sl rb m = (il, wd)) (hil : il.length = m) (hrl : p.rows.length = m) (hgl : gl.length = m) (hrs : ∀ r ∈ p.rows, SmallR r) (hss : ∀ r ∈ p.rows, -1 ≤ r.s ∧ r.s ≤ 1)
  (h : BS w gp gt #[.int .i64 (n : Int), .slice A1 n c1, .slice A2 n c2, .slice A3 m c3] #[.int .i64 (n : Int), .slice A1 n c1, .slice A2 n c2, .slice A3 m c3, vR, vRt, vB, .slice P0 n pc, .slice M0 n mc, .int .i64 ((rb : Nat) : Int), .int .i64 ((wd : Nat) : Int), .slice I0 m ic, .slice T0 m tc] ((.slice P0 n pc, .I ps) :: (.slice M0 n mc, .I ms) :: (.slice (some ⟨gs, 0, none⟩) m m, .I sl) :: (.slice T0 m tc, .B (turnN p.rows m)) :: (.slice I0 m ic, .I il) :: (vR, .R wd (gl)) :: (vRt, .F (p.rows.map bOfR)) :: (vB, .I (il)) :: entN wd gl (rowsN ps ms sl il wd n p.rows)) wr) : BuildPost p n m #[.int .i64 (n : Int), .slice A1 n c1, .slice A2 n c2, .slice A3 m c3] w (.returned (.pointer (some ⟨gt, 0, none⟩))) wr := by
 have hv1 : (varsN p.free n).1 = ps := by rw [hvn]
 have hv2 : (varsN p.free n).2.1 = ms := by rw [hvn]
 have hv3 : (varsN p.free n).2.2 = real := by rw [hvn]
 have hs1 : slackB p n m = sl := by unfold slackB; rw [hv3, hsn]
 have hs2 : realB p n m = rb := by unfold realB; rw [hv3, hsn]
 have hi1 : idB p n m = il := by unfold idB; rw [hs1, hs2, hin]
 have hi2 : widthB p n m = wd := by unfold widthB; rw [hs1, hs2, hin]
 have hrn : (rowsN ps ms sl il wd n p.rows).length = m := by unfold rowsN; rw [List.length_mapIdx, hrl]
 have hT : buildTab p n m = ⟨rowsN ps ms sl il wd n p.rows, p.rows.map bOfR, il, ps, ms, il⟩ := by unfold buildTab; rw [hv1, hv2, hs1, hi1, hi2]
 have hent : ∀ (i : Nat) (x : Nat × Nat) (q : List Rat), gl[i]? = some x → (rowsN ps ms sl il wd n p.rows)[i]? = some q → (entN wd gl (rowsN ps ms sl il wd n p.rows))[i]? = some (.slice (some ⟨x.1, 0, none⟩) wd x.2, .F q) := fun i x q hx hq => by
  unfold entN
  rw [List.getElem?_zipWith, hx, hq]
 have hq0 : ∀ (i : Nat) (x : Nat × Nat), gl[i]? = some x → ∃ q, (rowsN ps ms sl il wd n p.rows)[i]? = some q := fun i x hx => ⟨_, List.getElem?_eq_getElem (by rw [hrn, ← hgl]; exact (List.getElem?_eq_some_iff.1 hx).1)⟩
 have hrow : ∀ (i : Nat) (q : List Rat), (rowsN ps ms sl il wd n p.rows)[i]? = some q → q.length = wd ∧ ∀ x ∈ q, Small x := fun i q hq => by
  unfold rowsN at hq
  rw [List.getElem?_mapIdx] at hq
  cases hr : p.rows[i]? with
  | none => rw [hr] at hq; cases hq
  | some r =>
   rw [hr] at hq
   obtain rfl : rowD ps ms sl il wd n i r = q := by simpa using hq
   have hm := List.mem_of_getElem? hr
   exact ⟨rowD_len .., small_rowD (hrs r hm) (hss r hm).1 (hss r hm).2⟩
 have hsm : ∀ (i : Nat) (v : Value) (qs : List Rat), (((.slice P0 n pc, .I ps) :: (.slice M0 n mc, .I ms) :: (.slice (some ⟨gs, 0, none⟩) m m, .I sl) :: (.slice T0 m tc, .B (turnN p.rows m)) :: (.slice I0 m ic, .I il) :: (vR, .R wd (gl)) :: (vRt, .F (p.rows.map bOfR)) :: (vB, .I (il)) :: entN wd gl (rowsN ps ms sl il wd n p.rows)))[i]? = some (v, .F qs) → ∀ q ∈ qs, Small q := fun i v qs hi => by
  match i, hi with
  | 0, hi => cases (Prod.mk.inj (Option.some.inj hi)).2
  | 1, hi => cases (Prod.mk.inj (Option.some.inj hi)).2
  | 2, hi => cases (Prod.mk.inj (Option.some.inj hi)).2
  | 3, hi => cases (Prod.mk.inj (Option.some.inj hi)).2
  | 4, hi => cases (Prod.mk.inj (Option.some.inj hi)).2
  | 5, hi => cases (Prod.mk.inj (Option.some.inj hi)).2
  | 6, hi =>
   have e := (Prod.mk.inj (Option.some.inj hi)).2
   injection e with e
   intro q hq
   rw [← e] at hq
   obtain ⟨r, hr, rfl⟩ := List.mem_map.1 hq
   exact small_bOfR (hrs r hr)
  | 7, hi => cases (Prod.mk.inj (Option.some.inj hi)).2
  | k + 8, hi =>
   have hi' : (entN wd gl (rowsN ps ms sl il wd n p.rows))[k]? = some (v, .F qs) := hi
   unfold entN at hi'
   rw [List.getElem?_zipWith] at hi'
   cases hx : gl[k]? with
   | none => rw [hx] at hi'; simp at hi'
   | some x =>
    obtain ⟨q, hq⟩ := hq0 k x hx
    rw [hx, hq] at hi'
    have e := (Prod.mk.inj (Option.some.inj hi')).2
    injection e with e
    rw [← e]
    exact (hrow k q hq).2
 refine ⟨gt, ⟨.int .i64 (n : Int), .slice A1 n c1, .slice A2 n c2, .slice A3 m c3, vR, vRt, vB, .slice P0 n pc, .slice M0 n mc, rb, wd, .slice I0 m ic, .slice T0 m tc⟩, gl, bagH ((.slice P0 n pc, .I ps) :: (.slice M0 n mc, .I ms) :: (.slice (some ⟨gs, 0, none⟩) m m, .I sl) :: (.slice T0 m tc, .B (turnN p.rows m)) :: (.slice I0 m ic, .I il) :: (vR, .R wd (gl)) :: (vRt, .F (p.rows.map bOfR)) :: (vB, .I (il)) :: entN wd gl (rowsN ps ms sl il wd n p.rows)), bagN ((.slice P0 n pc, .I ps) :: (.slice M0 n mc, .I ms) :: (.slice (some ⟨gs, 0, none⟩) m m, .I sl) :: (.slice T0 m tc, .B (turnN p.rows m)) :: (.slice I0 m ic, .I il) :: (vR, .R wd (gl)) :: (vRt, .F (p.rows.map bOfR)) :: (vB, .I (il)) :: entN wd gl (rowsN ps ms sl il wd n p.rows)), rfl, h.bag.view hsm, ⟨h.t, h.bag.vrows (i := 5) rfl, h.bag.fro (i := 3) rfl⟩, ?_, h.below, rfl, hs2.symm, hi2.symm, fun g k c hb => ?_⟩
 ·rw [hT]
  refine ⟨by rw [hgl, hrn], fun i x q hx hq => ⟨h.bag.h_at (i := i + 8) (hent i x q hx hq) rfl, (hrow i q hq).1⟩, ?_, h.bag.vh (i := 6) rfl, by rw [hrn, List.length_map, hrl], h.bag.vi (i := 7) rfl, by rw [hrn, hil], h.bag.vi (i := 0) rfl, h.bag.vi (i := 1) rfl, h.bag.vi (i := 4) rfl, by rw [hrn, hil], fun g c k hb hm => ?_⟩
  ·rw [List.Nodup, List.pairwise_iff_getElem]
   intro i j hi hj hij e
   rw [List.getElem_map, List.getElem_map] at e
   rw [List.length_map] at hi hj
   obtain ⟨q, hq⟩ := hq0 i _ (List.getElem?_eq_getElem hi)
   obtain ⟨q', hq'⟩ := hq0 j _ (List.getElem?_eq_getElem hj)
   exact h.bag.apart (i + 8) (j + 8) _ _ _ _ gl[i].1 (by omega) (hent i _ q (List.getElem?_eq_getElem hi) hq) (hent j _ q' (List.getElem?_eq_getElem hj) hq') rfl (by rw [e]; rfl)
  ·obtain ⟨x, hx, rfl⟩ := List.mem_map.1 hm
   obtain ⟨i, hi⟩ := List.getElem?_of_mem hx
   obtain ⟨q, hq⟩ := hq0 i x hi
   have hb' : vRt = .slice (some ⟨x.1, 0, none⟩) k c := hb
   exact h.bag.apart (i + 8) 6 _ _ _ _ x.1 (by omega) (hent i x q hi hq) rfl rfl (by rw [hb']; rfl)
 ·have hb' : vB = .slice (some ⟨g, 0, none⟩) k c := hb
  refine ⟨fun k' c' e => ?_, fun k' c' e => ?_, fun k' c' e => ?_⟩
  ·exact h.bag.apart 7 0 _ _ _ _ g (by decide) rfl rfl (by rw [hb']; rfl) (by rw [show Value.slice P0 n pc = _ from e]; rfl)
  ·exact h.bag.apart 7 1 _ _ _ _ g (by decide) rfl rfl (by rw [hb']; rfl) (by rw [show Value.slice M0 n mc = _ from e]; rfl)
  ·exact h.bag.apart 7 4 _ _ _ _ g (by decide) rfl rfl (by rw [hb']; rfl) (by rw [show Value.slice I0 m ic = _ from e]; rfl)
open Go
section
variable {P : Program} {ops : Array Oper} {Q : Exit → Act → World → Prop} {md : Region.Mode} {S : World → Prop} {L : Nat}
theorem wpAnyF_weaken (L' : Nat) : ∀ (fuel : Nat) (listed : Array Bool) (a : Act) (w : World), wpAnyF P md ops Q S L fuel listed a w → wpAnyF P md ops Q (fun _ => True) L' fuel listed a w
 | 0, _, _, _, h => h
 | n + 1, _, _, _, h => ⟨h.1, fun i hi => wpOp_mono (fun a' w' hk => ⟨fun _ => trivial, wpAnyF_weaken L' n _ a' w' hk.2⟩) (h.2 i hi)⟩
theorem wp_fork0 {id : Nat} {a : Act} {w : World} {l : List Oper} (q : List Nat) (S : World → Prop) (L : Nat) (t : CU) (hm : P.follows .mixedOrders = true) (hs : Region.noSelect l.toArray = true)
  (hc0 : takesF .any l.toArray l.toArray.size q (Array.replicate l.toArray.size false) = true) (hc : forkOk .any l.toArray L t (marked q (Array.replicate l.toArray.size false)) = true)
  (hlen : q.length + (t.len + (l.toArray.size - L)) = l.toArray.size) (hS : S w.drew) (h : ∃ A, pureTo P l.toArray (fun _ => True) q a A ∧ forkF P l.toArray (NoPanic Q) S (l.drop L) t A w.drew) : (Code.region id l.toArray true).wp P Q a w := by
 obtain ⟨A, hp, hf⟩ := h
 have h1 := takesF_sound (md := .any) (S := fun _ => True) (L := l.toArray.size) (Q := NoPanic Q) (Region.noSelect_spec hs) (fun _ _ _ _ _ h => h) q (Array.replicate l.toArray.size false) a A w.drew (t.len + (l.toArray.size - L)) hc0 (Closed.start _) hp trivial
  (fun hcl => wpAnyF_weaken l.toArray.size _ _ _ _ (by
   have := fork_sound (md := .any) (L := L) (Region.noSelect_spec hs) (fun _ _ _ _ _ h => h) (l.drop L) (by simp) t _ A w.drew hc hcl hf hS 0
   rw [Nat.add_zero] at this
   exact this))
 rw [hlen] at h1
 exact wp_region_noPanic (wp_region_any hm (wpAny_of_F _ _ _ _ h1))
end
open Go
section
variable {P : Program} {ops : Array Oper} {Q : Exit → Act → World → Prop} {S : World → Prop}
theorem wp_chain_mono {o : Oper} {K K' : Act → World → Prop} {a : Act} {w : World} (hm : ∀ a w, K a w → K' a w) (h : o.wp P a w (wpList P ops (chainQ Q K) []) (chainQ Q K)) : o.wp P a w (wpList P ops (chainQ Q K') []) (chainQ Q K') := by
 unfold Oper.wp at *
 generalize (execOp a.eval o).run P w = r at *
 cases r with
 | ok n w' =>
  cases n <;> simp only [Oper.upon] at h ⊢ <;>
   first
    | exact hm _ _ h
    | exact Calls.mono h (fun e w'' he => by cases e <;> first | exact hm _ _ he | exact he)
    | exact Rows.mono h (fun _ _ he => hm _ _ he)
 | halt x w' => cases x <;> simp only [Oper.upon] at h ⊢ <;> exact h
theorem chain_list_mono {o : Oper} {K K' : Act → World → Prop} {a : Act} {w : World} (hm : ∀ a w, K a w → K' a w) (h : wpList P ops (chainQ Q K) [o] a w) : wpList P ops (chainQ Q K') [o] a w := by
 unfold wpList at h ⊢
 split at h
 ·rename_i hw
  rw [if_pos hw]
  rcases h with h | h
  ·exact .inl (wp_chain_mono hm h)
  ·exact .inr h
 ·rename_i hw
  rw [if_neg hw]
  exact hm _ _ h
def forkK (P : Program) (ops : Array Oper) (Q : Exit → Act → World → Prop) (S : World → Prop) (K : Act → World → Prop) : CU → Act → World → Prop
 | .fin p0, a, w => ∃ A, pureTo P ops S p0 a A ∧ K A w
 | .one p c t, a, w => ∃ A o, pureTo P ops S p a A ∧ ops[c]? = some o ∧ wpList P ops (chainQ Q fun a' w' => S w' ∧ forkK P ops Q S K t a' w') [o] A w
 | .two p c1 t1 c2 t2, a, w => ∃ A o1 o2, pureTo P ops S p a A ∧ ops[c1]? = some o1 ∧ ops[c2]? = some o2 ∧ wpList P ops (chainQ Q fun a' w' => S w' ∧ forkK P ops Q S K t1 a' w') [o1] A w ∧ wpList P ops (chainQ Q fun a' w' => S w' ∧ forkK P ops Q S K t2 a' w') [o2] A w
 | .three p c1 t1 c2 t2 c3 t3, a, w => ∃ A o1 o2 o3, pureTo P ops S p a A ∧ ops[c1]? = some o1 ∧ ops[c2]? = some o2 ∧ ops[c3]? = some o3 ∧ wpList P ops (chainQ Q fun a' w' => S w' ∧ forkK P ops Q S K t1 a' w') [o1] A w ∧ wpList P ops (chainQ Q fun a' w' => S w' ∧ forkK P ops Q S K t2 a' w') [o2] A w ∧ wpList P ops (chainQ Q fun a' w' => S w' ∧ forkK P ops Q S K t3 a' w') [o3] A w
theorem forkF_of_K {K : Act → World → Prop} {os : List Oper} (hk : ∀ a w, K a w → wpList P ops Q os a w) : ∀ (t : CU) (a : Act) (w : World), forkK P ops Q S K t a w → forkF P ops Q S os t a w
 | .fin p0, a, w, ⟨A, hp, h⟩ => ⟨A, hp, hk A w h⟩
 | .one p c t, a, w, ⟨A, o, hp, ho, h⟩ => ⟨A, o, hp, ho, chain_list_mono (fun a' w' hx => ⟨hx.1, forkF_of_K hk t a' w' hx.2⟩) h⟩
 | .two p c1 t1 c2 t2, a, w, ⟨A, o1, o2, hp, ho1, ho2, h1, h2⟩ => ⟨A, o1, o2, hp, ho1, ho2, chain_list_mono (fun a' w' hx => ⟨hx.1, forkF_of_K hk t1 a' w' hx.2⟩) h1, chain_list_mono (fun a' w' hx => ⟨hx.1, forkF_of_K hk t2 a' w' hx.2⟩) h2⟩
 | .three p c1 t1 c2 t2 c3 t3, a, w, ⟨A, o1, o2, o3, hp, ho1, ho2, ho3, h1, h2, h3⟩ => ⟨A, o1, o2, o3, hp, ho1, ho2, ho3, chain_list_mono (fun a' w' hx => ⟨hx.1, forkF_of_K hk t1 a' w' hx.2⟩) h1, chain_list_mono (fun a' w' hx => ⟨hx.1, forkF_of_K hk t2 a' w' hx.2⟩) h2, chain_list_mono (fun a' w' hx => ⟨hx.1, forkF_of_K hk t3 a' w' hx.2⟩) h3⟩
theorem fork_share3 {X : Type} (put : Act → X → Act) (Kx : X → World → Prop) {os : List Oper} {p : List Nat} {c1 c2 c3 : Nat} {t1 t2 t3 : CU} {a : Act} {w : World}
  (h : ∃ A, pureTo P ops S p a A ∧ (∀ x V, Kx x V → wpList P ops Q os (put A x) V) ∧ ∀ (O : Array Oper) (K : Act → World → Prop), (∀ c : Nat, O[c]? = ops[c]?) → (∀ x V, Kx x V → K (put A x) V) → ∃ o1 o2 o3, O[c1]? = some o1 ∧ O[c2]? = some o2 ∧ O[c3]? = some o3 ∧ wpList P O (chainQ Q fun a' w' => S w' ∧ forkK P O Q S K t1 a' w') [o1] A w ∧ wpList P O (chainQ Q fun a' w' => S w' ∧ forkK P O Q S K t2 a' w') [o2] A w ∧ wpList P O (chainQ Q fun a' w' => S w' ∧ forkK P O Q S K t3 a' w') [o3] A w) :
  forkF P ops Q S os (.three p c1 t1 c2 t2 c3 t3) a w := by
 obtain ⟨A, hp, hl, h⟩ := h
 obtain ⟨o1, o2, o3, ho1, ho2, ho3, h1, h2, h3⟩ := h ops (fun b V => ∃ x, b = put A x ∧ Kx x V) (fun _ => rfl) (fun x V hx => ⟨x, rfl, hx⟩)
 exact forkF_of_K (K := fun b V => ∃ x, b = put A x ∧ Kx x V) (fun b V ⟨x, e, hx⟩ => by rw [e]; exact hl x V hx) _ _ _ ⟨A, o1, o2, o3, hp, ho1, ho2, ho3, h1, h2, h3⟩
theorem fin_eq {K : Act → World → Prop} {a b : Act} {w : World} (h : K a w) (e : a = b) : K b w := e ▸ h
theorem forkK_fin {K : Act → World → Prop} {a : Act} {w : World} (h : K a w) : forkK P ops Q S K (.fin []) a w := ⟨a, rfl, h⟩
theorem forkK_one {K : Act → World → Prop} {a : Act} {w : World} {c : Nat} {t : CU} {o : Oper} (ho : ops[c]? = some o) (h : wpList P ops (chainQ Q fun a' w' => S w' ∧ forkK P ops Q S K t a' w') [o] a w) : forkK P ops Q S K (.one [] c t) a w := ⟨a, o, rfl, ho, h⟩
theorem forkK_two {K : Act → World → Prop} {a : Act} {w : World} {c1 c2 : Nat} {t1 t2 : CU} {o1 o2 : Oper} (ho1 : ops[c1]? = some o1) (ho2 : ops[c2]? = some o2) (h1 : wpList P ops (chainQ Q fun a' w' => S w' ∧ forkK P ops Q S K t1 a' w') [o1] a w) (h2 : wpList P ops (chainQ Q fun a' w' => S w' ∧ forkK P ops Q S K t2 a' w') [o2] a w) : forkK P ops Q S K (.two [] c1 t1 c2 t2) a w := ⟨a, o1, o2, rfl, ho1, ho2, h1, h2⟩
theorem forkK_three {K : Act → World → Prop} {a : Act} {w : World} {c1 c2 c3 : Nat} {t1 t2 t3 : CU} {o1 o2 o3 : Oper} (ho1 : ops[c1]? = some o1) (ho2 : ops[c2]? = some o2) (ho3 : ops[c3]? = some o3) (h1 : wpList P ops (chainQ Q fun a' w' => S w' ∧ forkK P ops Q S K t1 a' w') [o1] a w) (h2 : wpList P ops (chainQ Q fun a' w' => S w' ∧ forkK P ops Q S K t2 a' w') [o2] a w) (h3 : wpList P ops (chainQ Q fun a' w' => S w' ∧ forkK P ops Q S K t3 a' w') [o3] a w) : forkK P ops Q S K (.three [] c1 t1 c2 t2 c3 t3) a w := ⟨a, o1, o2, o3, rfl, ho1, ho2, ho3, h1, h2, h3⟩
end
open Go
def forceL : List Bool → (List Bool → Bool) → Bool
 | [], k => k []
 | true :: l, k => forceL l fun r => k (true :: r)
 | false :: l, k => forceL l fun r => k (false :: r)
theorem forceL_eq : ∀ (l : List Bool) (k : List Bool → Bool), forceL l k = k l
 | [], _ => rfl
 | true :: l, k => by rw [forceL, forceL_eq l]
 | false :: l, k => by rw [forceL, forceL_eq l]
def forceA (a : Array Bool) (k : Array Bool → Bool) : Bool := forceL a.toList fun l => k ⟨l⟩
theorem forceA_eq (a : Array Bool) (k : Array Bool → Bool) : forceA a k = k a := by rw [forceA, forceL_eq]
def takesC (md : Region.Mode) (ops : Array Oper) (L : Nat) : List Nat → Array Bool → (Array Bool → Bool) → Bool
 | [], listed, k => k listed
 | i :: p, listed, k => Region.free md ops listed i && (Region.ready md ops listed).contains i && waitsF md ops L i && forceA (listed.setIfInBounds i true) fun l => takesC md ops L p l k
theorem takesC_eq {md : Region.Mode} {ops : Array Oper} {L : Nat} : ∀ (p : List Nat) (listed : Array Bool) (k : Array Bool → Bool), takesC md ops L p listed k = (takesF md ops L p listed && k (marked p listed))
 | [], listed, k => by simp [takesC, takesF, marked]
 | i :: p, listed, k => by
  rw [takesC, takesF, forceA_eq, takesC_eq p, Bool.and_assoc]
  simp [marked, Bool.and_assoc]
def freeC (md : Region.Mode) (ops : Array Oper) : Nat → Nat → Array Bool → Bool
 | 0, _, listed => (Region.ready md ops listed).isEmpty
 | k + 1, L, listed => (Region.ready md ops listed == [L]) && forceA (listed.setIfInBounds L true) fun l => freeC md ops k (L + 1) l
theorem freeC_eq {md : Region.Mode} {ops : Array Oper} : ∀ (k L : Nat) (listed : Array Bool), freeC md ops k L listed = freeF md ops k L listed
 | 0, _, _ => rfl
 | k + 1, L, listed => by rw [freeC, freeF, forceA_eq, freeC_eq k]
def forkC (md : Region.Mode) (ops : Array Oper) (L : Nat) : CU → Array Bool → Bool
 | .fin p0, listed => takesC md ops L p0 listed fun l => freeC md ops (ops.size - L) L l
 | .one p c t, listed => takesC md ops L p listed fun l => (Region.ready md ops l == [c]) && forceA (l.setIfInBounds c true) (forkC md ops L t)
 | .two p c1 t1 c2 t2, listed => takesC md ops L p listed fun l => (Region.ready md ops l == [c1, c2]) && forceA (l.setIfInBounds c1 true) (forkC md ops L t1) && forceA (l.setIfInBounds c2 true) (forkC md ops L t2) && (t1.len == t2.len)
 | .three p c1 t1 c2 t2 c3 t3, listed => takesC md ops L p listed fun l => (Region.ready md ops l == [c1, c2, c3]) && forceA (l.setIfInBounds c1 true) (forkC md ops L t1) && forceA (l.setIfInBounds c2 true) (forkC md ops L t2) && forceA (l.setIfInBounds c3 true) (forkC md ops L t3) && (t1.len == t2.len) && (t1.len == t3.len)
theorem forkC_eq {md : Region.Mode} {ops : Array Oper} {L : Nat} : ∀ (t : CU) (listed : Array Bool), forkC md ops L t listed = forkOk md ops L t listed
 | .fin p0, listed => by rw [forkC, forkOk, takesC_eq, freeC_eq]
 | .one p c t, listed => by rw [forkC, forkOk, takesC_eq, forceA_eq, forkC_eq t, Bool.and_assoc]
 | .two p c1 t1 c2 t2, listed => by
  rw [forkC, forkOk, takesC_eq, forceA_eq, forceA_eq, forkC_eq t1, forkC_eq t2]
  simp only [Bool.and_assoc]
 | .three p c1 t1 c2 t2 c3 t3, listed => by
  rw [forkC, forkOk, takesC_eq, forceA_eq, forceA_eq, forceA_eq, forkC_eq t1, forkC_eq t2, forkC_eq t3]
  simp only [Bool.and_assoc]
theorem forkOk_of {md : Region.Mode} {ops : Array Oper} {L : Nat} {t : CU} {listed : Array Bool} (h : forceA listed (forkC md ops L t) = true) : forkOk md ops L t listed = true := by
 rw [forceA_eq, forkC_eq] at h
 exact h
end Go.Proofs.Ytfhambfgjigneaa

/- Contracts of Go functions that the statement reaches, proved by walking their text, and plain laws over them (texts put together). -/
import Derived.Test.YtfhambfgjigneaaGreatKT6
import Derived.Test.YtfhambfgjigneaaGreatKT5
import Derived.Test.YtfhambfgjigneaaGreatKT1
set_option linter.unusedVariables false
set_option linter.unusedSimpArgs false
namespace Go.Proofs.YtfhambfgjigneaaGreat
open Go.RowKit
theorem ret40i {fn : Func} {p t : Tmp} {Post : Ending → World → Prop} {tmps : Array Value} {w : World} {g : Nat} {a b c r : Value} (hres : fn.results = #[.cell p 46, .tmp t]) (hp : tmps.getD p undef = .pointer (some ⟨g, 0, none⟩)) (ht : tmps.getD t undef = r) (hb : Blk w g 46 #[a, b, c])
  (hP : Post (.returned (.tuple #[.agg #[a, b, c], r])) w) : bodyPost Tryz.prog fn Post Exit.ret { tmps := tmps, defers := [] } w := by
 refine bodyPost_ret (v := .tuple #[.agg #[a, b, c], r]) ?_ rfl hP
 have hp' : tmps[p]?.getD undef = .pointer (some ⟨g, 0, none⟩) := by simpa using hp
 have ht' : tmps[t]?.getD undef = r := by simpa using ht
 simp [results, hres, hp', ht', asAddr, run_loadVar_row (P := Tryz.prog) w g 46 46 #[a, b, c] (0, 0) _ hb Tryz.underlying46 rfl info40]
theorem boxes_put {w W : World} {g2 g3 g4 : Nat} {x y z x' y' z' a b c a' b' c' r s u : Value} (h : HS w [(g4, 46, #[r, s, u]), (g3, 46, #[x', y', z']), (g2, 46, #[x, y, z])] W) (h2 : w.heap.size ≤ g2) (h3 : w.heap.size ≤ g3) (n23 : g2 ≠ g3) (n24 : g2 ≠ g4) (n34 : g3 ≠ g4) :
  HS w [(g4, 46, #[r, s, u]), (g3, 46, #[a', b', c']), (g2, 46, #[a, b, c])] ((((((W.setCell ⟨g2, 0, none⟩ a).setCell ⟨g2, 1, none⟩ b).setCell ⟨g2, 2, none⟩ c).setCell ⟨g3, 0, none⟩ a').setCell ⟨g3, 1, none⟩ b').setCell ⟨g3, 2, none⟩ c') := by
 have k4 := h.blk 0 rfl
 have k3 := h.blk 1 rfl
 have k2 := h.blk 2 rfl
 have e2 := k2.put3 a b c
 have e3 := ((k3.other (a := ⟨g2, 0, none⟩) n23.symm a).other (a := ⟨g2, 1, none⟩) n23.symm b).other (a := ⟨g2, 2, none⟩) n23.symm c
 have e4 := ((k4.other (a := ⟨g2, 0, none⟩) n24.symm a).other (a := ⟨g2, 1, none⟩) n24.symm b).other (a := ⟨g2, 2, none⟩) n24.symm c
 have f2 := ((e2.other (a := ⟨g3, 0, none⟩) n23 a').other (a := ⟨g3, 1, none⟩) n23 b').other (a := ⟨g3, 2, none⟩) n23 c'
 have f3 := e3.put3 a' b' c'
 have f4 := ((e4.other (a := ⟨g3, 0, none⟩) n34.symm a').other (a := ⟨g3, 1, none⟩) n34.symm b').other (a := ⟨g3, 2, none⟩) n34.symm c'
 refine ⟨fun b hb => ?_, below_put3 (below_put3 h.2 h2 _ _ _) h3 _ _ _⟩
 simp only [List.mem_cons, List.not_mem_nil, or_false] at hb
 rcases hb with rfl | rfl | rfl
 ·exact f4
 ·exact f3
 ·exact f2
theorem ni_box {s : Bool} {A1 A2 : Option Addr} {n1 c1 n2 c2 : Nat} : ∀ u ∈ #[Value.bool s, .slice A1 n1 c1, .slice A2 n2 c2], notInt u = true := by simp [notInt]
theorem FQ.put33 {w : World} {v : Value} {q : Rat} {g2 g3 : Nat} {x y z x' y' z' a b c a' b' c' : Value} (h : FQ w v q) (n23 : g2 ≠ g3) (k2 : Blk w g2 46 #[x, y, z]) (k3 : Blk w g3 46 #[x', y', z']) (m2 : ∀ u ∈ #[x, y, z], notInt u = true) (m3 : ∀ u ∈ #[x', y', z'], notInt u = true) :
  FQ ((((((w.setCell ⟨g2, 0, none⟩ a).setCell ⟨g2, 1, none⟩ b).setCell ⟨g2, 2, none⟩ c).setCell ⟨g3, 0, none⟩ a').setCell ⟨g3, 1, none⟩ b').setCell ⟨g3, 2, none⟩ c') v q :=
 (h.put3 k2 m2 a b c).put3 (((k3.other (a := ⟨g2, 0, none⟩) n23.symm a).other (a := ⟨g2, 1, none⟩) n23.symm b).other (a := ⟨g2, 2, none⟩) n23.symm c) m3 a' b' c'
theorem fq_inv {w : World} {s : Bool} {v1 v2 : Value} {q : Rat} (h : FQ w (.agg #[.bool s, v1, v2]) q) (hq : q ≠ 0) : FQ w (.agg #[.bool s, v2, v1]) q⁻¹ := by
 obtain ⟨e, h1, h2⟩ := FQ.parts h
 subst e
 have hnz : q.num ≠ 0 := fun h => hq (Rat.num_eq_zero.1 h)
 refine ⟨v2, v1, by rw [negQ_inv], ?_, ?_⟩
 ·rw [Rat.num_inv, Int.natAbs_mul, Int.natAbs_sign_of_ne_zero hnz, Nat.one_mul, Int.natAbs_natCast]; exact h2
 ·rw [Rat.den_inv, if_neg hnz]; exact h1
theorem size_inv {q : Rat} (hq : q ≠ 0) : sizeQ q⁻¹ = sizeQ q := by
 have hnz : q.num ≠ 0 := fun h => hq (Rat.num_eq_zero.1 h)
 unfold sizeQ
 rw [Rat.num_inv, Int.natAbs_mul, Int.natAbs_sign_of_ne_zero hnz, Nat.one_mul, Int.natAbs_natCast, Rat.den_inv, if_neg hnz, Nat.add_comm]
def DivPost' (w : World) (p q : Rat) (e : Ending) (w' : World) : Prop := (q = 0 → e = .returned (.tuple #[.agg #[.bool false, .slice none 0 0, .slice none 0 0], .int .i64 11]) ∧ Below w.heap.size w w') ∧ (q ≠ 0 → ∃ v, e = .returned (.tuple #[v, .int .i64 0]) ∧ FQ w' v (capQ (p * q⁻¹)) ∧ Below w.heap.size w w')
set_option maxHeartbeats 16000000 in
set_option maxRecDepth 100000 in
theorem rdiv_calls (w : World) (v v2 : Value) (f g : RawF) (h : FR w v f) (h2 : FR w v2 g) : Calls Tryz.prog 117 #[v, v2] w fun e w' => DivPost' w (fixQ f) (fixQ g) e w' := by
 obtain ⟨A1, k1, c1, A2, k2, c2, rfl, HF⟩ := h.opened
 obtain ⟨A3, k3, c3, A4, k4, c4, rfl, HG⟩ := h2.opened
 clear h h2
 obtain ⟨p, hp⟩ : ∃ q, q = fixQ f := ⟨_, rfl⟩
 obtain ⟨q, hq⟩ : ∃ q, q = fixQ g := ⟨_, rfl⟩
 have hps : sizeQ p ≤ 4096 := by rw [hp]; exact sizeQ_fix f
 have hqs : sizeQ q ≤ 4096 := by rw [hq]; exact sizeQ_fix g
 rw [← hp, ← hq]
 have HP := Hd hp
 have HQ := Hd hq
 clear hp hq
 go_enter Tryz.func117, Tryz.ntmps117
 go_wp2_with fail
 have H0 := Hd (HS.three (w := w) #[.bool f.neg, .slice A1 k1 c1, .slice A2 k2 c2] #[.bool g.neg, .slice A3 k3 c3, .slice A4 k4 c4] #[.bool false, .slice none 0 0, .slice none 0 0] 46 46 46)
 generalize ((w.alloc (.cells #[.bool f.neg, .slice A1 k1 c1, .slice A2 k2 c2] 46)).alloc (.cells #[.bool g.neg, .slice A3 k3 c3, .slice A4 k4 c4] 46)).alloc (.cells #[.bool false, .slice none 0 0, .slice none 0 0] 46) = W0 at *
 obtain ⟨x0, x1, x2⟩ := (H0.out.blk 2 rfl).c3
 obtain ⟨y0, y1, y2⟩ := (H0.out.blk 1 rfl).c3
 have hlt0 := (H0.out.blk 0 rfl).lt
 have hlt1 := (H0.out.blk 1 rfl).lt
 have hlt2 := (H0.out.blk 2 rfl).lt
 refine wp_chainF (l := [_, _, _, _, _, _]) (S := Below W0.heap.size W0) 4 [([0, 2], 1), ([], 3)] [] (by kernel_rfl) (by kernel_rfl) (by kernel_rfl) rfl (Below.drew (Below.refl _ _)) ?_
 refine ⟨?_, _, ?_, rfl, ?_⟩
 rotate_left
 ·repeat (refine ⟨_, ?_, rfl, Or.inl ⟨by rfl, ?_⟩, ?_⟩; rotate_left; focus (intro W hW; replace hW := (bcell hW).1; go_simp; try with_reducible rfl); (try simp only [SQ]))
  exact rfl
 have HB0 : Hid (Below W0.heap.size W0 W0.drew) := Below.drew (Below.refl _ _)
 have HB00 := Hd (below_next H0.out.2 HB0.out)
 go_wp2_with fail
 refine (rfix_calls _ _ f (HF.out.of_below HB00.out)).mono ?_
 rintro e w1 ⟨v, rfl, hv, hb⟩
 rw [← HP.out] at hv
 have HB1 := Hd (below_next HB0.out hb)
 have HB01 := Hd (below_next H0.out.2 HB1.out)
 obtain ⟨A5, n5, c5, A6, n6, c6, rfl, HV1⟩ := hv.opened
 clear hv hb
 go_wp2_with fail
 refine And.intro HB1.out ⟨_, _, rfl, rfl, ?_⟩
 go_wp2_with fail
 refine (rfix_calls _ _ g (HG.out.of_below HB01.out)).mono ?_
 rintro e w2 ⟨v, rfl, hv, hb⟩
 rw [← HQ.out] at hv
 have HB2 := Hd (below_next HB1.out hb)
 have HV1' := Hd (HV1.out.of_below hb)
 obtain ⟨A7, n7, c7, A8, n8, c8, rfl, HV2⟩ := hv.opened
 have H2 := Hd (H0.out.step HB2.out)
 obtain ⟨sp, hsp⟩ : ∃ s, s = negQ p := ⟨_, rfl⟩
 obtain ⟨sq, hsq⟩ : ∃ s, s = negQ q := ⟨_, rfl⟩
 rw [← hsp] at HV1' ⊢
 rw [← hsq] at HV2 ⊢
 have HL7 : Hid (n7 = wlen q.num.natAbs) := by have := HV2.out; exact FQ.len this
 clear hv hb hsp hsq
 obtain ⟨x0, x1, x2⟩ := (H2.out.blk 2 rfl).c3
 obtain ⟨y0, y1, y2⟩ := (H2.out.blk 1 rfl).c3
 obtain ⟨f0, f1, f2⟩ := (H2.out.blk 2 rfl).f3
 obtain ⟨f3, f4, f5⟩ := (H2.out.blk 1 rfl).f3
 go_wp2_with fail
 refine And.intro HB2.out ⟨_, rfl, ?_⟩
 go_wp2_with fail
 refine NoPanic.normal ?_
 have H3 := Hd (boxes_put (a := .bool sp) (b := .slice A5 n5 c5) (c := .slice A6 n6 c6) (a' := .bool sq) (b' := .slice A7 n7 c7) (c' := .slice A8 n8 c8) H2.out (by omega) (by omega) (by omega) (by omega) (by omega))
 have HP3 := Hd (HV1'.out.put33 (a := .bool sp) (b := .slice A5 n5 c5) (c := .slice A6 n6 c6) (a' := .bool sq) (b' := .slice A7 n7 c7) (c' := .slice A8 n8 c8) (by omega) (H2.out.blk 2 rfl) (H2.out.blk 1 rfl) ni_box ni_box)
 have HQ3 := Hd (HV2.out.put33 (a := .bool sp) (b := .slice A5 n5 c5) (c := .slice A6 n6 c6) (a' := .bool sq) (b' := .slice A7 n7 c7) (c' := .slice A8 n8 c8) (by omega) (H2.out.blk 2 rfl) (H2.out.blk 1 rfl) ni_box ni_box)
 clear x0 x1 x2 y0 y1 y2 f0 f1 f2 f3 f4 f5 hlt0 hlt1 hlt2
 generalize (((((w2.setCell ⟨w.heap.size, 0, none⟩ (.bool sp)).setCell ⟨w.heap.size, 1, none⟩ (.slice A5 n5 c5)).setCell ⟨w.heap.size, 2, none⟩ (.slice A6 n6 c6)).setCell ⟨w.heap.size + 1, 0, none⟩ (.bool sq)).setCell ⟨w.heap.size + 1, 1, none⟩ (.slice A7 n7 c7)).setCell ⟨w.heap.size + 1, 2, none⟩ (.slice A8 n8 c8) = W3 at *
 obtain ⟨x0, x1, x2⟩ := (H3.out.blk 2 rfl).c3
 obtain ⟨y0, y1, y2⟩ := (H3.out.blk 1 rfl).c3
 obtain ⟨e0, e1, e2⟩ := (H3.out.blk 0 rfl).c3
 obtain ⟨f0, f1, f2⟩ := (H3.out.blk 0 rfl).f3
 by_cases h0 : n7 = 0
 ·have q0 := eqb0 h0
  have hq0 : q = 0 := Rat.num_eq_zero.1 (signQ_num (by rw [← HL7.out]; exact h0))
  have HQ0 := Hd hq0
  clear h0 hq0
  go_wp2_with fail
  refine ret40i Tryz.results117 rfl rfl ((H3.out.blk 0 rfl).put3 _ _ _) ⟨fun _ => ⟨rfl, below_put3 H3.out.2 (by omega) _ _ _⟩, fun h => absurd HQ0.out h⟩
 ·have q0 := neb0 h0
  have hq0 : q ≠ 0 := by
   rintro rfl
   exact h0 (by rw [HL7.out]; rfl)
  have HQ0 := Hd hq0
  clear h0 hq0
  go_wp2_with fail
  refine (rproduct_calls _ _ _ p q⁻¹ HP3.out (fq_inv HQ3.out HQ0.out) (by omega) (by rw [size_inv HQ0.out]; omega)).mono ?_
  rintro e w4 ⟨v, rfl, hv, hb⟩
  obtain ⟨A9, n9, c9, A10, n10, c10, rfl, HV4⟩ := hv.opened
  have H4 := Hd (H3.out.step hb)
  clear hv hb
  obtain ⟨e0, e1, e2⟩ := (H4.out.blk 0 rfl).c3
  obtain ⟨f0, f1, f2⟩ := (H4.out.blk 0 rfl).f3
  go_wp2_with fail
  refine ret40i Tryz.results117 rfl rfl ((H4.out.blk 0 rfl).put3 _ _ _) ⟨fun h => absurd h HQ0.out, fun _ => ⟨_, rfl, HV4.out.put3 (H4.out.blk 0 rfl) ni40 _ _ _, below_put3 H4.out.2 (by omega) _ _ _⟩⟩
theorem rat_inv_one : ((1 : Rat))⁻¹ = 1 := by
 have h := Rat.mul_inv_cancel (1 : Rat) (by decide)
 rwa [Rat.one_mul] at h
theorem size_int (n : Int) (h0 : -9223372036854775808 ≤ n) (h1 : n < 9223372036854775808) : sizeQ (n : Rat) ≤ 3 := by
 unfold sizeQ
 have a : wlen n.natAbs ≤ 2 := dg_len_two.2 (by omega)
 have b : wlen 1 = 1 := by decide
 show wlen n.natAbs + wlen 1 ≤ 3
 omega
set_option maxHeartbeats 16000000 in
set_option maxRecDepth 100000 in
theorem rmake_calls (w : World) (n : Int) (h0 : -9223372036854775808 ≤ n) (h1 : n < 9223372036854775808) :
  Calls Tryz.prog 114 #[.int .i64 n, .int .i64 1] w fun e w' => ∃ v, e = .returned (.tuple #[v, .int .i64 0]) ∧ FQ w' v (n : Rat) ∧ Below w.heap.size w w' := by
 go_enter Tryz.func114, Tryz.ntmps114
 go_wp2_with fail
 have H0 := Hd (HS.one (w := w) #[.bool false, .slice none 0 0, .slice none 0 0] 46)
 generalize w.alloc (.cells #[.bool false, .slice none 0 0, .slice none 0 0] 46) = W0 at *
 refine (rint_calls W0 n h0 h1).mono ?_
 rintro e w1 ⟨v, rfl, hv, hb⟩
 have H1 := Hd (H0.out.step hb)
 have HV := Hd hv
 clear hv hb
 go_wp2_with fail
 refine (rint_calls w1 1 (by omega) (by omega)).mono ?_
 rintro e w2 ⟨v2, rfl, hv, hb⟩
 have H2 := Hd (H1.out.step hb)
 have HV1 := Hd (HV.out.of_below hb)
 have HV2 := Hd hv
 clear hv hb
 go_wp2_with fail
 refine (rdiv_calls w2 v v2 (rawQ (n : Rat)) (rawQ ((1 : Int) : Rat)) (FR.of_fq HV1.out (by have := size_int n h0 h1; omega)) (FR.of_fq HV2.out (by have := size_int 1 (by omega) (by omega); omega))).mono ?_
 rintro e w3 ⟨_, hd⟩
 rw [fixQ_raw (n : Rat) (by have := size_int n h0 h1; omega), fixQ_raw ((1 : Int) : Rat) (by have := size_int 1 (by omega) (by omega); omega)] at hd
 have hone : ((1 : Int) : Rat) = 1 := rfl
 obtain ⟨v3, rfl, hv, hb⟩ := hd (by rw [hone]; decide)
 have e1 : capQ ((n : Rat) * (((1 : Int) : Rat))⁻¹) = (n : Rat) := by
  rw [hone, show ((1 : Rat))⁻¹ = 1 from rat_inv_one, Rat.mul_one]
  unfold capQ
  rw [if_pos (by have := size_int n h0 h1; omega)]
 rw [e1] at hv
 have HE := Hd e1
 clear e1 hone hd
 obtain ⟨A5, n5, c5, A6, n6, c6, rfl, HV3⟩ := hv.opened
 have H3 := Hd (H2.out.step hb)
 clear hv hb
 obtain ⟨f0, f1, f2⟩ := (H3.out.blk 0 rfl).f3
 obtain ⟨x0, x1, x2⟩ := (H3.out.blk 0 rfl).c3
 go_wp2_with fail
 refine ret40i Tryz.results114 rfl rfl ((H3.out.blk 0 rfl).put3 _ _ _) ⟨_, rfl, HV3.out.put3 (H3.out.blk 0 rfl) ni40 _ _ _, below_put3 H3.out.2 (by omega) _ _ _⟩
set_option maxHeartbeats 16000000 in
set_option maxRecDepth 100000 in
theorem rwhole_calls (w : World) (n : Int) (h0 : -9223372036854775808 ≤ n) (h1 : n < 9223372036854775808) :
  Calls Tryz.prog 60 #[.int .i64 n] w fun e w' => FPost w (n : Rat) e w' := by
 go_enter Tryz.func60, Tryz.ntmps60
 go_wp2_with fail
 have H0 := Hd (HS.one (w := w) #[.bool false, .slice none 0 0, .slice none 0 0] 46)
 generalize w.alloc (.cells #[.bool false, .slice none 0 0, .slice none 0 0] 46) = W0 at *
 refine (rmake_calls W0 n h0 h1).mono ?_
 rintro e w1 ⟨v, rfl, hv, hb⟩
 obtain ⟨A5, n5, c5, A6, n6, c6, rfl, HV⟩ := hv.opened
 have H1 := Hd (H0.out.step hb)
 have HB2 := Hd (below_new w1 (.cells #[.bool (negQ (n : Rat)), .slice A5 n5 c5, .slice A6 n6 c6] 46))
 have H2 := Hd (H1.out.step HB2.out)
 have HV2 := Hd (HV.of_below HB2.out)
 clear hv hb HV
 obtain ⟨f0, f1, f2⟩ := (H2.out.blk 0 rfl).f3
 obtain ⟨x0, x1, x2⟩ := (H2.out.blk 0 rfl).c3
 go_wp2_with fail
 exact end40 Tryz.results60 rfl (H2.out.blk 0 rfl) HV2.out (Nat.le_refl _) H2.out.2
theorem HS.swap {w W : World} {a b : Nat × Nat × Array Value} (h : HS w [a, b] W) : HS w [b, a] W :=
 ⟨fun c hm => h.1 c (by
  rcases List.mem_cons.1 hm with e | e
  ·rw [e]; exact List.mem_cons_of_mem _ (List.mem_singleton.2 rfl)
  ·rw [List.mem_singleton.1 e]; exact List.mem_cons_self), h.2⟩
theorem OL.push1 {α : Type} {k e : Nat} {E : World → Array Value → α → Prop} {base : Nat} {w w1 : World} {v v' : Value} {ys : List α} {vs : Array Value} {b : α} {xs : List Value} (hE : Leans E) (h1 : OwnR w base e k v ys.length xs) (h2 : ∀ j a, ys[j]? = some a → ∃ vs : Array Value, vs.size = k ∧ (∀ i u, vs[i]? = some u → xs[j * k + i]? = some u) ∧ E w vs a)
  (hv : vs.size = k) (hb : E w vs b) (hk : Keeps w w1) (hown : OwnR w1 base e k v' (ys.length + 1) (xs ++ vs.toList)) : OL k e E base w1 v' (ys ++ [b]) := by
 refine ⟨xs ++ vs.toList, by rw [List.length_append]; exact hown, fun j a hj => ?_⟩
 rw [List.getElem?_append] at hj
 split at hj
 ·obtain ⟨us, h3, h4, h5⟩ := h2 j a hj
  refine ⟨us, h3, fun i u hi => ?_, hE _ _ _ _ h5 hk⟩
  have h6 := h4 i u hi
  rw [List.getElem?_append_left (List.getElem?_eq_some_iff.1 h6).1]
  exact h6
 ·have h0 : j - ys.length = 0 := by
   have := (List.getElem?_eq_some_iff.1 hj).1
   simp at this
   omega
  rw [h0] at hj
  have hba : b = a := by simpa using hj
  subst hba
  obtain rfl : j = ys.length := by omega
  refine ⟨vs, hv, fun i u hi => ?_, hE _ _ _ _ hb hk⟩
  rw [← h1.1, List.getElem?_append_right (by omega), Nat.add_sub_cancel_left]
  simpa using hi
def EFQ (w : World) (vs : Array Value) (q : Rat) : Prop := FQ w (.agg vs) q
theorem EFQ.stays : Stays EFQ := fun _ _ _ _ h hb => FQ.of_below h hb
theorem EFQ.leans : Leans EFQ := fun _ _ _ _ h hk => FQ.keeps h hk
theorem EFQ.far : Far EFQ := fun w w1 vs x g t cs h hb hn hs hk => by
 obtain ⟨v1, v2, e, h1, h2⟩ := h
 exact ⟨v1, v2, e, Rd.apart h1 hb hn hs hk, Rd.apart h2 hb hn hs hk⟩
theorem notWord_of_notInt {v : Value} (h : notInt v = true) : notWord v = true := by
 cases v <;> first | rfl | (simp [notInt] at h)
abbrev QO (base : Nat) (w : World) (v : Value) (qs : List Rat) : Prop := OL 3 46 EFQ base w v qs
theorem Row3.own {w : World} {g n base : Nat} {qs : List Rat} (h : Row3 46 EFQ w g n qs) (hn : qs.length = n) (hb : base ≤ g) (hm : n ≤ maxLen) : QO base w (.slice (some ⟨g, 0, none⟩) n n) qs := by
 obtain ⟨cs, hk, hs, hcn, hl, he⟩ := h
 refine ⟨cs.toList, ⟨by simpa [hn] using hs, .inr ⟨g, n, cs, by rw [hn], hb, hk, by omega, hm, hs, ?_, fun u hu => notWord_of_notInt (hcn u hu)⟩⟩, fun j x hj => ?_⟩
 ·rw [hn, ← hs, ← Array.length_toList, List.take_length]
 ·obtain ⟨a, b, c, h0, h1, h2, h3⟩ := he j x hj
  refine ⟨#[a, b, c], rfl, fun i u hi => ?_, h3⟩
  have hi3 : i < 3 := (Array.getElem?_eq_some_iff.1 hi).1
  match i, hi3 with
  | 0, _ => rw [show u = a by simpa using hi.symm]; simpa using h0
  | 1, _ => rw [show u = b by simpa using hi.symm]; simpa using h1
  | 2, _ => rw [show u = c by simpa using hi.symm]; simpa using h2
def LPost (w : World) (qs : List Rat) (e : Ending) (w' : World) : Prop := ∃ v, e = .returned v ∧ QO w.heap.size w' v qs ∧ Below w.heap.size w w'
theorem ofNilQ (w : World) : QO w.heap.size w (.slice none 0 0) [] := OL.nil _ _ _ _ _
theorem wpl_appendQ {ops : Array Oper} {rest : List Oper} {o : Oper} {a : Act} {Q : Exit → Act → World → Prop} {W : World} (hgd : o.guard = none) (s x : Operand) (ho : o.op = .call { callee := .builtin .append, args := #[s, x], argTypes := #[23, 23] }) {base : Nat}
  (v : Value) (fs : List Rat) (hs : a.eval s = v) (hown : QO base W v fs) {g : Nat} {b : Bool} {A1 A2 : Option Addr} {n1 c1 n2 c2 : Nat} (f : Rat) (hx : a.eval x = .slice (some ⟨g, 0, none⟩) 1 1) (hk : Blk W g 46 #[.bool b, .slice A1 n1 c1, .slice A2 n2 c2]) (hf : FQ W (.agg #[.bool b, .slice A1 n1 c1, .slice A2 n2 c2]) f)
  (hl : fs.length ≤ 1000000000) (hbase : base ≤ W.heap.size)
  (h : ∀ v' w', QO base w' v' (fs ++ [f]) → W.grownBy w' v.ownBlock → Keeps W w' → (∀ g, v'.ownBlock = some g → v.ownBlock = some g ∨ W.heap.size ≤ g) → wpList Tryz.prog ops Q rest (a.put o.dst v') w') : wpList Tryz.prog ops Q (o :: rest) a W := by
 obtain ⟨xs, h1, h2⟩ := hown
 refine wpl_appendR hgd s x 23 ho (base := base) zeroF 56 Tryz.underlying23 info40z rfl zeroF_words v fs.length xs hs h1 ⟨g, 0, none⟩ 1 1 [.bool b, .slice A1 n1 c1, .slice A2 n2 c2] hx rfl (lit_cells hk) frac_one frac_word (by decide) (by omega) (by omega) hbase fun v' w' h3 h4 h5 h6 => h v' w' ?_ h4 h5 h6
 exact OL.push1 EFQ.leans (k := 3) (e := 46) (vs := #[.bool b, .slice A1 n1 c1, .slice A2 n2 c2]) h1 h2 rfl hf h5 h3
set_option maxHeartbeats 16000000 in
set_option maxRecDepth 100000 in
theorem fixed_calls (w : World) (v : Value) (fs : List RawF) (h : FL w v fs) (hl : fs.length ≤ 1000000000) : Calls Tryz.prog 103 #[v] w fun e w' => LPost w (fs.map fixQ) e w' := by
 obtain ⟨A, c, rfl, hc⟩ := h.slice
 have HF := Hd h
 clear h
 go_enter Tryz.func103, Tryz.ntmps103
 have hmk := run_make3 23 46 _ Tryz.underlying23 info40m fs.length (by omega)
 go_wp2_with fail
 clear hmk
 have hr0 := Row3.made (E := EFQ) w 46 fs.length #[.bool false, .slice none 0 0, .slice none 0 0] rfl ni40
 have hb0 := below_new w (.cells (madeCells #[.bool false, .slice none 0 0, .slice none 0 0] (fs.length * 3)) 46)
 generalize w.alloc (.cells (madeCells #[.bool false, .slice none 0 0, .slice none 0 0] (fs.length * 3)) 46) = W0 at *
 go_loopw [11] (fun vi wr => ∃ i : Nat, i ≤ fs.length ∧ vi = .int .i64 (i : Int) ∧ Row3 46 EFQ wr w.heap.size fs.length ((fs.take i).map fixQ) ∧ Below w.heap.size w wr) (fun vi _ => fs.length - (intOf vi).toNat)
 case atStart => exact ⟨0, Nat.zero_le _, rfl, hr0, hb0⟩
 case round =>
  obtain ⟨i, hi, rfl, hrow, hb⟩ := hrel
  have HRW := Hd hrow
  have HB := Hd hb
  clear hrow hb hr0 hb0
  by_cases hlt : i < fs.length
  ·obtain ⟨f, hf⟩ : ∃ f, fs[i]? = some f := ⟨fs[i], List.getElem?_eq_getElem hlt⟩
   obtain ⟨g, o, A1, n1, c1, A2, n2, c2, rfl, hg, k0, k1, k2, HE⟩ := FL.at3 (HF.out.below EF.stays HB.out) hf
   have HFI := Hd hf
   clear hf
   have m1 : (i : Int) < (fs.length : Int) := by omega
   have m3 : (i : Int).toNat = i := by omega
   have m4 : (0 : Int) ≤ (i : Int) := by omega
   go_wp2_with fail
   have hb1 := below_new wr (.cells #[.bool f.neg, .slice A1 n1 c1, .slice A2 n2 c2] 46)
   refine (fix_calls _ _ f (HE.out.of_below hb1)).mono ?_
   rintro e w2 ⟨v, rfl, hv, hb2⟩
   obtain ⟨A5, n5, c5, A6, n6, c6, rfl, HV⟩ := hv.opened
   have HRW2 := Hd (HRW.out.below EFQ.stays (below_next hb1 hb2))
   have HB2 := Hd (below_next HB.out (below_next hb1 hb2))
   clear hv hb1 hb2
   obtain ⟨a, b, d, e0, e1, e2, f0, f1, f2⟩ := HRW2.out.cells i hlt
   go_wp2_with fail
   go_roundw
   case rel =>
    have hlen : ((fs.take i).map fixQ).length = i := by rw [List.length_map, List.length_take, Nat.min_eq_left hi]
    refine ⟨i + 1, by omega, by go_num, ?_, ?_⟩
    ·have := HRW2.out.push EFQ.far (by rw [hlen]; exact hlt) HV.out (by simp [notInt])
     rw [hlen] at this
     rw [List.take_add_one, HFI.out, List.map_append]
     exact this
    ·exact Below.setCell (Below.setCell (Below.setCell HB2.out (Nat.le_refl _) _) (Nat.le_refl _) _) (Nat.le_refl _) _
   case measure => simp [intOf]; omega
  ·obtain rfl : i = fs.length := by omega
   go_wp2_with fail
   go_ret
   rw [List.take_length] at HRW
   exact ⟨_, rfl, Row3.own HRW.out (by simp) (Nat.le_refl _) (by unfold maxLen; omega), HB.out⟩
theorem below_none {B : Nat} {w W W' : World} {row : Option Nat} (h : Below B w W) (hg : W.grownBy W' row) (hr : ∀ k, row = some k → B ≤ k) (hB : B ≤ w.heap.size := by exact Nat.le_refl _) : Below B w W' :=
 ⟨hg.os.trans h.os, hg.tape.trans h.tape, hg.output.trans h.output, Nat.le_trans h.size hg.size, fun k hk => (hg.block k (by have := h.size; omega) (fun e => by have := hr k e.symm; omega)).trans (h.block k hk)⟩
set_option maxHeartbeats 16000000 in
set_option maxRecDepth 100000 in
theorem rclean_calls (w : World) (v : Value) (fs : List RawF) (h : FL w v fs) (hl : fs.length ≤ 1000000000) : Calls Tryz.prog 115 #[v] w fun e w' => LPost w (fs.map fixQ) e w' := by
 obtain ⟨A, c, rfl, hc⟩ := h.slice
 have HF := Hd h
 clear h
 go_enter Tryz.func115, Tryz.ntmps115
 go_wp2_with fail
 go_loopw [3, 8] (fun v3 vi wr => ∃ i : Nat, i ≤ fs.length ∧ vi = .int .i64 (i : Int) ∧ QO w.heap.size wr v3 ((fs.take i).map fixQ) ∧ Below w.heap.size w wr) (fun _ vi _ => fs.length - (intOf vi).toNat)
 case atStart => exact ⟨0, Nat.zero_le _, rfl, ofNilQ w, Below.refl _ _⟩
 case round =>
  obtain ⟨i, hi, rfl, ho, hb⟩ := hrel
  have HO := Hd ho
  have HB := Hd hb
  obtain ⟨A3, c3, hv3, _⟩ := ho.slice
  have hlen : ((fs.take i).map fixQ).length = i := by rw [List.length_map, List.length_take, Nat.min_eq_left hi]
  rw [hlen] at hv3
  subst hv3
  clear ho hb
  by_cases hlt : i < fs.length
  ·obtain ⟨f, hf⟩ : ∃ f, fs[i]? = some f := ⟨fs[i], List.getElem?_eq_getElem hlt⟩
   obtain ⟨g, o, A1, n1, c1, A2, n2, c2, rfl, hg, k0, k1, k2, HE⟩ := FL.at3 (HF.out.below EF.stays HB.out) hf
   have HNX : Hid ((fs.take (i + 1)).map fixQ = (fs.take i).map fixQ ++ [fixQ f]) := by
    unfold Hid
    rw [List.take_add_one, hf, List.map_append]
    rfl
   clear hf
   have m1 : (i : Int) < (fs.length : Int) := by omega
   have m3 : (i : Int).toNat = i := by omega
   have m4 : (0 : Int) ≤ (i : Int) := by omega
   obtain ⟨xl, hxl⟩ : ∃ xl, xl = (fs.take i).map fixQ := ⟨_, rfl⟩
   rw [← hxl] at HO HNX hlen
   have hll : xl.length ≤ 1000000000 := by omega
   clear hxl hlen
   go_wp2_with fail
   focus
    refine (rfix_calls _ _ f (HE.out.of_below (below_new _ _))).mono ?_
    rintro e w2 ⟨v, rfl, hv, hb⟩
    obtain ⟨A5, n5, c5, A6, n6, c6, rfl, HV⟩ := hv.opened
    have HO2 := Hd ((HO.out.below EFQ.stays (below_new _ (.cells #[.bool f.neg, .slice A1 n1 c1, .slice A2 n2 c2] 46))).below EFQ.stays hb)
    have HB2 := Hd (below_next (below_next HB.out (below_new wr (.cells #[.bool f.neg, .slice A1 n1 c1, .slice A2 n2 c2] 46))) hb)
    clear hv hb
    have hsz : w.heap.size ≤ w2.heap.size := HB2.out.size
    go_wp2_with (at_builtin; refine wpl_appendQ rfl (.tmp 12) (.tmp 15) rfl (base := w.heap.size) (.slice A3 i c3) xl rfl (HO2.out.below EFQ.stays (below_new _ _)) (fixQ f) rfl (Blk.newAt (by simp)) (HV.out.of_below (below_new _ _)) hll (by simp; omega) ?_; intro v6 w6 hown6 hg6 hk6 hb6)
    have HO6 := Hd hown6
    have HB6 := Hd (below_none (below_next HB2.out (below_new _ _)) hg6 (fun k hk => (HO2.out.lt k hk).1))
    clear hown6 hg6 hk6 hb6
    go_wp2_with fail
    go_roundw
    case rel => exact ⟨i + 1, by omega, by go_num, by rw [HNX.out]; exact HO6.out, HB6.out⟩
    case measure => simp [intOf]; omega
  ·obtain rfl : i = fs.length := by omega
   rw [List.take_length] at HO
   go_wp2_with fail
   go_ret
   exact ⟨_, rfl, HO.out, HB.out⟩
def Chg (base t : Nat) (w w1 : World) : Prop := Keeps w w1 ∧ ∀ k, k < w.heap.size → (k < base ∨ ∀ cs, ¬ Blk w k t cs) → w1.heap[k]? = w.heap[k]?
theorem Chg.of_below {base t : Nat} {w w1 : World} (h : Below w.heap.size w w1) : Chg base t w w1 := ⟨Keeps.of_below h, fun k hk _ => h.block k hk⟩
theorem Chg.trans {base t : Nat} {a b c : World} (h : Chg base t a b) (h2 : Chg base t b c) : Chg base t a c := ⟨h.1.trans h2.1, fun k hk ho => by
 have e1 := h.2 k hk ho
 refine (h2.2 k (Nat.lt_of_lt_of_le hk h.1.1) ?_).trans e1
 rcases ho with h3 | h3
 ·exact .inl h3
 ·exact .inr fun cs hb => h3 cs (e1.symm.trans hb)⟩
theorem Chg.own {base t g : Nat} {w w1 : World} {cs : Array Value} (hb : Blk w g t cs) (hg : base ≤ g) (hk : Keeps w w1) (ho : ∀ k, k < w.heap.size → k ≠ g → w1.heap[k]? = w.heap[k]?) : Chg base t w w1 := ⟨hk, fun k hkl h => ho k hkl (by
 rintro rfl
 rcases h with h | h
 ·omega
 ·exact h cs hb)⟩
theorem OwnR.chg {base t e k : Nat} {w w1 : World} {v : Value} {n : Nat} {xs : List Value} (h : OwnR w base e k v n xs) (hc : Chg base t w w1) (hne : e ≠ t) : OwnR w1 base e k v n xs := by
 refine h.move fun g hg => hc.2 g (h.lt g hg).2 (.inr fun cs hb => ?_)
 rcases h.2 with ⟨rfl, _⟩ | ⟨g', cap, cur, rfl, _, hk, _⟩
 ·simp [Value.ownBlock] at hg
 ·simp [Value.ownBlock] at hg
  subst hg
  have := hk.symm.trans hb
  injection this with this
  injection this with _ h2
  exact hne h2
theorem OwnR.changes {base t k : Nat} {w w1 : World} {v : Value} {n : Nat} {xs : List Value} (h : OwnR w base t k v n xs) (hg : w.grownBy w1 v.ownBlock) (hk : Keeps w w1) : Chg base t w w1 := by
 rcases h.2 with ⟨rfl, _⟩ | ⟨g', cap, cur, rfl, hb, hbl, _⟩
 ·exact ⟨hk, fun k hkl _ => hg.block k hkl (by simp [Value.ownBlock])⟩
 ·exact Chg.own hbl hb hk fun k hkl hne => hg.block k hkl (by simp [Value.ownBlock]; exact hne)
theorem HS.chg {base t : Nat} {w W W1 : World} {bs : List (Nat × Nat × Array Value)} (h : HS w bs W) (hc : Chg base t W W1) (hb : ∀ b ∈ bs, b.2.1 ≠ t) (hbase : base = w.heap.size) (hw : W.os = W1.os ∧ W.tape = W1.tape ∧ W.output = W1.output) : HS w bs W1 := by
 subst hbase
 refine ⟨fun b hm => (hc.2 b.1 (h.1 b hm).lt (.inr fun cs hbl => ?_)).trans (h.1 b hm), ⟨hw.1.symm.trans h.2.os, hw.2.1.symm.trans h.2.tape, hw.2.2.symm.trans h.2.output, Nat.le_trans h.2.size hc.1.1, fun k hk => (hc.2 k (Nat.lt_of_lt_of_le hk h.2.size) (.inl hk)).trans (h.2.block k hk)⟩⟩
 have := (h.1 b hm).symm.trans hbl
 injection this with this
 injection this with _ h2
 exact hb b hm h2
def LeansT {α : Type} (base t : Nat) (E : World → Array Value → α → Prop) : Prop := ∀ w w1 vs x, E w vs x → Chg base t w w1 → E w1 vs x
theorem QO.chg {base t : Nat} {w w1 : World} {v : Value} {qs : List Rat} (h : QO base w v qs) (hc : Chg base t w w1) (hne : 46 ≠ t) : QO base w1 v qs := by
 obtain ⟨xs, h1, h2⟩ := h
 refine ⟨xs, h1.chg hc hne, fun j a hj => ?_⟩
 obtain ⟨vs, h3, h4, h5⟩ := h2 j a hj
 exact ⟨vs, h3, h4, EFQ.leans _ _ _ _ h5 hc.1⟩
structure RowQ where
 a : List Rat
 s : Int
 b : Rat
structure ProgQ where
 vars : Int
 free : List Bool
 goal : List Rat
 rows : List RowQ
def ERO (base : Nat) (w : World) (vs : Array Value) (r : RowQ) : Prop := ∃ v A1 n1 c1 A2 n2 c2, vs = #[v, .int .i64 r.s, .bool (negQ r.b), .slice A1 n1 c1, .slice A2 n2 c2] ∧ I64 r.s ∧ QO base w v r.a ∧ FQ w (.agg #[.bool (negQ r.b), .slice A1 n1 c1, .slice A2 n2 c2]) r.b
theorem ERO.stays {base : Nat} : Stays (ERO base) := fun _ _ _ _ h hb => by
 obtain ⟨v, A1, n1, c1, A2, n2, c2, e, hs, h1, h2⟩ := h
 exact ⟨v, A1, n1, c1, A2, n2, c2, e, hs, h1.below EFQ.stays hb, h2.of_below hb⟩
theorem ERO.leans {base t : Nat} (hne : 46 ≠ t) : LeansT base t (ERO base) := fun _ _ _ _ h hc => by
 obtain ⟨v, A1, n1, c1, A2, n2, c2, e, hs, h1, h2⟩ := h
 exact ⟨v, A1, n1, c1, A2, n2, c2, e, hs, h1.chg hc hne, h2.keeps hc.1⟩
abbrev RO (base : Nat) (w : World) (v : Value) (rs : List RowQ) : Prop := OL 5 73 (ERO base) base w v rs
theorem RO.chg {base t : Nat} {w w1 : World} {v : Value} {rs : List RowQ} (h : RO base w v rs) (hc : Chg base t w w1) (hne : 46 ≠ t) (hne2 : 73 ≠ t) : RO base w1 v rs := by
 obtain ⟨xs, h1, h2⟩ := h
 refine ⟨xs, h1.chg hc hne2, fun j a hj => ?_⟩
 obtain ⟨vs, h3, h4, h5⟩ := h2 j a hj
 exact ⟨vs, h3, h4, ERO.leans hne _ _ _ _ h5 hc⟩
def FrO (base : Nat) (w : World) (v : Value) (bs : List Bool) : Prop := BL w v bs ∧ ∀ g, v.ownBlock = some g → 0 < bs.length → g < base ∨ ∃ cs, Blk w g 4 cs
theorem FrO.below {base : Nat} {w w1 : World} {v : Value} {bs : List Bool} (h : FrO base w v bs) (hb : Below w.heap.size w w1) : FrO base w1 v bs := ⟨h.1.below EB.stays hb, fun g hg hp => by
 rcases h.2 g hg hp with h1 | ⟨cs, h1⟩
 ·exact .inl h1
 ·exact .inr ⟨cs, h1.below hb h1.lt⟩⟩
theorem FrO.chg {bf base t : Nat} {w w1 : World} {v : Value} {bs : List Bool} (h : FrO bf w v bs) (hc : Chg base t w w1) (hne : 4 ≠ t) (hbf : bf ≤ base := by first | exact Nat.zero_le _ | exact Nat.le_refl _) : FrO bf w1 v bs := by
 obtain ⟨⟨A, c, rfl, hcl, hr⟩, ho⟩ := h
 have key : ∀ g o, A = some ⟨g, o, none⟩ → 0 < bs.length → g < w.heap.size → w1.heap[g]? = w.heap[g]? := fun g o hA hp hg => hc.2 g hg (by
  rcases ho g (by rw [hA]; rfl) hp with h1 | ⟨cs, h1⟩
  ·exact .inl (Nat.lt_of_lt_of_le h1 hbf)
  ·refine .inr fun cs' hb => ?_
   have := h1.symm.trans hb
   injection this with this
   injection this with _ h2
   exact hne h2)
 refine ⟨⟨A, c, rfl, hcl, fun hp => ?_⟩, fun g hg hp => ?_⟩
 ·obtain ⟨g, o, hA, hg, he⟩ := hr hp
  refine ⟨g, o, hA, Nat.lt_of_lt_of_le hg hc.1.1, fun j x hj => ?_⟩
  obtain ⟨vs, h1, h2, h3⟩ := he j x hj
  exact ⟨vs, h1, fun i u hi => (World.cell?_of_block (a := ⟨g, _, none⟩) (key g o hA hp hg)).trans (h2 i u hi), h3⟩
 ·rcases ho g hg hp with h1 | ⟨cs, h1⟩
  ·exact .inl h1
  ·refine .inr ⟨cs, ?_⟩
   obtain ⟨g', o, hA, hg', _⟩ := hr hp
   have e : g = g' := by rw [hA] at hg; simp [Value.ownBlock] at hg; exact hg.symm
   subst e
   exact (key g o hA hp hg').trans h1
def PO (base : Nat) (w : World) (v : Value) (p : ProgQ) : Prop := ∃ v1 v2 v3, v = .agg #[.int .i64 p.vars, v1, v2, v3] ∧ I64 p.vars ∧ FrO base w v1 p.free ∧ QO base w v2 p.goal ∧ RO base w v3 p.rows
theorem PO.below {base : Nat} {w w1 : World} {v : Value} {p : ProgQ} (h : PO base w v p) (hb : Below w.heap.size w w1) : PO base w1 v p := by
 obtain ⟨v1, v2, v3, e, hv, h1, h2, h3⟩ := h
 exact ⟨v1, v2, v3, e, hv, h1.below hb, h2.below EFQ.stays hb, h3.below ERO.stays hb⟩
theorem PO.chg {base t : Nat} {w w1 : World} {v : Value} {p : ProgQ} (h : PO base w v p) (hc : Chg base t w w1) (h4 : 4 ≠ t) (h40 : 46 ≠ t) (h65 : 73 ≠ t) : PO base w1 v p := by
 obtain ⟨v1, v2, v3, e, hv, h1, h2, h3⟩ := h
 exact ⟨v1, v2, v3, e, hv, h1.chg hc h4, h2.chg hc h40, h3.chg hc h40 h65⟩
theorem FrO.raise {b b' : Nat} {w : World} {v : Value} {bs : List Bool} (h : FrO b w v bs) (hb : b ≤ b') : FrO b' w v bs := ⟨h.1, fun g hg hp => by
 rcases h.2 g hg hp with h1 | h1
 ·exact .inl (Nat.lt_of_lt_of_le h1 hb)
 ·exact .inr h1⟩
theorem FrO.old {w : World} {v : Value} {bs : List Bool} (h : BL w v bs) : FrO w.heap.size w v bs := ⟨h, fun g hg hp => by
 obtain ⟨A, c, rfl, _, hr⟩ := h
 obtain ⟨g', o, rfl, hg', _⟩ := hr hp
 simp [Value.ownBlock] at hg
 exact .inl (by omega)⟩
def CPost (w : World) (p : ProgQ) (e : Ending) (w' : World) : Prop := ∃ v1 v2 v3, e = .returned (.agg #[.int .i64 p.vars, v1, v2, v3]) ∧ FrO 0 w' v1 p.free ∧ QO w.heap.size w' v2 p.goal ∧ RO w.heap.size w' v3 p.rows ∧ Below w.heap.size w w'
def XPost (w : World) (F : Value) (p : ProgQ) (e : Ending) (w' : World) : Prop := ∃ v2 v3, e = .returned (.agg #[.int .i64 p.vars, F, v2, v3]) ∧ QO w.heap.size w' v2 p.goal ∧ RO w.heap.size w' v3 p.rows ∧ Below w.heap.size w w'
noncomputable def cleanR (r : RowF) : RowQ := ⟨r.a.map fixQ, r.s, fixQ r.b⟩
noncomputable def cleanQ (p : ProgF) : ProgQ := ⟨p.vars, p.free, p.goal.map fixQ, p.rows.map cleanR⟩
def zeroR : Value := .agg #[.slice none 0 0, .int .i64 0, .bool false, .slice none 0 0, .slice none 0 0]
theorem info65 : (Tryz.prog.info? 73).map (fun i => (i.zero, i.size, i.bytes)) = some (some zeroR, 5, 88) := by kernel_rfl
theorem info65s : (Tryz.prog.info? 73).map (·.size) = some 5 := by kernel_rfl
theorem info26s : (Tryz.prog.info? 26).map (·.size) = some 4 := by kernel_rfl
theorem info4 : (Tryz.prog.info? 4).map (fun i => (i.zero, i.size, i.bytes)) = some (some (.bool false), 1, 1) := by kernel_rfl
theorem zeroR_words : ∀ u ∈ zeroR.cells, notWord u = true := by simp [zeroR, Value.cells, notWord]
theorem row_one {v : Value} {s : Int} {b : Bool} {A0 A1 A2 : Option Addr} {n0 c0 n1 c1 n2 c2 : Nat} (hv : v = .slice A0 n0 c0) : ∀ u ∈ [v, .int .i64 s, .bool b, .slice A1 n1 c1, .slice A2 n2 c2], u.oneCell' = true := by
 subst hv
 intro u hu
 simp only [List.mem_cons, List.not_mem_nil, or_false] at hu
 rcases hu with rfl | rfl | rfl | rfl | rfl <;> rfl
theorem row_word {v : Value} {s : Int} {b : Bool} {A0 A1 A2 : Option Addr} {n0 c0 n1 c1 n2 c2 : Nat} (hv : v = .slice A0 n0 c0) : ∀ u ∈ [v, .int .i64 s, .bool b, .slice A1 n1 c1, .slice A2 n2 c2], notWord u = true := by
 subst hv
 intro u hu
 simp only [List.mem_cons, List.not_mem_nil, or_false] at hu
 rcases hu with rfl | rfl | rfl | rfl | rfl <;> rfl
theorem OL.pushT {α : Type} {k e : Nat} {E : World → Array Value → α → Prop} {base : Nat} {w w1 : World} {v v' : Value} {ys : List α} {vs : Array Value} {b : α} {xs : List Value} (hE : LeansT base e E) (h1 : OwnR w base e k v ys.length xs) (h2 : ∀ j a, ys[j]? = some a → ∃ vs : Array Value, vs.size = k ∧ (∀ i u, vs[i]? = some u → xs[j * k + i]? = some u) ∧ E w vs a)
  (hv : vs.size = k) (hb : E w vs b) (hk : Chg base e w w1) (hown : OwnR w1 base e k v' (ys.length + 1) (xs ++ vs.toList)) : OL k e E base w1 v' (ys ++ [b]) := by
 refine ⟨xs ++ vs.toList, by rw [List.length_append]; exact hown, fun j a hj => ?_⟩
 rw [List.getElem?_append] at hj
 split at hj
 ·obtain ⟨us, h3, h4, h5⟩ := h2 j a hj
  refine ⟨us, h3, fun i u hi => ?_, hE _ _ _ _ h5 hk⟩
  have h6 := h4 i u hi
  rw [List.getElem?_append_left (List.getElem?_eq_some_iff.1 h6).1]
  exact h6
 ·have h0 : j - ys.length = 0 := by
   have := (List.getElem?_eq_some_iff.1 hj).1
   simp at this
   omega
  rw [h0] at hj
  have hba : b = a := by simpa using hj
  subst hba
  obtain rfl : j = ys.length := by omega
  refine ⟨vs, hv, fun i u hi => ?_, hE _ _ _ _ hb hk⟩
  rw [← h1.1, List.getElem?_append_right (by omega), Nat.add_sub_cancel_left]
  simpa using hi
theorem wpl_appendR5 {ops : Array Oper} {rest : List Oper} {o : Oper} {a : Act} {Q : Exit → Act → World → Prop} {W : World} (hgd : o.guard = none) (s x : Operand) (ho : o.op = .call { callee := .builtin .append, args := #[s, x], argTypes := #[24, 24] }) {base : Nat}
  (v : Value) (rs : List RowQ) (hs : a.eval s = v) (hown : RO base W v rs) {g : Nat} {sn : Int} {b : Bool} {A0 A1 A2 : Option Addr} {n0 c0 n1 c1 n2 c2 : Nat} (r : RowQ) (hx : a.eval x = .slice (some ⟨g, 0, none⟩) 1 1) (hk : Blk W g 73 #[.slice A0 n0 c0, .int .i64 sn, .bool b, .slice A1 n1 c1, .slice A2 n2 c2]) (hf : ERO base W #[.slice A0 n0 c0, .int .i64 sn, .bool b, .slice A1 n1 c1, .slice A2 n2 c2] r)
  (hl : rs.length ≤ 1000000000) (hbase : base ≤ W.heap.size)
  (h : ∀ v' w', RO base w' v' (rs ++ [r]) → Chg base 73 W w' → (W.os = w'.os ∧ W.tape = w'.tape ∧ W.output = w'.output) → (∀ g, v'.ownBlock = some g → base ≤ g) → wpList Tryz.prog ops Q rest (a.put o.dst v') w') : wpList Tryz.prog ops Q (o :: rest) a W := by
 obtain ⟨xs, h1, h2⟩ := hown
 refine wpl_appendR hgd s x 24 ho (base := base) zeroR 88 Tryz.underlying24 info65 rfl zeroR_words v rs.length xs hs h1 ⟨g, 0, none⟩ 1 1 [.slice A0 n0 c0, .int .i64 sn, .bool b, .slice A1 n1 c1, .slice A2 n2 c2] hx rfl (lit_cells hk) (row_one rfl) (row_word rfl) (by decide) (by omega) (by omega) hbase fun v' w' h3 h4 h5 h6 => h v' w' ?_ (h1.changes h4 h5) ⟨h4.os.symm, h4.tape.symm, h4.output.symm⟩ (fun g hg => (h3.lt g hg).1)
 exact OL.pushT (ERO.leans (by decide)) (k := 5) (e := 73) (vs := #[.slice A0 n0 c0, .int .i64 sn, .bool b, .slice A1 n1 c1, .slice A2 n2 c2]) h1 h2 rfl hf (h1.changes h4 h5) h3
theorem OwnR.lower {w : World} {base base' e k : Nat} {v : Value} {n : Nat} {xs : List Value} (h : OwnR w base e k v n xs) (hb : base' ≤ base) : OwnR w base' e k v n xs := by
 obtain ⟨hl, h⟩ := h
 refine ⟨hl, ?_⟩
 rcases h with h | ⟨g, cap, cur, e1, h1, h2⟩
 ·exact .inl h
 ·exact .inr ⟨g, cap, cur, e1, by omega, h2⟩
theorem QO.lower {w : World} {base base' : Nat} {v : Value} {qs : List Rat} (h : QO base w v qs) (hb : base' ≤ base) : QO base' w v qs := by
 obtain ⟨xs, h1, h2⟩ := h
 exact ⟨xs, h1.lower hb, h2⟩
theorem Blk.put4 {w : World} {g t : Nat} {a b c d : Value} (h : Blk w g t #[a, b, c, d]) (x y z u : Value) : Blk ((((w.setCell ⟨g, 0, none⟩ x).setCell ⟨g, 1, none⟩ y).setCell ⟨g, 2, none⟩ z).setCell ⟨g, 3, none⟩ u) g t #[x, y, z, u] :=
 (((h.put 0 x).put 1 y).put 2 z).put 3 u
theorem below_put4 {B : Nat} {w w1 : World} (h : Below B w w1) {g : Nat} (ha : B ≤ g) (x y z u : Value) : Below B w ((((w1.setCell ⟨g, 0, none⟩ x).setCell ⟨g, 1, none⟩ y).setCell ⟨g, 2, none⟩ z).setCell ⟨g, 3, none⟩ u) :=
 Below.setCell (below_put3 h ha x y z) (p := ⟨g, 3, none⟩) ha u
theorem Blk.f4 {W : World} {g t : Nat} {cs : Array Value} (h : Blk W g t cs) : W.frozen? ⟨g, 0, none⟩ = false ∧ W.frozen? ⟨g, 1, none⟩ = false ∧ W.frozen? ⟨g, 2, none⟩ = false ∧ W.frozen? ⟨g, 3, none⟩ = false := ⟨h.frozen 0, h.frozen 1, h.frozen 2, h.frozen 3⟩
theorem Blk.c4 {W : World} {g t : Nat} {a b c d : Value} (h : Blk W g t #[a, b, c, d]) : W.cell? ⟨g, 0, none⟩ = some a ∧ W.cell? ⟨g, 1, none⟩ = some b ∧ W.cell? ⟨g, 2, none⟩ = some c ∧ W.cell? ⟨g, 3, none⟩ = some d := ⟨h.cell rfl, h.cell rfl, h.cell rfl, h.cell rfl⟩
theorem HS.other1 {w W : World} {bs : List (Nat × Nat × Array Value)} {g : Nat} (h : HS w bs W) (hg : w.heap.size ≤ g) (hne : ∀ b ∈ bs, b.1 ≠ g) (j : Nat) (x : Value) : HS w bs (W.setCell ⟨g, j, none⟩ x) :=
 ⟨fun b hm => (h.1 b hm).other (a := ⟨g, j, none⟩) (hne b hm) x, Below.setCell h.2 (p := ⟨g, j, none⟩) hg x⟩
theorem HS.other4 {w W : World} {bs : List (Nat × Nat × Array Value)} {g : Nat} (h : HS w bs W) (hg : w.heap.size ≤ g) (hne : ∀ b ∈ bs, b.1 ≠ g) (x y z u : Value) : HS w bs ((((W.setCell ⟨g, 0, none⟩ x).setCell ⟨g, 1, none⟩ y).setCell ⟨g, 2, none⟩ z).setCell ⟨g, 3, none⟩ u) :=
 (((h.other1 hg hne 0 x).other1 hg hne 1 y).other1 hg hne 2 z).other1 hg hne 3 u
theorem chg_put4 {base g t : Nat} {w : World} {a b c d : Value} (h : Blk w g t #[a, b, c, d]) (hg : base ≤ g) (hn : ∀ u ∈ #[a, b, c, d], notWord u = true) (x y z u : Value) : Chg base t w ((((w.setCell ⟨g, 0, none⟩ x).setCell ⟨g, 1, none⟩ y).setCell ⟨g, 2, none⟩ z).setCell ⟨g, 3, none⟩ u) := by
 have ho : ∀ k, k < w.heap.size → k ≠ g → ((((w.setCell ⟨g, 0, none⟩ x).setCell ⟨g, 1, none⟩ y).setCell ⟨g, 2, none⟩ z).setCell ⟨g, 3, none⟩ u).heap[k]? = w.heap[k]? := fun k _ hk => by
  rw [Below.heap_setCell _ _ _ k hk, Below.heap_setCell _ _ _ k hk, Below.heap_setCell _ _ _ k hk, Below.heap_setCell _ _ _ k hk]
 exact Chg.own h hg (Keeps.apart h hn (by simp [World.setCell]) ho) ho
theorem chg_put1 {base g t j : Nat} {w : World} {cs : Array Value} (h : Blk w g t cs) (hg : base ≤ g) (hn : ∀ u ∈ cs, notWord u = true) (x : Value) : Chg base t w (w.setCell ⟨g, j, none⟩ x) := by
 have ho : ∀ k, k < w.heap.size → k ≠ g → (w.setCell ⟨g, j, none⟩ x).heap[k]? = w.heap[k]? := fun k _ hk => Below.heap_setCell _ _ _ k hk
 exact Chg.own h hg (Keeps.apart h hn (by simp [World.setCell]) ho) ho
theorem Blk.chg {base t t' g : Nat} {w w1 : World} {cs : Array Value} (h : Blk w g t' cs) (hc : Chg base t w w1) (hne : t' ≠ t) : Blk w1 g t' cs :=
 (hc.2 g h.lt (.inr fun cs' hb => by
  have := h.symm.trans hb
  injection this with this
  injection this with _ h2
  exact hne h2)).trans h
theorem prog_words {n : Int} {A1 A2 A3 : Option Addr} {n1 c1 n2 c2 n3 c3 : Nat} : ∀ u ∈ #[Value.int .i64 n, .slice A1 n1 c1, .slice A2 n2 c2, .slice A3 n3 c3], notWord u = true := by
 intro u hu
 simp only [List.mem_toArray, List.mem_cons, List.not_mem_nil, or_false] at hu
 rcases hu with rfl | rfl | rfl | rfl <;> rfl
theorem ret26 {fn : Func} {p : Tmp} {Post : Ending → World → Prop} {tmps : Array Value} {w : World} {g : Nat} {a b c d : Value} (hres : fn.results = #[.cell p 26]) (hp : tmps.getD p undef = .pointer (some ⟨g, 0, none⟩)) (hb : Blk w g 26 #[a, b, c, d])
  (hP : Post (.returned (.agg #[a, b, c, d])) w) : bodyPost Tryz.prog fn Post Exit.ret { tmps := tmps, defers := [] } w :=
 bodyPost_ret (v := .agg #[a, b, c, d]) (results_cell_row hres _ _ g 26 #[a, b, c, d] (0, 0) _ hp hb Tryz.underlying26 rfl info26s) rfl hP
theorem append_bools {base : Nat} {w : World} {A : Option Addr} {n c : Nat} {bs : List Bool} (h : BL w (.slice A n c) bs) (hl : bs.length ≤ 1000000) (hb : base ≤ w.heap.size) :
  ∃ v' w', (Builtin.append_ #[22, 22] 22 #[.slice none 0 0, .slice A n c]).run Tryz.prog w = .ok v' w' ∧ FrO base w' v' bs ∧ Below w.heap.size w w' := by
 obtain ⟨A', c', e, hc, hr⟩ := h
 injection e with e1 e2 e3
 subst e1 e2 e3
 obtain ⟨i, hi, hzz⟩ := Option.map_eq_some_iff.1 info4
 simp only [Prod.mk.injEq] at hzz
 obtain ⟨hz, hsz, hby⟩ := hzz
 by_cases h0 : bs.length = 0
 ·have hnil : bs = [] := List.eq_nil_of_length_eq_zero h0
  subst hnil
  have hsrc : Src Tryz.prog i.size 22 (.slice A 0 c) 0 [] w := by
   cases A with
   | none => exact Src.ofNil w Tryz.underlying22 c
   | some a => exact Src.ofSlice w Tryz.underlying22 a 0 c [] (by simp) (fun j u hu => by simp at hu) (fun u hu => by cases hu)
  exact ⟨_, w, run_append_nothing w 22 22 22 4 i Tryz.underlying22 hi none 0 0 (Nat.le_refl _) _ hsrc, ⟨⟨none, 0, rfl, Nat.le_refl _, fun hp => absurd hp (by simp)⟩, fun g hg _ => by simp [Value.ownBlock] at hg⟩, Below.refl _ _⟩
 ·obtain ⟨g, o, rfl, hg, he⟩ := hr (by omega)
  have hcell : ∀ j u, (bs.map Value.bool)[j]? = some u → w.cell? ((⟨g, o, none⟩ : Addr).add j) = some u := fun j u hu => by
   rw [List.getElem?_map] at hu
   obtain ⟨b, hb, rfl⟩ := Option.map_eq_some_iff.1 hu
   obtain ⟨vs, _, h2, rfl⟩ := he j b hb
   have := h2 0 _ rfl
   rw [Nat.mul_one, Nat.add_zero] at this
   rw [add_at']
   exact this
  obtain ⟨v', w', hrun, hown, hgr, hk, hob⟩ := (OwnR.nil w w.heap.size 4 1).append (P := Tryz.prog) 22 22 (.bool false) 1 Tryz.underlying22 info4 rfl (by simp [Value.cells, notWord]) ⟨g, o, none⟩ bs.length c (bs.map Value.bool) (by simp) hcell (fun u hu => by obtain ⟨b, _, rfl⟩ := List.mem_map.1 hu; rfl) (fun u hu => by obtain ⟨b, _, rfl⟩ := List.mem_map.1 hu; rfl) (by omega) (by omega) (by omega) (Nat.le_refl _)
  refine ⟨v', w', hrun, ?_, ⟨hgr.os, hgr.tape, hgr.output, hgr.size, fun k hk => hgr.block k hk (by simp [Value.ownBlock])⟩⟩
  rw [Nat.zero_add, List.nil_append] at hown
  rcases hown.2 with ⟨_, h1⟩ | ⟨g', cap, cur, rfl, hb', hbl, hnc, hcm, hcs, htake, hw⟩
  ·exact absurd h1 h0
  ·refine ⟨⟨some ⟨g', 0, none⟩, cap, rfl, hnc, fun hp => ⟨g', 0, rfl, hbl.lt, fun j x hj => ⟨#[.bool x], rfl, fun i u hi => ?_, rfl⟩⟩⟩, fun q hq _ => .inr ⟨cur, by simp [Value.ownBlock] at hq; subst hq; exact hbl⟩⟩
   have hi0 : i = 0 := by
    have := (Array.getElem?_eq_some_iff.1 hi).1
    simp at this
    exact this
   subst hi0
   have hu : u = .bool x := by simpa using hi.symm
   subst hu
   rw [Nat.zero_add, Nat.mul_one, Nat.add_zero]
   refine hbl.cell ?_
   have h6 : (bs.map Value.bool)[j]? = some (.bool x) := by rw [List.getElem?_map, hj]; rfl
   rw [← htake, List.getElem?_take] at h6
   split at h6
   ·simpa using h6
   ·cases h6
theorem wpl_append_bools {ops : Array Oper} {rest : List Oper} {o : Oper} {a : Act} {Q : Exit → Act → World → Prop} {W : World} (hgd : o.guard = none) (s x : Operand) (ho : o.op = .call { callee := .builtin .append, args := #[s, x], argTypes := #[22, 22] }) (hty : o.type = 22) {base : Nat}
  (hs : a.eval s = .slice none 0 0) {A : Option Addr} {n c : Nat} (bs : List Bool) (hx : a.eval x = .slice A n c) (hbl : BL W (.slice A n c) bs) (hl : bs.length ≤ 1000000) (hbase : base ≤ W.heap.size)
  (h : ∀ v' w', FrO base w' v' bs → Below W.heap.size W w' → wpList Tryz.prog ops Q rest (a.put o.dst v') w') : wpList Tryz.prog ops Q (o :: rest) a W :=
 wpList_plain hgd fun K hK => by
  obtain ⟨v', w', hr, h2, h3⟩ := append_bools hbl hl hbase
  unfold Oper.wp execOp
  simp only [ho, hty, resolve, invoke, builtin, Sem.run_bind, Sem.run_pure, Result.andThen_ok, List.map_toArray, List.map_cons, List.map_nil, hs, hx, hr]
  exact hK _ _ (h v' w' h2 h3)
set_option maxHeartbeats 32000000 in
set_option maxRecDepth 100000 in
theorem clean_calls (w : World) (v : Value) (p : ProgF) (h : PR w v p) (hlf : p.free.length ≤ 1000) (hlg : p.goal.length ≤ 1000) (hlr : p.rows.length ≤ 1000) (hla : ∀ r ∈ p.rows, r.a.length ≤ 1000) : Calls Tryz.prog 53 #[v] w fun e w' => CPost w (cleanQ p) e w' := by
 obtain ⟨A1, c1, A2, c2, A3, c3, rfl, HI, H1, H2, H3⟩ := h.opened
 clear h
 obtain ⟨vars, hv⟩ : ∃ n, n = p.vars := ⟨_, rfl⟩
 rw [← hv]
 have HV := Hd hv
 have HLA := Hd hla
 clear hv hla
 go_enter Tryz.func53, Tryz.ntmps53
 go_wp2_with fail
 have H0 := Hd (HS.two (w := w) #[.int .i64 vars, .slice A1 p.free.length c1, .slice A2 p.goal.length c2, .slice A3 p.rows.length c3] #[.int .i64 0, .slice none 0 0, .slice none 0 0, .slice none 0 0] 26 26)
 have hsz0 : ((w.alloc (.cells #[.int .i64 vars, .slice A1 p.free.length c1, .slice A2 p.goal.length c2, .slice A3 p.rows.length c3] 26)).alloc (.cells #[.int .i64 0, .slice none 0 0, .slice none 0 0, .slice none 0 0] 26)).heap.size = w.heap.size + 2 := by simp
 generalize (w.alloc (.cells #[.int .i64 vars, .slice A1 p.free.length c1, .slice A2 p.goal.length c2, .slice A3 p.rows.length c3] 26)).alloc (.cells #[.int .i64 0, .slice none 0 0, .slice none 0 0, .slice none 0 0] 26) = W0 at *
 have hsz1 : w.heap.size + 2 ≤ W0.heap.size := by omega
 clear hsz0
 obtain ⟨x0, x1, x2, x3⟩ := H0.out.c4 1 rfl
 have l0 := (H0.out.blk 1 rfl).lt
 have hlf' : p.free.length ≤ 1000000 := by omega
 have hlg' : p.goal.length ≤ 1000000000 := by omega
 refine wp_tree (l := [_, _, _, _, _, _, _, _, _, _, _]) (S := Below W0.heap.size W0) 10 (.two [0, 1, 2, 3, 5, 6] 4 (.two [] 7 (.one [8] 9 (.fin [])) 9 (.one [] 7 (.fin [8]))) 9 (.one [] 4 (.one [] 7 (.fin [8])))) (by kernel_rfl) (by kernel_rfl) (by kernel_rfl) rfl (Below.drew (Below.refl _ _)) ?_
 refine ⟨?_, _, _, ?_, rfl, rfl, ?_, ?_⟩
 rotate_left
 ·repeat (refine ⟨_, ?_, rfl, Or.inl ⟨by rfl, ?_⟩, ?_⟩; rotate_left; focus (intro W hW; replace hW := (bcell hW).1; go_simp; try with_reducible rfl); (try simp only [SQ]))
  exact rfl
 ·have D0 : Hid (Below W0.heap.size W0 W0.drew) := Below.drew (Below.refl _ _)
  have E0 := Hd (HS.step H0.out D0.out)
  have hz0 : w.heap.size + 2 ≤ W0.drew.heap.size := hsz1
  generalize W0.drew = Wx at *
  simp only [SQ]
  go_wp2_with (at_builtin; (refine wpl_append_bools rfl (.const (.slice none 0 0)) (.tmp 9) rfl rfl (base := 0) rfl p.free rfl (H1.out.below EB.stays E0.out.2) hlf' (Nat.zero_le _) ?_); intro v1 Wa hfr hba)
  have D1 := Hd (below_next D0.out hba)
  have E1 := Hd (HS.step H0.out D1.out)
  have hz1 : w.heap.size + 2 ≤ Wa.heap.size := Nat.le_trans hz0 (hba).size
  obtain ⟨B1, d1, rfl, _⟩ := hfr.1.slice
  have HF1 := Hd hfr
  clear hfr hba
  go_wp2_with fail
  refine And.intro D1.out ⟨_, _, _, rfl, rfl, rfl, ?_, ?_⟩
  ·go_wp2_with fail
   refine (fixed_calls _ _ p.goal (H2.out.below EF.stays E1.out.2) hlg').mono ?_
   rintro e Wb ⟨v2, rfl, hq, hbb⟩
   have hq' := hq.lower (Nat.le_trans (Nat.le_add_right _ 2) hz1)
   have D2 := Hd (below_next D1.out hbb)
   have E2 := Hd (HS.step H0.out D2.out)
   have hz2 : w.heap.size + 2 ≤ Wb.heap.size := Nat.le_trans hz1 (hbb).size
   have HF2 := Hd (HF1.out.below hbb)
   obtain ⟨B2, d2, hv2, _⟩ := hq'.slice
   rw [List.length_map] at hv2
   subst hv2
   have HQ2 := Hd hq'
   clear hq hq' hbb
   go_wp2_with fail
   refine And.intro D2.out ⟨?_, _, ?_, rfl, ?_⟩
   rotate_left
   ·repeat (refine ⟨_, ?_, rfl, Or.inl ⟨by rfl, ?_⟩, ?_⟩; rotate_left; focus (intro W hW; replace hW := (bcell hW).1; go_simp; try with_reducible rfl); (try simp only [SQ]))
    exact rfl
   go_wp2_with fail
   have hBq := Blk.new Wb 26 #[.int .i64 0, .slice none 0 0, .slice none 0 0, .slice none 0 0]
   obtain ⟨gq, hgq⟩ : ∃ gq, gq = Wb.heap.size := ⟨_, rfl⟩
   have hgq2 : w.heap.size + 2 ≤ gq := by have := hz2; omega
   have hba2 := (below_new Wb (.cells #[.int .i64 0, .slice none 0 0, .slice none 0 0, .slice none 0 0] 26))
   have D3 := Hd (below_next D2.out hba2)
   have E3 := Hd (HS.step H0.out D3.out)
   have hz3 : w.heap.size + 2 ≤ (Wb.alloc (.cells #[.int .i64 0, .slice none 0 0, .slice none 0 0, .slice none 0 0] 26)).heap.size := Nat.le_trans hz2 (hba2).size
   have HF3 := Hd (HF2.out.below hba2)
   have HQ3 := Hd (HQ2.out.below EFQ.stays hba2)
   try rw [← show gq = Wb.heap.size from hgq] at hBq
   try rw [← show gq = Wb.heap.size from hgq]
   have HB3 := Hd hBq
   clear hBq hba2 hgq
   generalize Wb.alloc (.cells #[.int .i64 0, .slice none 0 0, .slice none 0 0, .slice none 0 0] 26) = Wd at *
   refine And.intro D3.out ⟨_, rfl, ?_⟩
   obtain ⟨i0, i1, i2, i3⟩ := HB3.out.c4
   obtain ⟨g0, g1, g2, g3⟩ := HB3.out.f4
   have hltq := HB3.out.lt
   go_wp2_with fail
   refine NoPanic.normal ?_
   have HBc := Hd (HB3.out.put4 (.int .i64 vars) (.slice B1 p.free.length d1) (.slice B2 p.goal.length d2) (.slice none 0 0))
   have hcg := chg_put4 (base := w.heap.size) HB3.out (by omega) prog_words (.int .i64 vars) (.slice B1 p.free.length d1) (.slice B2 p.goal.length d2) (.slice none 0 0)
   have HFc := Hd (HF3.out.chg hcg (by decide))
   have HQc := Hd (QO.chg HQ3.out hcg (by decide))
   have HSc := Hd (E3.out.other4 (g := gq) (by omega) (by simp; omega) (.int .i64 vars) (.slice B1 p.free.length d1) (.slice B2 p.goal.length d2) (.slice none 0 0))
   have hszc : w.heap.size + 2 ≤ ((((Wd.setCell ⟨gq, 0, none⟩ (.int .i64 vars)).setCell ⟨gq, 1, none⟩ (.slice B1 p.free.length d1)).setCell ⟨gq, 2, none⟩ (.slice B2 p.goal.length d2)).setCell ⟨gq, 3, none⟩ (.slice none 0 0)).heap.size := by have := hcg.1.1; omega
   generalize (((Wd.setCell ⟨gq, 0, none⟩ (.int .i64 vars)).setCell ⟨gq, 1, none⟩ (.slice B1 p.free.length d1)).setCell ⟨gq, 2, none⟩ (.slice B2 p.goal.length d2)).setCell ⟨gq, 3, none⟩ (.slice none 0 0) = Wc at *
   clear i0 i1 i2 i3 g0 g1 g2 g3 hltq hcg
   clear D0 E0 hz0
   clear D1 E1 hz1
   clear D2 E2 hz2
   clear D3 E3 hz3
   clear H0 hsz1 l0 x0 x1 x2 x3
   obtain ⟨x0, x1, x2, x3⟩ := HSc.out.c4 1 rfl
   have hltp := (HSc.out.blk 1 rfl).lt
   obtain ⟨qg, hqg⟩ : ∃ q, q = p.goal.map fixQ := ⟨_, rfl⟩
   rw [← hqg] at HQc
   have HQG := Hd hqg
   obtain ⟨rq, hrq⟩ : ∃ q, q = p.rows.map cleanR := ⟨_, rfl⟩
   have HRQ := Hd hrq
   clear hqg hrq
   go_wp2_with fail
   clear x0 x1 x2 x3
   go_loopw [18] (fun vi wr => ∃ i : Nat, i ≤ p.rows.length ∧ vi = .int .i64 (i : Int) ∧ (∃ A5 c5, Blk wr gq 26 #[.int .i64 vars, .slice B1 p.free.length d1, .slice B2 p.goal.length d2, .slice A5 i c5] ∧ RO w.heap.size wr (.slice A5 i c5) (rq.take i)) ∧ FrO 0 wr (.slice B1 p.free.length d1) p.free ∧ QO w.heap.size wr (.slice B2 p.goal.length d2) qg ∧ w.heap.size + 2 ≤ wr.heap.size ∧ HS w [(w.heap.size + 1, 26, #[.int .i64 0, .slice none 0 0, .slice none 0 0, .slice none 0 0]), (w.heap.size, 26, #[.int .i64 vars, .slice A1 p.free.length c1, .slice A2 p.goal.length c2, .slice A3 p.rows.length c3])] wr) (fun vi _ => p.rows.length - (intOf vi).toNat)
   case atStart => exact ⟨0, Nat.zero_le _, rfl, ⟨none, 0, HBc.out, OL.nil _ _ _ _ _⟩, HFc.out, HQc.out, hszc, HSc.out⟩
   case round =>
    obtain ⟨i, hi, rfl, ⟨A5, c5, hbq, hro⟩, hfr, hqo, hsz2, hs⟩ := hrel
    have HBQ := Hd hbq
    have HRO := Hd hro
    have HFR := Hd hfr
    have HQO := Hd hqo
    have HK := Hd hs
    clear hbq hro hfr hqo hs HBc HFc HQc HSc hszc hltp
    by_cases hlt : i < p.rows.length
    ·obtain ⟨r, hr'⟩ : ∃ r, p.rows[i]? = some r := ⟨p.rows[i], List.getElem?_eq_getElem hlt⟩
     obtain ⟨g1, o1, C1, e1, C2, n2, e2, C3, n3, e3, rfl, hg, k0, k1, k2, k3, k4, HIS, HRA, HRB⟩ := RL.at5 (H3.out.below ER.stays HK.out.2) hr'
     have hra : r.a.length ≤ 1000000000 := by have := HLA.out r (List.mem_of_getElem? hr'); omega
     have HNX : Hid (rq.take (i + 1) = rq.take i ++ [cleanR r]) := by
      unfold Hid
      rw [List.take_add_one, HRQ.out, List.getElem?_map, hr']
      rfl
     have hrl : (rq.take i).length ≤ 1000000000 := by rw [List.length_take]; omega
     have HRL : Hid ((rq.take (i + 1)).length = i + 1) := by unfold Hid; rw [List.length_take, HRQ.out, List.length_map]; omega
     have m1 : (i : Int) < (p.rows.length : Int) := by omega
     have m3 : (i : Int).toNat = i := by omega
     have m4 : (0 : Int) ≤ (i : Int) := by omega
     obtain ⟨s, hs⟩ : ∃ s, s = r.s := ⟨_, rfl⟩
     rw [← hs] at k1
     have HSE := Hd hs
     have hltq := HBQ.out.lt
     clear hr' hs
     go_wp2_with fail
     have HB1 := Hd (below_new wr (.cells #[.slice C1 r.a.length e1, .int .i64 s, .bool r.b.neg, .slice C2 n2 e2, .slice C3 n3 e3] 73))
     have HKB1 := Hd (Blk.new wr 73 #[.slice C1 r.a.length e1, .int .i64 s, .bool r.b.neg, .slice C2 n2 e2, .slice C3 n3 e3])
     obtain ⟨gr, hgr⟩ : ∃ gr, gr = wr.heap.size := ⟨_, rfl⟩
     rw [← hgr] at HKB1
     generalize wr.alloc (.cells #[.slice C1 r.a.length e1, .int .i64 s, .bool r.b.neg, .slice C2 n2 e2, .slice C3 n3 e3] 73) = W1 at *
     rw [← hgr]
     clear hgr k0 k1 k2 k3 k4
     have z0 := HKB1.out.cell (j := 0) rfl
     have z1 := HKB1.out.cell (j := 1) rfl
     have z2 := HKB1.out.cell (j := 2) rfl
     have z3 := HKB1.out.cell (j := 3) rfl
     have z4 := HKB1.out.cell (j := 4) rfl
     have hzl := HKB1.out.lt
     have HBQ1 := Hd (HBQ.out.below HB1.out HBQ.out.lt)
     obtain ⟨i0, i1, i2, i3⟩ := HBQ1.out.c4
     have hltq1 := HBQ1.out.lt
     have hsz3 : w.heap.size ≤ W1.heap.size := by have := HB1.out.size; omega
     refine wp_chainF (l := [_, _, _, _, _, _, _, _, _, _, _, _, _, _, _]) (S := Below W1.heap.size W1) 12 [([0, 1, 2, 3, 5, 6, 7, 8], 4), ([], 9), ([10], 11)] [] (by kernel_rfl) (by kernel_rfl) (by kernel_rfl) rfl (Below.drew (Below.refl _ _)) ?_
     refine ⟨?_, _, ?_, rfl, ?_⟩
     rotate_left
     ·repeat (refine ⟨_, ?_, rfl, Or.inl ⟨by rfl, ?_⟩, ?_⟩; rotate_left; focus (intro W hW; replace hW := (bcell hW).1; go_simp; try with_reducible rfl); (try simp only [SQ]))
      exact rfl
     have D0 : Hid (Below W1.heap.size W1 W1.drew) := Below.drew (Below.refl _ _)
     have F0 := Hd (below_next HB1.out D0.out)
     go_wp2_with fail
     refine (fixed_calls _ _ r.a (HRA.out.below EF.stays F0.out) hra).mono ?_
     rintro e W2 ⟨v2, rfl, hq, hb⟩
     have hq' := hq.lower (base' := w.heap.size) (Nat.le_trans hsz3 D0.out.size)
     obtain ⟨C4, e4, hv2, _⟩ := hq'.slice
     rw [List.length_map] at hv2
     subst hv2
     have HQ2 := Hd hq'
     have D2 := Hd (below_next D0.out hb)
     have F2 := Hd (below_next HB1.out D2.out)
     clear hq hq' hb
     go_wp2_with fail
     refine And.intro D2.out ⟨_, _, rfl, rfl, ?_⟩
     go_wp2_with fail
     refine (fix_calls _ _ r.b (HRB.out.of_below F2.out)).mono ?_
     rintro e W3 ⟨v3, rfl, hv, hb⟩
     obtain ⟨C5, n5, e5, C6, n6, e6, rfl, HV3⟩ := hv.opened
     have HQ3 := Hd (HQ2.out.below EFQ.stays hb)
     have D3 := Hd (below_next D2.out hb)
     clear hv hb
     go_wp2_with fail
     refine And.intro D3.out ⟨?_, _, ?_, rfl, ?_⟩
     rotate_left
     ·repeat (refine ⟨_, ?_, rfl, Or.inl ⟨by rfl, ?_⟩, ?_⟩; rotate_left; focus (intro W hW; replace hW := (bcell hW).1; go_simp; try with_reducible rfl); (try simp only [SQ]))
      exact rfl
     go_wp2_with fail
     have HL4 := Hd (Blk.new W3 73 #[.slice C4 r.a.length e4, .int .i64 s, .bool (negQ (fixQ r.b)), .slice C5 n5 e5, .slice C6 n6 e6])
     have hbn := below_new W3 (.cells #[.slice C4 r.a.length e4, .int .i64 s, .bool (negQ (fixQ r.b)), .slice C5 n5 e5, .slice C6 n6 e6] 73)
     have D4 := Hd (below_next D3.out hbn)
     have HQ4 := Hd (HQ3.out.below EFQ.stays hbn)
     have HV4 := Hd (HV3.out.of_below hbn)
     obtain ⟨gl, hgl⟩ : ∃ g, g = W3.heap.size := ⟨_, rfl⟩
     rw [← hgl] at HL4 ⊢
     generalize W3.alloc (.cells #[.slice C4 r.a.length e4, .int .i64 s, .bool (negQ (fixQ r.b)), .slice C5 n5 e5, .slice C6 n6 e6] 73) = W4 at *
     clear hgl hbn
     refine And.intro D4.out ⟨_, rfl, ?_⟩
     have F4 := Hd (below_next HB1.out D4.out)
     have HBQ4 := Hd (HBQ.out.below F4.out HBQ.out.lt)
     have HRO4 := Hd (HRO.out.below ERO.stays F4.out)
     have HFR4 := Hd (HFR.out.below F4.out)
     have HQO4 := Hd (HQO.out.below EFQ.stays F4.out)
     have HK4 := Hd (HK.out.step F4.out)
     have hbase4 : w.heap.size ≤ W4.heap.size := Nat.le_trans hsz3 D4.out.size
     have HER : Hid (ERO w.heap.size W4 #[.slice C4 r.a.length e4, .int .i64 s, .bool (negQ (fixQ r.b)), .slice C5 n5 e5, .slice C6 n6 e6] (cleanR r)) := ⟨_, _, _, _, _, _, _, by unfold cleanR; rw [HSE.out], HIS.out, HQ4.out, HV4.out⟩
     simp only [SQ, List.drop_succ_cons, List.drop_zero]
     clear i0 i1 i2 i3 z0 z1 z2 z3 z4
     go_wp2_with (at_builtin; refine wpl_appendR5 rfl (.tmp 23) (.tmp 33) rfl (base := w.heap.size) (.slice A5 i c5) (rq.take i) rfl HRO4.out (cleanR r) rfl HL4.out HER.out hrl hbase4 ?_; intro v6 W6 hro6 hcg6 hw6 hob6; obtain ⟨A6, c6, hv6, _⟩ := hro6.slice; rw [← HNX.out] at hro6 hv6; rw [HRL.out] at hv6; subst hv6; have HRO6 := Hd hro6; have HBQ6 := Hd (HBQ4.out.chg hcg6 (by decide)); have HFR6 := Hd (HFR4.out.chg hcg6 (by decide)); have HQO6 := Hd (QO.chg HQO4.out hcg6 (by decide)); have HK6 := Hd (HS.chg HK4.out hcg6 (by simp) rfl hw6); have hsz6 : w.heap.size + 2 ≤ W6.heap.size := (by have := hcg6.1.1; have := D4.out.size; have := HB1.out.size; omega); obtain ⟨i0, i1, i2, i3⟩ := HBQ6.out.c4; obtain ⟨f0, f1, f2, f3⟩ := HBQ6.out.f4; have hltq6 := HBQ6.out.lt; clear hro6 hcg6 hw6 hob6)
     refine NoPanic.normal ?_
     have hcp := chg_put1 (base := w.heap.size) (j := 3) HBQ6.out (by omega) prog_words (.slice A6 (i + 1) c6)
     have HX1 := Hd (HBQ6.out.put 3 (.slice A6 (i + 1) c6))
     have HX2 := Hd (RO.chg HRO6.out hcp (by decide) (by decide))
     have HX3 := Hd (HFR6.out.chg hcp (by decide))
     have HX4 := Hd (QO.chg HQO6.out hcp (by decide))
     have HX5 := Hd (HK6.out.other1 (g := gq) (by omega) (by simp; omega) 3 (.slice A6 (i + 1) c6))
     have hsz7 : w.heap.size + 2 ≤ (W6.setCell ⟨gq, 3, none⟩ (.slice A6 (i + 1) c6)).heap.size := by have := hcp.1.1; omega
     clear hcp
     go_wp2_with fail
     go_roundw
     case rel => exact ⟨i + 1, by omega, by go_num, ⟨A6, c6, HX1.out, HX2.out⟩, HX3.out, HX4.out, hsz7, HX5.out⟩
     case measure => simp [intOf]; omega
    ·obtain rfl : i = p.rows.length := by omega
     have hrt : rq.take p.rows.length = rq := List.take_of_length_le (by rw [HRQ.out, List.length_map]; exact Nat.le_refl _)
     rw [hrt] at HRO
     clear hrt
     obtain ⟨i0, i1, i2, i3⟩ := HBQ.out.c4
     have hltq := HBQ.out.lt
     obtain ⟨j0, j1, j2, j3⟩ := (HK.out.blk 0 rfl).c4
     obtain ⟨f0, f1, f2, f3⟩ := (HK.out.blk 0 rfl).f4
     have hlt0 := (HK.out.blk 0 rfl).lt
     go_wp2_with fail
     have hcg := chg_put4 (base := w.heap.size) (HK.out.blk 0 rfl) (by simp) prog_words (.int .i64 vars) (.slice B1 p.free.length d1) (.slice B2 p.goal.length d2) (.slice A5 p.rows.length c5)
     exact ret26 Tryz.results53 rfl ((HK.out.blk 0 rfl).put4 _ _ _ _) ⟨_, _, _, by unfold cleanQ; rw [HV.out], HFR.out.chg hcg (by decide), by show QO _ _ _ (p.goal.map fixQ); rw [← HQG.out]; exact QO.chg HQO.out hcg (by decide), by show RO _ _ _ (p.rows.map cleanR); rw [← HRQ.out]; exact RO.chg HRO.out hcg (by decide) (by decide), below_put4 HK.out.2 (by simp) _ _ _ _⟩
  ·go_wp2_with fail
   have hBq := Blk.new Wa 26 #[.int .i64 0, .slice none 0 0, .slice none 0 0, .slice none 0 0]
   obtain ⟨gq, hgq⟩ : ∃ gq, gq = Wa.heap.size := ⟨_, rfl⟩
   have hgq2 : w.heap.size + 2 ≤ gq := by have := hz1; omega
   have hba2 := (below_new Wa (.cells #[.int .i64 0, .slice none 0 0, .slice none 0 0, .slice none 0 0] 26))
   have D2 := Hd (below_next D1.out hba2)
   have E2 := Hd (HS.step H0.out D2.out)
   have hz2 : w.heap.size + 2 ≤ (Wa.alloc (.cells #[.int .i64 0, .slice none 0 0, .slice none 0 0, .slice none 0 0] 26)).heap.size := Nat.le_trans hz1 (hba2).size
   have HF2 := Hd (HF1.out.below hba2)
   try rw [← show gq = Wa.heap.size from hgq] at hBq
   try rw [← show gq = Wa.heap.size from hgq]
   have HB2 := Hd hBq
   clear hBq hba2 hgq
   generalize Wa.alloc (.cells #[.int .i64 0, .slice none 0 0, .slice none 0 0, .slice none 0 0] 26) = Wd at *
   refine And.intro D2.out ⟨_, _, rfl, rfl, ?_⟩
   go_wp2_with fail
   refine (fixed_calls _ _ p.goal (H2.out.below EF.stays E2.out.2) hlg').mono ?_
   rintro e Wb ⟨v2, rfl, hq, hbb⟩
   have hq' := hq.lower (Nat.le_trans (Nat.le_add_right _ 2) hz2)
   have D3 := Hd (below_next D2.out hbb)
   have E3 := Hd (HS.step H0.out D3.out)
   have hz3 : w.heap.size + 2 ≤ Wb.heap.size := Nat.le_trans hz2 (hbb).size
   have HF3 := Hd (HF2.out.below hbb)
   have HB3 := Hd (HB2.out.below hbb HB2.out.lt)
   obtain ⟨B2, d2, hv2, _⟩ := hq'.slice
   rw [List.length_map] at hv2
   subst hv2
   have HQ3 := Hd hq'
   clear hq hq' hbb
   go_wp2_with fail
   refine And.intro D3.out ⟨?_, ?_, ?_⟩
   rotate_left
   ·repeat (refine ⟨_, ?_, rfl, Or.inl ⟨by rfl, ?_⟩, ?_⟩; rotate_left; focus (intro W hW; replace hW := (bcell hW).1; go_simp; try with_reducible rfl); (try simp only [SQ]))
    exact rfl
   obtain ⟨i0, i1, i2, i3⟩ := HB3.out.c4
   obtain ⟨g0, g1, g2, g3⟩ := HB3.out.f4
   have hltq := HB3.out.lt
   go_wp2_with fail
   refine NoPanic.normal ?_
   have HBc := Hd (HB3.out.put4 (.int .i64 vars) (.slice B1 p.free.length d1) (.slice B2 p.goal.length d2) (.slice none 0 0))
   have hcg := chg_put4 (base := w.heap.size) HB3.out (by omega) prog_words (.int .i64 vars) (.slice B1 p.free.length d1) (.slice B2 p.goal.length d2) (.slice none 0 0)
   have HFc := Hd (HF3.out.chg hcg (by decide))
   have HQc := Hd (QO.chg HQ3.out hcg (by decide))
   have HSc := Hd (E3.out.other4 (g := gq) (by omega) (by simp; omega) (.int .i64 vars) (.slice B1 p.free.length d1) (.slice B2 p.goal.length d2) (.slice none 0 0))
   have hszc : w.heap.size + 2 ≤ ((((Wb.setCell ⟨gq, 0, none⟩ (.int .i64 vars)).setCell ⟨gq, 1, none⟩ (.slice B1 p.free.length d1)).setCell ⟨gq, 2, none⟩ (.slice B2 p.goal.length d2)).setCell ⟨gq, 3, none⟩ (.slice none 0 0)).heap.size := by have := hcg.1.1; omega
   generalize (((Wb.setCell ⟨gq, 0, none⟩ (.int .i64 vars)).setCell ⟨gq, 1, none⟩ (.slice B1 p.free.length d1)).setCell ⟨gq, 2, none⟩ (.slice B2 p.goal.length d2)).setCell ⟨gq, 3, none⟩ (.slice none 0 0) = Wc at *
   clear i0 i1 i2 i3 g0 g1 g2 g3 hltq hcg
   clear D0 E0 hz0
   clear D1 E1 hz1
   clear D2 E2 hz2
   clear D3 E3 hz3
   clear H0 hsz1 l0 x0 x1 x2 x3
   obtain ⟨x0, x1, x2, x3⟩ := HSc.out.c4 1 rfl
   have hltp := (HSc.out.blk 1 rfl).lt
   obtain ⟨qg, hqg⟩ : ∃ q, q = p.goal.map fixQ := ⟨_, rfl⟩
   rw [← hqg] at HQc
   have HQG := Hd hqg
   obtain ⟨rq, hrq⟩ : ∃ q, q = p.rows.map cleanR := ⟨_, rfl⟩
   have HRQ := Hd hrq
   clear hqg hrq
   go_wp2_with fail
   clear x0 x1 x2 x3
   go_loopw [18] (fun vi wr => ∃ i : Nat, i ≤ p.rows.length ∧ vi = .int .i64 (i : Int) ∧ (∃ A5 c5, Blk wr gq 26 #[.int .i64 vars, .slice B1 p.free.length d1, .slice B2 p.goal.length d2, .slice A5 i c5] ∧ RO w.heap.size wr (.slice A5 i c5) (rq.take i)) ∧ FrO 0 wr (.slice B1 p.free.length d1) p.free ∧ QO w.heap.size wr (.slice B2 p.goal.length d2) qg ∧ w.heap.size + 2 ≤ wr.heap.size ∧ HS w [(w.heap.size + 1, 26, #[.int .i64 0, .slice none 0 0, .slice none 0 0, .slice none 0 0]), (w.heap.size, 26, #[.int .i64 vars, .slice A1 p.free.length c1, .slice A2 p.goal.length c2, .slice A3 p.rows.length c3])] wr) (fun vi _ => p.rows.length - (intOf vi).toNat)
   case atStart => exact ⟨0, Nat.zero_le _, rfl, ⟨none, 0, HBc.out, OL.nil _ _ _ _ _⟩, HFc.out, HQc.out, hszc, HSc.out⟩
   case round =>
    obtain ⟨i, hi, rfl, ⟨A5, c5, hbq, hro⟩, hfr, hqo, hsz2, hs⟩ := hrel
    have HBQ := Hd hbq
    have HRO := Hd hro
    have HFR := Hd hfr
    have HQO := Hd hqo
    have HK := Hd hs
    clear hbq hro hfr hqo hs HBc HFc HQc HSc hszc hltp
    by_cases hlt : i < p.rows.length
    ·obtain ⟨r, hr'⟩ : ∃ r, p.rows[i]? = some r := ⟨p.rows[i], List.getElem?_eq_getElem hlt⟩
     obtain ⟨g1, o1, C1, e1, C2, n2, e2, C3, n3, e3, rfl, hg, k0, k1, k2, k3, k4, HIS, HRA, HRB⟩ := RL.at5 (H3.out.below ER.stays HK.out.2) hr'
     have hra : r.a.length ≤ 1000000000 := by have := HLA.out r (List.mem_of_getElem? hr'); omega
     have HNX : Hid (rq.take (i + 1) = rq.take i ++ [cleanR r]) := by
      unfold Hid
      rw [List.take_add_one, HRQ.out, List.getElem?_map, hr']
      rfl
     have hrl : (rq.take i).length ≤ 1000000000 := by rw [List.length_take]; omega
     have HRL : Hid ((rq.take (i + 1)).length = i + 1) := by unfold Hid; rw [List.length_take, HRQ.out, List.length_map]; omega
     have m1 : (i : Int) < (p.rows.length : Int) := by omega
     have m3 : (i : Int).toNat = i := by omega
     have m4 : (0 : Int) ≤ (i : Int) := by omega
     obtain ⟨s, hs⟩ : ∃ s, s = r.s := ⟨_, rfl⟩
     rw [← hs] at k1
     have HSE := Hd hs
     have hltq := HBQ.out.lt
     clear hr' hs
     go_wp2_with fail
     have HB1 := Hd (below_new wr (.cells #[.slice C1 r.a.length e1, .int .i64 s, .bool r.b.neg, .slice C2 n2 e2, .slice C3 n3 e3] 73))
     have HKB1 := Hd (Blk.new wr 73 #[.slice C1 r.a.length e1, .int .i64 s, .bool r.b.neg, .slice C2 n2 e2, .slice C3 n3 e3])
     obtain ⟨gr, hgr⟩ : ∃ gr, gr = wr.heap.size := ⟨_, rfl⟩
     rw [← hgr] at HKB1
     generalize wr.alloc (.cells #[.slice C1 r.a.length e1, .int .i64 s, .bool r.b.neg, .slice C2 n2 e2, .slice C3 n3 e3] 73) = W1 at *
     rw [← hgr]
     clear hgr k0 k1 k2 k3 k4
     have z0 := HKB1.out.cell (j := 0) rfl
     have z1 := HKB1.out.cell (j := 1) rfl
     have z2 := HKB1.out.cell (j := 2) rfl
     have z3 := HKB1.out.cell (j := 3) rfl
     have z4 := HKB1.out.cell (j := 4) rfl
     have hzl := HKB1.out.lt
     have HBQ1 := Hd (HBQ.out.below HB1.out HBQ.out.lt)
     obtain ⟨i0, i1, i2, i3⟩ := HBQ1.out.c4
     have hltq1 := HBQ1.out.lt
     have hsz3 : w.heap.size ≤ W1.heap.size := by have := HB1.out.size; omega
     refine wp_chainF (l := [_, _, _, _, _, _, _, _, _, _, _, _, _, _, _]) (S := Below W1.heap.size W1) 12 [([0, 1, 2, 3, 5, 6, 7, 8], 4), ([], 9), ([10], 11)] [] (by kernel_rfl) (by kernel_rfl) (by kernel_rfl) rfl (Below.drew (Below.refl _ _)) ?_
     refine ⟨?_, _, ?_, rfl, ?_⟩
     rotate_left
     ·repeat (refine ⟨_, ?_, rfl, Or.inl ⟨by rfl, ?_⟩, ?_⟩; rotate_left; focus (intro W hW; replace hW := (bcell hW).1; go_simp; try with_reducible rfl); (try simp only [SQ]))
      exact rfl
     have D0 : Hid (Below W1.heap.size W1 W1.drew) := Below.drew (Below.refl _ _)
     have F0 := Hd (below_next HB1.out D0.out)
     go_wp2_with fail
     refine (fixed_calls _ _ r.a (HRA.out.below EF.stays F0.out) hra).mono ?_
     rintro e W2 ⟨v2, rfl, hq, hb⟩
     have hq' := hq.lower (base' := w.heap.size) (Nat.le_trans hsz3 D0.out.size)
     obtain ⟨C4, e4, hv2, _⟩ := hq'.slice
     rw [List.length_map] at hv2
     subst hv2
     have HQ2 := Hd hq'
     have D2 := Hd (below_next D0.out hb)
     have F2 := Hd (below_next HB1.out D2.out)
     clear hq hq' hb
     go_wp2_with fail
     refine And.intro D2.out ⟨_, _, rfl, rfl, ?_⟩
     go_wp2_with fail
     refine (fix_calls _ _ r.b (HRB.out.of_below F2.out)).mono ?_
     rintro e W3 ⟨v3, rfl, hv, hb⟩
     obtain ⟨C5, n5, e5, C6, n6, e6, rfl, HV3⟩ := hv.opened
     have HQ3 := Hd (HQ2.out.below EFQ.stays hb)
     have D3 := Hd (below_next D2.out hb)
     clear hv hb
     go_wp2_with fail
     refine And.intro D3.out ⟨?_, _, ?_, rfl, ?_⟩
     rotate_left
     ·repeat (refine ⟨_, ?_, rfl, Or.inl ⟨by rfl, ?_⟩, ?_⟩; rotate_left; focus (intro W hW; replace hW := (bcell hW).1; go_simp; try with_reducible rfl); (try simp only [SQ]))
      exact rfl
     go_wp2_with fail
     have HL4 := Hd (Blk.new W3 73 #[.slice C4 r.a.length e4, .int .i64 s, .bool (negQ (fixQ r.b)), .slice C5 n5 e5, .slice C6 n6 e6])
     have hbn := below_new W3 (.cells #[.slice C4 r.a.length e4, .int .i64 s, .bool (negQ (fixQ r.b)), .slice C5 n5 e5, .slice C6 n6 e6] 73)
     have D4 := Hd (below_next D3.out hbn)
     have HQ4 := Hd (HQ3.out.below EFQ.stays hbn)
     have HV4 := Hd (HV3.out.of_below hbn)
     obtain ⟨gl, hgl⟩ : ∃ g, g = W3.heap.size := ⟨_, rfl⟩
     rw [← hgl] at HL4 ⊢
     generalize W3.alloc (.cells #[.slice C4 r.a.length e4, .int .i64 s, .bool (negQ (fixQ r.b)), .slice C5 n5 e5, .slice C6 n6 e6] 73) = W4 at *
     clear hgl hbn
     refine And.intro D4.out ⟨_, rfl, ?_⟩
     have F4 := Hd (below_next HB1.out D4.out)
     have HBQ4 := Hd (HBQ.out.below F4.out HBQ.out.lt)
     have HRO4 := Hd (HRO.out.below ERO.stays F4.out)
     have HFR4 := Hd (HFR.out.below F4.out)
     have HQO4 := Hd (HQO.out.below EFQ.stays F4.out)
     have HK4 := Hd (HK.out.step F4.out)
     have hbase4 : w.heap.size ≤ W4.heap.size := Nat.le_trans hsz3 D4.out.size
     have HER : Hid (ERO w.heap.size W4 #[.slice C4 r.a.length e4, .int .i64 s, .bool (negQ (fixQ r.b)), .slice C5 n5 e5, .slice C6 n6 e6] (cleanR r)) := ⟨_, _, _, _, _, _, _, by unfold cleanR; rw [HSE.out], HIS.out, HQ4.out, HV4.out⟩
     simp only [SQ, List.drop_succ_cons, List.drop_zero]
     clear i0 i1 i2 i3 z0 z1 z2 z3 z4
     go_wp2_with (at_builtin; refine wpl_appendR5 rfl (.tmp 23) (.tmp 33) rfl (base := w.heap.size) (.slice A5 i c5) (rq.take i) rfl HRO4.out (cleanR r) rfl HL4.out HER.out hrl hbase4 ?_; intro v6 W6 hro6 hcg6 hw6 hob6; obtain ⟨A6, c6, hv6, _⟩ := hro6.slice; rw [← HNX.out] at hro6 hv6; rw [HRL.out] at hv6; subst hv6; have HRO6 := Hd hro6; have HBQ6 := Hd (HBQ4.out.chg hcg6 (by decide)); have HFR6 := Hd (HFR4.out.chg hcg6 (by decide)); have HQO6 := Hd (QO.chg HQO4.out hcg6 (by decide)); have HK6 := Hd (HS.chg HK4.out hcg6 (by simp) rfl hw6); have hsz6 : w.heap.size + 2 ≤ W6.heap.size := (by have := hcg6.1.1; have := D4.out.size; have := HB1.out.size; omega); obtain ⟨i0, i1, i2, i3⟩ := HBQ6.out.c4; obtain ⟨f0, f1, f2, f3⟩ := HBQ6.out.f4; have hltq6 := HBQ6.out.lt; clear hro6 hcg6 hw6 hob6)
     refine NoPanic.normal ?_
     have hcp := chg_put1 (base := w.heap.size) (j := 3) HBQ6.out (by omega) prog_words (.slice A6 (i + 1) c6)
     have HX1 := Hd (HBQ6.out.put 3 (.slice A6 (i + 1) c6))
     have HX2 := Hd (RO.chg HRO6.out hcp (by decide) (by decide))
     have HX3 := Hd (HFR6.out.chg hcp (by decide))
     have HX4 := Hd (QO.chg HQO6.out hcp (by decide))
     have HX5 := Hd (HK6.out.other1 (g := gq) (by omega) (by simp; omega) 3 (.slice A6 (i + 1) c6))
     have hsz7 : w.heap.size + 2 ≤ (W6.setCell ⟨gq, 3, none⟩ (.slice A6 (i + 1) c6)).heap.size := by have := hcp.1.1; omega
     clear hcp
     go_wp2_with fail
     go_roundw
     case rel => exact ⟨i + 1, by omega, by go_num, ⟨A6, c6, HX1.out, HX2.out⟩, HX3.out, HX4.out, hsz7, HX5.out⟩
     case measure => simp [intOf]; omega
    ·obtain rfl : i = p.rows.length := by omega
     have hrt : rq.take p.rows.length = rq := List.take_of_length_le (by rw [HRQ.out, List.length_map]; exact Nat.le_refl _)
     rw [hrt] at HRO
     clear hrt
     obtain ⟨i0, i1, i2, i3⟩ := HBQ.out.c4
     have hltq := HBQ.out.lt
     obtain ⟨j0, j1, j2, j3⟩ := (HK.out.blk 0 rfl).c4
     obtain ⟨f0, f1, f2, f3⟩ := (HK.out.blk 0 rfl).f4
     have hlt0 := (HK.out.blk 0 rfl).lt
     go_wp2_with fail
     have hcg := chg_put4 (base := w.heap.size) (HK.out.blk 0 rfl) (by simp) prog_words (.int .i64 vars) (.slice B1 p.free.length d1) (.slice B2 p.goal.length d2) (.slice A5 p.rows.length c5)
     exact ret26 Tryz.results53 rfl ((HK.out.blk 0 rfl).put4 _ _ _ _) ⟨_, _, _, by unfold cleanQ; rw [HV.out], HFR.out.chg hcg (by decide), by show QO _ _ _ (p.goal.map fixQ); rw [← HQG.out]; exact QO.chg HQO.out hcg (by decide), by show RO _ _ _ (p.rows.map cleanR); rw [← HRQ.out]; exact RO.chg HRO.out hcg (by decide) (by decide), below_put4 HK.out.2 (by simp) _ _ _ _⟩
 ·have D0 : Hid (Below W0.heap.size W0 W0.drew) := Below.drew (Below.refl _ _)
  have E0 := Hd (HS.step H0.out D0.out)
  have hz0 : w.heap.size + 2 ≤ W0.drew.heap.size := hsz1
  generalize W0.drew = Wx at *
  go_wp2_with fail
  have hBq := Blk.new Wx 26 #[.int .i64 0, .slice none 0 0, .slice none 0 0, .slice none 0 0]
  obtain ⟨gq, hgq⟩ : ∃ gq, gq = Wx.heap.size := ⟨_, rfl⟩
  have hgq2 : w.heap.size + 2 ≤ gq := by have := hz0; omega
  have hba2 := (below_new Wx (.cells #[.int .i64 0, .slice none 0 0, .slice none 0 0, .slice none 0 0] 26))
  have D1 := Hd (below_next D0.out hba2)
  have E1 := Hd (HS.step H0.out D1.out)
  have hz1 : w.heap.size + 2 ≤ (Wx.alloc (.cells #[.int .i64 0, .slice none 0 0, .slice none 0 0, .slice none 0 0] 26)).heap.size := Nat.le_trans hz0 (hba2).size
  try rw [← show gq = Wx.heap.size from hgq] at hBq
  try rw [← show gq = Wx.heap.size from hgq]
  have HB1 := Hd hBq
  clear hBq hba2 hgq
  generalize Wx.alloc (.cells #[.int .i64 0, .slice none 0 0, .slice none 0 0, .slice none 0 0] 26) = Wd at *
  refine And.intro D1.out ⟨_, _, rfl, rfl, ?_⟩
  simp only [SQ]
  go_wp2_with (at_builtin; (refine wpl_append_bools rfl (.const (.slice none 0 0)) (.tmp 9) rfl rfl (base := 0) rfl p.free rfl (H1.out.below EB.stays E1.out.2) hlf' (Nat.zero_le _) ?_); intro v1 Wa hfr hba)
  have D2 := Hd (below_next D1.out hba)
  have E2 := Hd (HS.step H0.out D2.out)
  have hz2 : w.heap.size + 2 ≤ Wa.heap.size := Nat.le_trans hz1 (hba).size
  have HB2 := Hd (HB1.out.below hba HB1.out.lt)
  obtain ⟨B1, d1, rfl, _⟩ := hfr.1.slice
  have HF2 := Hd hfr
  clear hfr hba
  go_wp2_with fail
  refine And.intro D2.out ⟨_, _, rfl, rfl, ?_⟩
  go_wp2_with fail
  refine (fixed_calls _ _ p.goal (H2.out.below EF.stays E2.out.2) hlg').mono ?_
  rintro e Wb ⟨v2, rfl, hq, hbb⟩
  have hq' := hq.lower (Nat.le_trans (Nat.le_add_right _ 2) hz2)
  have D3 := Hd (below_next D2.out hbb)
  have E3 := Hd (HS.step H0.out D3.out)
  have hz3 : w.heap.size + 2 ≤ Wb.heap.size := Nat.le_trans hz2 (hbb).size
  have HB3 := Hd (HB2.out.below hbb HB2.out.lt)
  have HF3 := Hd (HF2.out.below hbb)
  obtain ⟨B2, d2, hv2, _⟩ := hq'.slice
  rw [List.length_map] at hv2
  subst hv2
  have HQ3 := Hd hq'
  clear hq hq' hbb
  go_wp2_with fail
  refine And.intro D3.out ⟨?_, ?_, ?_⟩
  rotate_left
  ·repeat (refine ⟨_, ?_, rfl, Or.inl ⟨by rfl, ?_⟩, ?_⟩; rotate_left; focus (intro W hW; replace hW := (bcell hW).1; go_simp; try with_reducible rfl); (try simp only [SQ]))
   exact rfl
  obtain ⟨i0, i1, i2, i3⟩ := HB3.out.c4
  obtain ⟨g0, g1, g2, g3⟩ := HB3.out.f4
  have hltq := HB3.out.lt
  go_wp2_with fail
  refine NoPanic.normal ?_
  have HBc := Hd (HB3.out.put4 (.int .i64 vars) (.slice B1 p.free.length d1) (.slice B2 p.goal.length d2) (.slice none 0 0))
  have hcg := chg_put4 (base := w.heap.size) HB3.out (by omega) prog_words (.int .i64 vars) (.slice B1 p.free.length d1) (.slice B2 p.goal.length d2) (.slice none 0 0)
  have HFc := Hd (HF3.out.chg hcg (by decide))
  have HQc := Hd (QO.chg HQ3.out hcg (by decide))
  have HSc := Hd (E3.out.other4 (g := gq) (by omega) (by simp; omega) (.int .i64 vars) (.slice B1 p.free.length d1) (.slice B2 p.goal.length d2) (.slice none 0 0))
  have hszc : w.heap.size + 2 ≤ ((((Wb.setCell ⟨gq, 0, none⟩ (.int .i64 vars)).setCell ⟨gq, 1, none⟩ (.slice B1 p.free.length d1)).setCell ⟨gq, 2, none⟩ (.slice B2 p.goal.length d2)).setCell ⟨gq, 3, none⟩ (.slice none 0 0)).heap.size := by have := hcg.1.1; omega
  generalize (((Wb.setCell ⟨gq, 0, none⟩ (.int .i64 vars)).setCell ⟨gq, 1, none⟩ (.slice B1 p.free.length d1)).setCell ⟨gq, 2, none⟩ (.slice B2 p.goal.length d2)).setCell ⟨gq, 3, none⟩ (.slice none 0 0) = Wc at *
  clear i0 i1 i2 i3 g0 g1 g2 g3 hltq hcg
  clear D0 E0 hz0
  clear D1 E1 hz1
  clear D2 E2 hz2
  clear D3 E3 hz3
  clear H0 hsz1 l0 x0 x1 x2 x3
  obtain ⟨x0, x1, x2, x3⟩ := HSc.out.c4 1 rfl
  have hltp := (HSc.out.blk 1 rfl).lt
  obtain ⟨qg, hqg⟩ : ∃ q, q = p.goal.map fixQ := ⟨_, rfl⟩
  rw [← hqg] at HQc
  have HQG := Hd hqg
  obtain ⟨rq, hrq⟩ : ∃ q, q = p.rows.map cleanR := ⟨_, rfl⟩
  have HRQ := Hd hrq
  clear hqg hrq
  go_wp2_with fail
  clear x0 x1 x2 x3
  go_loopw [18] (fun vi wr => ∃ i : Nat, i ≤ p.rows.length ∧ vi = .int .i64 (i : Int) ∧ (∃ A5 c5, Blk wr gq 26 #[.int .i64 vars, .slice B1 p.free.length d1, .slice B2 p.goal.length d2, .slice A5 i c5] ∧ RO w.heap.size wr (.slice A5 i c5) (rq.take i)) ∧ FrO 0 wr (.slice B1 p.free.length d1) p.free ∧ QO w.heap.size wr (.slice B2 p.goal.length d2) qg ∧ w.heap.size + 2 ≤ wr.heap.size ∧ HS w [(w.heap.size + 1, 26, #[.int .i64 0, .slice none 0 0, .slice none 0 0, .slice none 0 0]), (w.heap.size, 26, #[.int .i64 vars, .slice A1 p.free.length c1, .slice A2 p.goal.length c2, .slice A3 p.rows.length c3])] wr) (fun vi _ => p.rows.length - (intOf vi).toNat)
  case atStart => exact ⟨0, Nat.zero_le _, rfl, ⟨none, 0, HBc.out, OL.nil _ _ _ _ _⟩, HFc.out, HQc.out, hszc, HSc.out⟩
  case round =>
   obtain ⟨i, hi, rfl, ⟨A5, c5, hbq, hro⟩, hfr, hqo, hsz2, hs⟩ := hrel
   have HBQ := Hd hbq
   have HRO := Hd hro
   have HFR := Hd hfr
   have HQO := Hd hqo
   have HK := Hd hs
   clear hbq hro hfr hqo hs HBc HFc HQc HSc hszc hltp
   by_cases hlt : i < p.rows.length
   ·obtain ⟨r, hr'⟩ : ∃ r, p.rows[i]? = some r := ⟨p.rows[i], List.getElem?_eq_getElem hlt⟩
    obtain ⟨g1, o1, C1, e1, C2, n2, e2, C3, n3, e3, rfl, hg, k0, k1, k2, k3, k4, HIS, HRA, HRB⟩ := RL.at5 (H3.out.below ER.stays HK.out.2) hr'
    have hra : r.a.length ≤ 1000000000 := by have := HLA.out r (List.mem_of_getElem? hr'); omega
    have HNX : Hid (rq.take (i + 1) = rq.take i ++ [cleanR r]) := by
     unfold Hid
     rw [List.take_add_one, HRQ.out, List.getElem?_map, hr']
     rfl
    have hrl : (rq.take i).length ≤ 1000000000 := by rw [List.length_take]; omega
    have HRL : Hid ((rq.take (i + 1)).length = i + 1) := by unfold Hid; rw [List.length_take, HRQ.out, List.length_map]; omega
    have m1 : (i : Int) < (p.rows.length : Int) := by omega
    have m3 : (i : Int).toNat = i := by omega
    have m4 : (0 : Int) ≤ (i : Int) := by omega
    obtain ⟨s, hs⟩ : ∃ s, s = r.s := ⟨_, rfl⟩
    rw [← hs] at k1
    have HSE := Hd hs
    have hltq := HBQ.out.lt
    clear hr' hs
    go_wp2_with fail
    have HB1 := Hd (below_new wr (.cells #[.slice C1 r.a.length e1, .int .i64 s, .bool r.b.neg, .slice C2 n2 e2, .slice C3 n3 e3] 73))
    have HKB1 := Hd (Blk.new wr 73 #[.slice C1 r.a.length e1, .int .i64 s, .bool r.b.neg, .slice C2 n2 e2, .slice C3 n3 e3])
    obtain ⟨gr, hgr⟩ : ∃ gr, gr = wr.heap.size := ⟨_, rfl⟩
    rw [← hgr] at HKB1
    generalize wr.alloc (.cells #[.slice C1 r.a.length e1, .int .i64 s, .bool r.b.neg, .slice C2 n2 e2, .slice C3 n3 e3] 73) = W1 at *
    rw [← hgr]
    clear hgr k0 k1 k2 k3 k4
    have z0 := HKB1.out.cell (j := 0) rfl
    have z1 := HKB1.out.cell (j := 1) rfl
    have z2 := HKB1.out.cell (j := 2) rfl
    have z3 := HKB1.out.cell (j := 3) rfl
    have z4 := HKB1.out.cell (j := 4) rfl
    have hzl := HKB1.out.lt
    have HBQ1 := Hd (HBQ.out.below HB1.out HBQ.out.lt)
    obtain ⟨i0, i1, i2, i3⟩ := HBQ1.out.c4
    have hltq1 := HBQ1.out.lt
    have hsz3 : w.heap.size ≤ W1.heap.size := by have := HB1.out.size; omega
    refine wp_chainF (l := [_, _, _, _, _, _, _, _, _, _, _, _, _, _, _]) (S := Below W1.heap.size W1) 12 [([0, 1, 2, 3, 5, 6, 7, 8], 4), ([], 9), ([10], 11)] [] (by kernel_rfl) (by kernel_rfl) (by kernel_rfl) rfl (Below.drew (Below.refl _ _)) ?_
    refine ⟨?_, _, ?_, rfl, ?_⟩
    rotate_left
    ·repeat (refine ⟨_, ?_, rfl, Or.inl ⟨by rfl, ?_⟩, ?_⟩; rotate_left; focus (intro W hW; replace hW := (bcell hW).1; go_simp; try with_reducible rfl); (try simp only [SQ]))
     exact rfl
    have D0 : Hid (Below W1.heap.size W1 W1.drew) := Below.drew (Below.refl _ _)
    have F0 := Hd (below_next HB1.out D0.out)
    go_wp2_with fail
    refine (fixed_calls _ _ r.a (HRA.out.below EF.stays F0.out) hra).mono ?_
    rintro e W2 ⟨v2, rfl, hq, hb⟩
    have hq' := hq.lower (base' := w.heap.size) (Nat.le_trans hsz3 D0.out.size)
    obtain ⟨C4, e4, hv2, _⟩ := hq'.slice
    rw [List.length_map] at hv2
    subst hv2
    have HQ2 := Hd hq'
    have D2 := Hd (below_next D0.out hb)
    have F2 := Hd (below_next HB1.out D2.out)
    clear hq hq' hb
    go_wp2_with fail
    refine And.intro D2.out ⟨_, _, rfl, rfl, ?_⟩
    go_wp2_with fail
    refine (fix_calls _ _ r.b (HRB.out.of_below F2.out)).mono ?_
    rintro e W3 ⟨v3, rfl, hv, hb⟩
    obtain ⟨C5, n5, e5, C6, n6, e6, rfl, HV3⟩ := hv.opened
    have HQ3 := Hd (HQ2.out.below EFQ.stays hb)
    have D3 := Hd (below_next D2.out hb)
    clear hv hb
    go_wp2_with fail
    refine And.intro D3.out ⟨?_, _, ?_, rfl, ?_⟩
    rotate_left
    ·repeat (refine ⟨_, ?_, rfl, Or.inl ⟨by rfl, ?_⟩, ?_⟩; rotate_left; focus (intro W hW; replace hW := (bcell hW).1; go_simp; try with_reducible rfl); (try simp only [SQ]))
     exact rfl
    go_wp2_with fail
    have HL4 := Hd (Blk.new W3 73 #[.slice C4 r.a.length e4, .int .i64 s, .bool (negQ (fixQ r.b)), .slice C5 n5 e5, .slice C6 n6 e6])
    have hbn := below_new W3 (.cells #[.slice C4 r.a.length e4, .int .i64 s, .bool (negQ (fixQ r.b)), .slice C5 n5 e5, .slice C6 n6 e6] 73)
    have D4 := Hd (below_next D3.out hbn)
    have HQ4 := Hd (HQ3.out.below EFQ.stays hbn)
    have HV4 := Hd (HV3.out.of_below hbn)
    obtain ⟨gl, hgl⟩ : ∃ g, g = W3.heap.size := ⟨_, rfl⟩
    rw [← hgl] at HL4 ⊢
    generalize W3.alloc (.cells #[.slice C4 r.a.length e4, .int .i64 s, .bool (negQ (fixQ r.b)), .slice C5 n5 e5, .slice C6 n6 e6] 73) = W4 at *
    clear hgl hbn
    refine And.intro D4.out ⟨_, rfl, ?_⟩
    have F4 := Hd (below_next HB1.out D4.out)
    have HBQ4 := Hd (HBQ.out.below F4.out HBQ.out.lt)
    have HRO4 := Hd (HRO.out.below ERO.stays F4.out)
    have HFR4 := Hd (HFR.out.below F4.out)
    have HQO4 := Hd (HQO.out.below EFQ.stays F4.out)
    have HK4 := Hd (HK.out.step F4.out)
    have hbase4 : w.heap.size ≤ W4.heap.size := Nat.le_trans hsz3 D4.out.size
    have HER : Hid (ERO w.heap.size W4 #[.slice C4 r.a.length e4, .int .i64 s, .bool (negQ (fixQ r.b)), .slice C5 n5 e5, .slice C6 n6 e6] (cleanR r)) := ⟨_, _, _, _, _, _, _, by unfold cleanR; rw [HSE.out], HIS.out, HQ4.out, HV4.out⟩
    simp only [SQ, List.drop_succ_cons, List.drop_zero]
    clear i0 i1 i2 i3 z0 z1 z2 z3 z4
    go_wp2_with (at_builtin; refine wpl_appendR5 rfl (.tmp 23) (.tmp 33) rfl (base := w.heap.size) (.slice A5 i c5) (rq.take i) rfl HRO4.out (cleanR r) rfl HL4.out HER.out hrl hbase4 ?_; intro v6 W6 hro6 hcg6 hw6 hob6; obtain ⟨A6, c6, hv6, _⟩ := hro6.slice; rw [← HNX.out] at hro6 hv6; rw [HRL.out] at hv6; subst hv6; have HRO6 := Hd hro6; have HBQ6 := Hd (HBQ4.out.chg hcg6 (by decide)); have HFR6 := Hd (HFR4.out.chg hcg6 (by decide)); have HQO6 := Hd (QO.chg HQO4.out hcg6 (by decide)); have HK6 := Hd (HS.chg HK4.out hcg6 (by simp) rfl hw6); have hsz6 : w.heap.size + 2 ≤ W6.heap.size := (by have := hcg6.1.1; have := D4.out.size; have := HB1.out.size; omega); obtain ⟨i0, i1, i2, i3⟩ := HBQ6.out.c4; obtain ⟨f0, f1, f2, f3⟩ := HBQ6.out.f4; have hltq6 := HBQ6.out.lt; clear hro6 hcg6 hw6 hob6)
    refine NoPanic.normal ?_
    have hcp := chg_put1 (base := w.heap.size) (j := 3) HBQ6.out (by omega) prog_words (.slice A6 (i + 1) c6)
    have HX1 := Hd (HBQ6.out.put 3 (.slice A6 (i + 1) c6))
    have HX2 := Hd (RO.chg HRO6.out hcp (by decide) (by decide))
    have HX3 := Hd (HFR6.out.chg hcp (by decide))
    have HX4 := Hd (QO.chg HQO6.out hcp (by decide))
    have HX5 := Hd (HK6.out.other1 (g := gq) (by omega) (by simp; omega) 3 (.slice A6 (i + 1) c6))
    have hsz7 : w.heap.size + 2 ≤ (W6.setCell ⟨gq, 3, none⟩ (.slice A6 (i + 1) c6)).heap.size := by have := hcp.1.1; omega
    clear hcp
    go_wp2_with fail
    go_roundw
    case rel => exact ⟨i + 1, by omega, by go_num, ⟨A6, c6, HX1.out, HX2.out⟩, HX3.out, HX4.out, hsz7, HX5.out⟩
    case measure => simp [intOf]; omega
   ·obtain rfl : i = p.rows.length := by omega
    have hrt : rq.take p.rows.length = rq := List.take_of_length_le (by rw [HRQ.out, List.length_map]; exact Nat.le_refl _)
    rw [hrt] at HRO
    clear hrt
    obtain ⟨i0, i1, i2, i3⟩ := HBQ.out.c4
    have hltq := HBQ.out.lt
    obtain ⟨j0, j1, j2, j3⟩ := (HK.out.blk 0 rfl).c4
    obtain ⟨f0, f1, f2, f3⟩ := (HK.out.blk 0 rfl).f4
    have hlt0 := (HK.out.blk 0 rfl).lt
    go_wp2_with fail
    have hcg := chg_put4 (base := w.heap.size) (HK.out.blk 0 rfl) (by simp) prog_words (.int .i64 vars) (.slice B1 p.free.length d1) (.slice B2 p.goal.length d2) (.slice A5 p.rows.length c5)
    exact ret26 Tryz.results53 rfl ((HK.out.blk 0 rfl).put4 _ _ _ _) ⟨_, _, _, by unfold cleanQ; rw [HV.out], HFR.out.chg hcg (by decide), by show QO _ _ _ (p.goal.map fixQ); rw [← HQG.out]; exact QO.chg HQO.out hcg (by decide), by show RO _ _ _ (p.rows.map cleanR); rw [← HRQ.out]; exact RO.chg HRO.out hcg (by decide) (by decide), below_put4 HK.out.2 (by simp) _ _ _ _⟩
set_option maxHeartbeats 32000000 in
set_option maxRecDepth 100000 in
theorem rclean26_calls (w : World) (A1 A2 A3 : Option Addr) (c1 c2 c3 : Nat) (p : ProgF) (h : PR w (.agg #[.int .i64 p.vars, .slice A1 p.free.length c1, .slice A2 p.goal.length c2, .slice A3 p.rows.length c3]) p) (hlf : p.free.length ≤ 1000) (hlg : p.goal.length ≤ 1000) (hlr : p.rows.length ≤ 1000) (hla : ∀ r ∈ p.rows, r.a.length ≤ 1000) : Calls Tryz.prog 61 #[.agg #[.int .i64 p.vars, .slice A1 p.free.length c1, .slice A2 p.goal.length c2, .slice A3 p.rows.length c3]] w fun e w' => XPost w (.slice A1 p.free.length c1) (cleanQ p) e w' := by
 obtain ⟨B1, b1, B2, b2, B3, b3, ev, HI, H1, H2, H3⟩ := h.opened
 obtain ⟨⟨rfl, rfl⟩, ⟨rfl, rfl⟩, rfl, rfl⟩ : (A1 = B1 ∧ c1 = b1) ∧ (A2 = B2 ∧ c2 = b2) ∧ A3 = B3 ∧ c3 = b3 := by simpa using ev
 clear h ev
 obtain ⟨vars, hv⟩ : ∃ n, n = p.vars := ⟨_, rfl⟩
 rw [← hv]
 have HV := Hd hv
 have HLA := Hd hla
 clear hv hla
 go_enter Tryz.func61, Tryz.ntmps61
 go_wp2_with fail
 have H0 := Hd (HS.two (w := w) #[.int .i64 vars, .slice A1 p.free.length c1, .slice A2 p.goal.length c2, .slice A3 p.rows.length c3] #[.int .i64 0, .slice none 0 0, .slice none 0 0, .slice none 0 0] 26 26)
 have hsz0 : ((w.alloc (.cells #[.int .i64 vars, .slice A1 p.free.length c1, .slice A2 p.goal.length c2, .slice A3 p.rows.length c3] 26)).alloc (.cells #[.int .i64 0, .slice none 0 0, .slice none 0 0, .slice none 0 0] 26)).heap.size = w.heap.size + 2 := by simp
 generalize (w.alloc (.cells #[.int .i64 vars, .slice A1 p.free.length c1, .slice A2 p.goal.length c2, .slice A3 p.rows.length c3] 26)).alloc (.cells #[.int .i64 0, .slice none 0 0, .slice none 0 0, .slice none 0 0] 26) = W0 at *
 have hsz1 : w.heap.size + 2 ≤ W0.heap.size := by omega
 clear hsz0
 obtain ⟨x0, x1, x2, x3⟩ := H0.out.c4 1 rfl
 have l0 := (H0.out.blk 1 rfl).lt
 have hlg' : p.goal.length ≤ 1000000000 := by omega
 have HFRA := Hd (FrO.old H1.out)
 refine wp_tree (l := [_, _, _, _, _, _, _, _, _, _]) (S := Below W0.heap.size W0) 9 (.two [0, 1, 2, 3, 4, 5] 6 (.one [7] 8 (.fin [])) 8 (.one [] 6 (.fin [7]))) (by kernel_rfl) (by kernel_rfl) (by kernel_rfl) rfl (Below.drew (Below.refl _ _)) ?_
 refine ⟨?_, _, _, ?_, rfl, rfl, ?_, ?_⟩
 rotate_left
 ·repeat (refine ⟨_, ?_, rfl, Or.inl ⟨by rfl, ?_⟩, ?_⟩; rotate_left; focus (intro W hW; replace hW := (bcell hW).1; go_simp; try with_reducible rfl); (try simp only [SQ]))
  exact rfl
 ·have D0 : Hid (Below W0.heap.size W0 W0.drew) := Below.drew (Below.refl _ _)
  have E0 := Hd (HS.step H0.out D0.out)
  have hz0 : w.heap.size + 2 ≤ W0.drew.heap.size := hsz1
  generalize W0.drew = Wx at *
  have HF0 := Hd (HFRA.out.below E0.out.2)
  go_wp2_with fail
  refine (rclean_calls _ _ p.goal (H2.out.below EF.stays E0.out.2) hlg').mono ?_
  rintro e Wb ⟨v2, rfl, hq, hbb⟩
  have hq' := hq.lower (Nat.le_trans (Nat.le_add_right _ 2) hz0)
  have D1 := Hd (below_next D0.out hbb)
  have E1 := Hd (HS.step H0.out D1.out)
  have hz1 : w.heap.size + 2 ≤ Wb.heap.size := Nat.le_trans hz0 (hbb).size
  have HF1 := Hd (HF0.out.below hbb)
  obtain ⟨B2, d2, hv2, _⟩ := hq'.slice
  rw [List.length_map] at hv2
  subst hv2
  have HQ1 := Hd hq'
  clear hq hq' hbb
  go_wp2_with fail
  refine And.intro D1.out ⟨?_, _, ?_, rfl, ?_⟩
  rotate_left
  ·repeat (refine ⟨_, ?_, rfl, Or.inl ⟨by rfl, ?_⟩, ?_⟩; rotate_left; focus (intro W hW; replace hW := (bcell hW).1; go_simp; try with_reducible rfl); (try simp only [SQ]))
   exact rfl
  go_wp2_with fail
  have hBq := Blk.new Wb 26 #[.int .i64 0, .slice none 0 0, .slice none 0 0, .slice none 0 0]
  obtain ⟨gq, hgq⟩ : ∃ gq, gq = Wb.heap.size := ⟨_, rfl⟩
  have hgq2 : w.heap.size + 2 ≤ gq := by have := hz1; omega
  have hba2 := (below_new Wb (.cells #[.int .i64 0, .slice none 0 0, .slice none 0 0, .slice none 0 0] 26))
  have D2 := Hd (below_next D1.out hba2)
  have E2 := Hd (HS.step H0.out D2.out)
  have hz2 : w.heap.size + 2 ≤ (Wb.alloc (.cells #[.int .i64 0, .slice none 0 0, .slice none 0 0, .slice none 0 0] 26)).heap.size := Nat.le_trans hz1 (hba2).size
  have HF2 := Hd (HF1.out.below hba2)
  have HQ2 := Hd (HQ1.out.below EFQ.stays hba2)
  try rw [← show gq = Wb.heap.size from hgq] at hBq
  try rw [← show gq = Wb.heap.size from hgq]
  have HB2 := Hd hBq
  clear hBq hba2 hgq
  generalize Wb.alloc (.cells #[.int .i64 0, .slice none 0 0, .slice none 0 0, .slice none 0 0] 26) = Wd at *
  refine And.intro D2.out ⟨_, rfl, ?_⟩
  obtain ⟨i0, i1, i2, i3⟩ := HB2.out.c4
  obtain ⟨g0, g1, g2, g3⟩ := HB2.out.f4
  have hltq := HB2.out.lt
  go_wp2_with fail
  refine NoPanic.normal ?_
  have HBc := Hd (HB2.out.put4 (.int .i64 vars) (.slice A1 p.free.length c1) (.slice B2 p.goal.length d2) (.slice none 0 0))
  have hcg := chg_put4 (base := w.heap.size) HB2.out (by omega) prog_words (.int .i64 vars) (.slice A1 p.free.length c1) (.slice B2 p.goal.length d2) (.slice none 0 0)
  have HFc := Hd (HF2.out.chg hcg (by decide))
  have HQc := Hd (QO.chg HQ2.out hcg (by decide))
  have HSc := Hd (E2.out.other4 (g := gq) (by omega) (by simp; omega) (.int .i64 vars) (.slice A1 p.free.length c1) (.slice B2 p.goal.length d2) (.slice none 0 0))
  have hszc : w.heap.size + 2 ≤ ((((Wd.setCell ⟨gq, 0, none⟩ (.int .i64 vars)).setCell ⟨gq, 1, none⟩ (.slice A1 p.free.length c1)).setCell ⟨gq, 2, none⟩ (.slice B2 p.goal.length d2)).setCell ⟨gq, 3, none⟩ (.slice none 0 0)).heap.size := by have := hcg.1.1; omega
  generalize (((Wd.setCell ⟨gq, 0, none⟩ (.int .i64 vars)).setCell ⟨gq, 1, none⟩ (.slice A1 p.free.length c1)).setCell ⟨gq, 2, none⟩ (.slice B2 p.goal.length d2)).setCell ⟨gq, 3, none⟩ (.slice none 0 0) = Wc at *
  clear i0 i1 i2 i3 g0 g1 g2 g3 hltq hcg
  clear D0 E0 hz0
  clear D1 E1 hz1
  clear D2 E2 hz2
  clear H0 hsz1 l0 x0 x1 x2 x3
  obtain ⟨x0, x1, x2, x3⟩ := HSc.out.c4 1 rfl
  have hltp := (HSc.out.blk 1 rfl).lt
  obtain ⟨qg, hqg⟩ : ∃ q, q = p.goal.map fixQ := ⟨_, rfl⟩
  rw [← hqg] at HQc
  have HQG := Hd hqg
  obtain ⟨rq, hrq⟩ : ∃ q, q = p.rows.map cleanR := ⟨_, rfl⟩
  have HRQ := Hd hrq
  clear hqg hrq
  go_wp2_with fail
  clear x0 x1 x2 x3
  go_loopw [17] (fun vi wr => ∃ i : Nat, i ≤ p.rows.length ∧ vi = .int .i64 (i : Int) ∧ (∃ A5 c5, Blk wr gq 26 #[.int .i64 vars, .slice A1 p.free.length c1, .slice B2 p.goal.length d2, .slice A5 i c5] ∧ RO w.heap.size wr (.slice A5 i c5) (rq.take i)) ∧ FrO w.heap.size wr (.slice A1 p.free.length c1) p.free ∧ QO w.heap.size wr (.slice B2 p.goal.length d2) qg ∧ w.heap.size + 2 ≤ wr.heap.size ∧ HS w [(w.heap.size + 1, 26, #[.int .i64 0, .slice none 0 0, .slice none 0 0, .slice none 0 0]), (w.heap.size, 26, #[.int .i64 vars, .slice A1 p.free.length c1, .slice A2 p.goal.length c2, .slice A3 p.rows.length c3])] wr) (fun vi _ => p.rows.length - (intOf vi).toNat)
  case atStart => exact ⟨0, Nat.zero_le _, rfl, ⟨none, 0, HBc.out, OL.nil _ _ _ _ _⟩, HFc.out, HQc.out, hszc, HSc.out⟩
  case round =>
   obtain ⟨i, hi, rfl, ⟨A5, c5, hbq, hro⟩, hfr, hqo, hsz2, hs⟩ := hrel
   have HBQ := Hd hbq
   have HRO := Hd hro
   have HFR := Hd hfr
   have HQO := Hd hqo
   have HK := Hd hs
   clear hbq hro hfr hqo hs HBc HFc HQc HSc hszc hltp
   by_cases hlt : i < p.rows.length
   ·obtain ⟨r, hr'⟩ : ∃ r, p.rows[i]? = some r := ⟨p.rows[i], List.getElem?_eq_getElem hlt⟩
    obtain ⟨g1, o1, C1, e1, C2, n2, e2, C3, n3, e3, rfl, hg, k0, k1, k2, k3, k4, HIS, HRA, HRB⟩ := RL.at5 (H3.out.below ER.stays HK.out.2) hr'
    have hra : r.a.length ≤ 1000000000 := by have := HLA.out r (List.mem_of_getElem? hr'); omega
    have HNX : Hid (rq.take (i + 1) = rq.take i ++ [cleanR r]) := by
     unfold Hid
     rw [List.take_add_one, HRQ.out, List.getElem?_map, hr']
     rfl
    have hrl : (rq.take i).length ≤ 1000000000 := by rw [List.length_take]; omega
    have HRL : Hid ((rq.take (i + 1)).length = i + 1) := by unfold Hid; rw [List.length_take, HRQ.out, List.length_map]; omega
    have m1 : (i : Int) < (p.rows.length : Int) := by omega
    have m3 : (i : Int).toNat = i := by omega
    have m4 : (0 : Int) ≤ (i : Int) := by omega
    obtain ⟨s, hs⟩ : ∃ s, s = r.s := ⟨_, rfl⟩
    rw [← hs] at k1
    have HSE := Hd hs
    have hltq := HBQ.out.lt
    clear hr' hs
    go_wp2_with fail
    have HB1 := Hd (below_new wr (.cells #[.slice C1 r.a.length e1, .int .i64 s, .bool r.b.neg, .slice C2 n2 e2, .slice C3 n3 e3] 73))
    have HKB1 := Hd (Blk.new wr 73 #[.slice C1 r.a.length e1, .int .i64 s, .bool r.b.neg, .slice C2 n2 e2, .slice C3 n3 e3])
    obtain ⟨gr, hgr⟩ : ∃ gr, gr = wr.heap.size := ⟨_, rfl⟩
    rw [← hgr] at HKB1
    generalize wr.alloc (.cells #[.slice C1 r.a.length e1, .int .i64 s, .bool r.b.neg, .slice C2 n2 e2, .slice C3 n3 e3] 73) = W1 at *
    rw [← hgr]
    clear hgr k0 k1 k2 k3 k4
    have z0 := HKB1.out.cell (j := 0) rfl
    have z1 := HKB1.out.cell (j := 1) rfl
    have z2 := HKB1.out.cell (j := 2) rfl
    have z3 := HKB1.out.cell (j := 3) rfl
    have z4 := HKB1.out.cell (j := 4) rfl
    have hzl := HKB1.out.lt
    have HBQ1 := Hd (HBQ.out.below HB1.out HBQ.out.lt)
    obtain ⟨i0, i1, i2, i3⟩ := HBQ1.out.c4
    have hltq1 := HBQ1.out.lt
    have hsz3 : w.heap.size ≤ W1.heap.size := by have := HB1.out.size; omega
    refine wp_chainF (l := [_, _, _, _, _, _, _, _, _, _, _, _, _, _, _]) (S := Below W1.heap.size W1) 12 [([0, 1, 2, 3, 5, 6, 7, 8], 4), ([], 9), ([10], 11)] [] (by kernel_rfl) (by kernel_rfl) (by kernel_rfl) rfl (Below.drew (Below.refl _ _)) ?_
    refine ⟨?_, _, ?_, rfl, ?_⟩
    rotate_left
    ·repeat (refine ⟨_, ?_, rfl, Or.inl ⟨by rfl, ?_⟩, ?_⟩; rotate_left; focus (intro W hW; replace hW := (bcell hW).1; go_simp; try with_reducible rfl); (try simp only [SQ]))
     exact rfl
    have D0 : Hid (Below W1.heap.size W1 W1.drew) := Below.drew (Below.refl _ _)
    have F0 := Hd (below_next HB1.out D0.out)
    go_wp2_with fail
    refine (rclean_calls _ _ r.a (HRA.out.below EF.stays F0.out) hra).mono ?_
    rintro e W2 ⟨v2, rfl, hq, hb⟩
    have hq' := hq.lower (base' := w.heap.size) (Nat.le_trans hsz3 D0.out.size)
    obtain ⟨C4, e4, hv2, _⟩ := hq'.slice
    rw [List.length_map] at hv2
    subst hv2
    have HQ2 := Hd hq'
    have D2 := Hd (below_next D0.out hb)
    have F2 := Hd (below_next HB1.out D2.out)
    clear hq hq' hb
    go_wp2_with fail
    refine And.intro D2.out ⟨_, _, rfl, rfl, ?_⟩
    go_wp2_with fail
    refine (rfix_calls _ _ r.b (HRB.out.of_below F2.out)).mono ?_
    rintro e W3 ⟨v3, rfl, hv, hb⟩
    obtain ⟨C5, n5, e5, C6, n6, e6, rfl, HV3⟩ := hv.opened
    have HQ3 := Hd (HQ2.out.below EFQ.stays hb)
    have D3 := Hd (below_next D2.out hb)
    clear hv hb
    go_wp2_with fail
    refine And.intro D3.out ⟨?_, _, ?_, rfl, ?_⟩
    rotate_left
    ·repeat (refine ⟨_, ?_, rfl, Or.inl ⟨by rfl, ?_⟩, ?_⟩; rotate_left; focus (intro W hW; replace hW := (bcell hW).1; go_simp; try with_reducible rfl); (try simp only [SQ]))
     exact rfl
    go_wp2_with fail
    have HL4 := Hd (Blk.new W3 73 #[.slice C4 r.a.length e4, .int .i64 s, .bool (negQ (fixQ r.b)), .slice C5 n5 e5, .slice C6 n6 e6])
    have hbn := below_new W3 (.cells #[.slice C4 r.a.length e4, .int .i64 s, .bool (negQ (fixQ r.b)), .slice C5 n5 e5, .slice C6 n6 e6] 73)
    have D4 := Hd (below_next D3.out hbn)
    have HQ4 := Hd (HQ3.out.below EFQ.stays hbn)
    have HV4 := Hd (HV3.out.of_below hbn)
    obtain ⟨gl, hgl⟩ : ∃ g, g = W3.heap.size := ⟨_, rfl⟩
    rw [← hgl] at HL4 ⊢
    generalize W3.alloc (.cells #[.slice C4 r.a.length e4, .int .i64 s, .bool (negQ (fixQ r.b)), .slice C5 n5 e5, .slice C6 n6 e6] 73) = W4 at *
    clear hgl hbn
    refine And.intro D4.out ⟨_, rfl, ?_⟩
    have F4 := Hd (below_next HB1.out D4.out)
    have HBQ4 := Hd (HBQ.out.below F4.out HBQ.out.lt)
    have HRO4 := Hd (HRO.out.below ERO.stays F4.out)
    have HFR4 := Hd (HFR.out.below F4.out)
    have HQO4 := Hd (HQO.out.below EFQ.stays F4.out)
    have HK4 := Hd (HK.out.step F4.out)
    have hbase4 : w.heap.size ≤ W4.heap.size := Nat.le_trans hsz3 D4.out.size
    have HER : Hid (ERO w.heap.size W4 #[.slice C4 r.a.length e4, .int .i64 s, .bool (negQ (fixQ r.b)), .slice C5 n5 e5, .slice C6 n6 e6] (cleanR r)) := ⟨_, _, _, _, _, _, _, by unfold cleanR; rw [HSE.out], HIS.out, HQ4.out, HV4.out⟩
    simp only [SQ, List.drop_succ_cons, List.drop_zero]
    clear i0 i1 i2 i3 z0 z1 z2 z3 z4
    go_wp2_with (at_builtin; refine wpl_appendR5 rfl (.tmp 22) (.tmp 32) rfl (base := w.heap.size) (.slice A5 i c5) (rq.take i) rfl HRO4.out (cleanR r) rfl HL4.out HER.out hrl hbase4 ?_; intro v6 W6 hro6 hcg6 hw6 hob6; obtain ⟨A6, c6, hv6, _⟩ := hro6.slice; rw [← HNX.out] at hro6 hv6; rw [HRL.out] at hv6; subst hv6; have HRO6 := Hd hro6; have HBQ6 := Hd (HBQ4.out.chg hcg6 (by decide)); have HFR6 := Hd (HFR4.out.chg hcg6 (by decide)); have HQO6 := Hd (QO.chg HQO4.out hcg6 (by decide)); have HK6 := Hd (HS.chg HK4.out hcg6 (by simp) rfl hw6); have hsz6 : w.heap.size + 2 ≤ W6.heap.size := (by have := hcg6.1.1; have := D4.out.size; have := HB1.out.size; omega); obtain ⟨i0, i1, i2, i3⟩ := HBQ6.out.c4; obtain ⟨f0, f1, f2, f3⟩ := HBQ6.out.f4; have hltq6 := HBQ6.out.lt; clear hro6 hcg6 hw6 hob6)
    refine NoPanic.normal ?_
    have hcp := chg_put1 (base := w.heap.size) (j := 3) HBQ6.out (by omega) prog_words (.slice A6 (i + 1) c6)
    have HX1 := Hd (HBQ6.out.put 3 (.slice A6 (i + 1) c6))
    have HX2 := Hd (RO.chg HRO6.out hcp (by decide) (by decide))
    have HX3 := Hd (HFR6.out.chg hcp (by decide))
    have HX4 := Hd (QO.chg HQO6.out hcp (by decide))
    have HX5 := Hd (HK6.out.other1 (g := gq) (by omega) (by simp; omega) 3 (.slice A6 (i + 1) c6))
    have hsz7 : w.heap.size + 2 ≤ (W6.setCell ⟨gq, 3, none⟩ (.slice A6 (i + 1) c6)).heap.size := by have := hcp.1.1; omega
    clear hcp
    go_wp2_with fail
    go_roundw
    case rel => exact ⟨i + 1, by omega, by go_num, ⟨A6, c6, HX1.out, HX2.out⟩, HX3.out, HX4.out, hsz7, HX5.out⟩
    case measure => simp [intOf]; omega
   ·obtain rfl : i = p.rows.length := by omega
    have hrt : rq.take p.rows.length = rq := List.take_of_length_le (by rw [HRQ.out, List.length_map]; exact Nat.le_refl _)
    rw [hrt] at HRO
    clear hrt
    obtain ⟨i0, i1, i2, i3⟩ := HBQ.out.c4
    have hltq := HBQ.out.lt
    obtain ⟨j0, j1, j2, j3⟩ := (HK.out.blk 0 rfl).c4
    obtain ⟨f0, f1, f2, f3⟩ := (HK.out.blk 0 rfl).f4
    have hlt0 := (HK.out.blk 0 rfl).lt
    go_wp2_with fail
    have hcg := chg_put4 (base := w.heap.size) (HK.out.blk 0 rfl) (by simp) prog_words (.int .i64 vars) (.slice A1 p.free.length c1) (.slice B2 p.goal.length d2) (.slice A5 p.rows.length c5)
    exact ret26 Tryz.results61 rfl ((HK.out.blk 0 rfl).put4 _ _ _ _) ⟨_, _, by unfold cleanQ; rw [HV.out], by show QO _ _ _ (p.goal.map fixQ); rw [← HQG.out]; exact QO.chg HQO.out hcg (by decide), by show RO _ _ _ (p.rows.map cleanR); rw [← HRQ.out]; exact RO.chg HRO.out hcg (by decide) (by decide), below_put4 HK.out.2 (by simp) _ _ _ _⟩
 ·have D0 : Hid (Below W0.heap.size W0 W0.drew) := Below.drew (Below.refl _ _)
  have E0 := Hd (HS.step H0.out D0.out)
  have hz0 : w.heap.size + 2 ≤ W0.drew.heap.size := hsz1
  generalize W0.drew = Wx at *
  have HF0 := Hd (HFRA.out.below E0.out.2)
  go_wp2_with fail
  have hBq := Blk.new Wx 26 #[.int .i64 0, .slice none 0 0, .slice none 0 0, .slice none 0 0]
  obtain ⟨gq, hgq⟩ : ∃ gq, gq = Wx.heap.size := ⟨_, rfl⟩
  have hgq2 : w.heap.size + 2 ≤ gq := by have := hz0; omega
  have hba2 := (below_new Wx (.cells #[.int .i64 0, .slice none 0 0, .slice none 0 0, .slice none 0 0] 26))
  have D1 := Hd (below_next D0.out hba2)
  have E1 := Hd (HS.step H0.out D1.out)
  have hz1 : w.heap.size + 2 ≤ (Wx.alloc (.cells #[.int .i64 0, .slice none 0 0, .slice none 0 0, .slice none 0 0] 26)).heap.size := Nat.le_trans hz0 (hba2).size
  have HF1 := Hd (HF0.out.below hba2)
  try rw [← show gq = Wx.heap.size from hgq] at hBq
  try rw [← show gq = Wx.heap.size from hgq]
  have HB1 := Hd hBq
  clear hBq hba2 hgq
  generalize Wx.alloc (.cells #[.int .i64 0, .slice none 0 0, .slice none 0 0, .slice none 0 0] 26) = Wd at *
  refine And.intro D1.out ⟨_, _, rfl, rfl, ?_⟩
  go_wp2_with fail
  refine (rclean_calls _ _ p.goal (H2.out.below EF.stays E1.out.2) hlg').mono ?_
  rintro e Wb ⟨v2, rfl, hq, hbb⟩
  have hq' := hq.lower (Nat.le_trans (Nat.le_add_right _ 2) hz1)
  have D2 := Hd (below_next D1.out hbb)
  have E2 := Hd (HS.step H0.out D2.out)
  have hz2 : w.heap.size + 2 ≤ Wb.heap.size := Nat.le_trans hz1 (hbb).size
  have HF2 := Hd (HF1.out.below hbb)
  have HB2 := Hd (HB1.out.below hbb HB1.out.lt)
  obtain ⟨B2, d2, hv2, _⟩ := hq'.slice
  rw [List.length_map] at hv2
  subst hv2
  have HQ2 := Hd hq'
  clear hq hq' hbb
  go_wp2_with fail
  refine And.intro D2.out ⟨?_, ?_, ?_⟩
  rotate_left
  ·repeat (refine ⟨_, ?_, rfl, Or.inl ⟨by rfl, ?_⟩, ?_⟩; rotate_left; focus (intro W hW; replace hW := (bcell hW).1; go_simp; try with_reducible rfl); (try simp only [SQ]))
   exact rfl
  obtain ⟨i0, i1, i2, i3⟩ := HB2.out.c4
  obtain ⟨g0, g1, g2, g3⟩ := HB2.out.f4
  have hltq := HB2.out.lt
  go_wp2_with fail
  refine NoPanic.normal ?_
  have HBc := Hd (HB2.out.put4 (.int .i64 vars) (.slice A1 p.free.length c1) (.slice B2 p.goal.length d2) (.slice none 0 0))
  have hcg := chg_put4 (base := w.heap.size) HB2.out (by omega) prog_words (.int .i64 vars) (.slice A1 p.free.length c1) (.slice B2 p.goal.length d2) (.slice none 0 0)
  have HFc := Hd (HF2.out.chg hcg (by decide))
  have HQc := Hd (QO.chg HQ2.out hcg (by decide))
  have HSc := Hd (E2.out.other4 (g := gq) (by omega) (by simp; omega) (.int .i64 vars) (.slice A1 p.free.length c1) (.slice B2 p.goal.length d2) (.slice none 0 0))
  have hszc : w.heap.size + 2 ≤ ((((Wb.setCell ⟨gq, 0, none⟩ (.int .i64 vars)).setCell ⟨gq, 1, none⟩ (.slice A1 p.free.length c1)).setCell ⟨gq, 2, none⟩ (.slice B2 p.goal.length d2)).setCell ⟨gq, 3, none⟩ (.slice none 0 0)).heap.size := by have := hcg.1.1; omega
  generalize (((Wb.setCell ⟨gq, 0, none⟩ (.int .i64 vars)).setCell ⟨gq, 1, none⟩ (.slice A1 p.free.length c1)).setCell ⟨gq, 2, none⟩ (.slice B2 p.goal.length d2)).setCell ⟨gq, 3, none⟩ (.slice none 0 0) = Wc at *
  clear i0 i1 i2 i3 g0 g1 g2 g3 hltq hcg
  clear D0 E0 hz0
  clear D1 E1 hz1
  clear D2 E2 hz2
  clear H0 hsz1 l0 x0 x1 x2 x3
  obtain ⟨x0, x1, x2, x3⟩ := HSc.out.c4 1 rfl
  have hltp := (HSc.out.blk 1 rfl).lt
  obtain ⟨qg, hqg⟩ : ∃ q, q = p.goal.map fixQ := ⟨_, rfl⟩
  rw [← hqg] at HQc
  have HQG := Hd hqg
  obtain ⟨rq, hrq⟩ : ∃ q, q = p.rows.map cleanR := ⟨_, rfl⟩
  have HRQ := Hd hrq
  clear hqg hrq
  go_wp2_with fail
  clear x0 x1 x2 x3
  go_loopw [17] (fun vi wr => ∃ i : Nat, i ≤ p.rows.length ∧ vi = .int .i64 (i : Int) ∧ (∃ A5 c5, Blk wr gq 26 #[.int .i64 vars, .slice A1 p.free.length c1, .slice B2 p.goal.length d2, .slice A5 i c5] ∧ RO w.heap.size wr (.slice A5 i c5) (rq.take i)) ∧ FrO w.heap.size wr (.slice A1 p.free.length c1) p.free ∧ QO w.heap.size wr (.slice B2 p.goal.length d2) qg ∧ w.heap.size + 2 ≤ wr.heap.size ∧ HS w [(w.heap.size + 1, 26, #[.int .i64 0, .slice none 0 0, .slice none 0 0, .slice none 0 0]), (w.heap.size, 26, #[.int .i64 vars, .slice A1 p.free.length c1, .slice A2 p.goal.length c2, .slice A3 p.rows.length c3])] wr) (fun vi _ => p.rows.length - (intOf vi).toNat)
  case atStart => exact ⟨0, Nat.zero_le _, rfl, ⟨none, 0, HBc.out, OL.nil _ _ _ _ _⟩, HFc.out, HQc.out, hszc, HSc.out⟩
  case round =>
   obtain ⟨i, hi, rfl, ⟨A5, c5, hbq, hro⟩, hfr, hqo, hsz2, hs⟩ := hrel
   have HBQ := Hd hbq
   have HRO := Hd hro
   have HFR := Hd hfr
   have HQO := Hd hqo
   have HK := Hd hs
   clear hbq hro hfr hqo hs HBc HFc HQc HSc hszc hltp
   by_cases hlt : i < p.rows.length
   ·obtain ⟨r, hr'⟩ : ∃ r, p.rows[i]? = some r := ⟨p.rows[i], List.getElem?_eq_getElem hlt⟩
    obtain ⟨g1, o1, C1, e1, C2, n2, e2, C3, n3, e3, rfl, hg, k0, k1, k2, k3, k4, HIS, HRA, HRB⟩ := RL.at5 (H3.out.below ER.stays HK.out.2) hr'
    have hra : r.a.length ≤ 1000000000 := by have := HLA.out r (List.mem_of_getElem? hr'); omega
    have HNX : Hid (rq.take (i + 1) = rq.take i ++ [cleanR r]) := by
     unfold Hid
     rw [List.take_add_one, HRQ.out, List.getElem?_map, hr']
     rfl
    have hrl : (rq.take i).length ≤ 1000000000 := by rw [List.length_take]; omega
    have HRL : Hid ((rq.take (i + 1)).length = i + 1) := by unfold Hid; rw [List.length_take, HRQ.out, List.length_map]; omega
    have m1 : (i : Int) < (p.rows.length : Int) := by omega
    have m3 : (i : Int).toNat = i := by omega
    have m4 : (0 : Int) ≤ (i : Int) := by omega
    obtain ⟨s, hs⟩ : ∃ s, s = r.s := ⟨_, rfl⟩
    rw [← hs] at k1
    have HSE := Hd hs
    have hltq := HBQ.out.lt
    clear hr' hs
    go_wp2_with fail
    have HB1 := Hd (below_new wr (.cells #[.slice C1 r.a.length e1, .int .i64 s, .bool r.b.neg, .slice C2 n2 e2, .slice C3 n3 e3] 73))
    have HKB1 := Hd (Blk.new wr 73 #[.slice C1 r.a.length e1, .int .i64 s, .bool r.b.neg, .slice C2 n2 e2, .slice C3 n3 e3])
    obtain ⟨gr, hgr⟩ : ∃ gr, gr = wr.heap.size := ⟨_, rfl⟩
    rw [← hgr] at HKB1
    generalize wr.alloc (.cells #[.slice C1 r.a.length e1, .int .i64 s, .bool r.b.neg, .slice C2 n2 e2, .slice C3 n3 e3] 73) = W1 at *
    rw [← hgr]
    clear hgr k0 k1 k2 k3 k4
    have z0 := HKB1.out.cell (j := 0) rfl
    have z1 := HKB1.out.cell (j := 1) rfl
    have z2 := HKB1.out.cell (j := 2) rfl
    have z3 := HKB1.out.cell (j := 3) rfl
    have z4 := HKB1.out.cell (j := 4) rfl
    have hzl := HKB1.out.lt
    have HBQ1 := Hd (HBQ.out.below HB1.out HBQ.out.lt)
    obtain ⟨i0, i1, i2, i3⟩ := HBQ1.out.c4
    have hltq1 := HBQ1.out.lt
    have hsz3 : w.heap.size ≤ W1.heap.size := by have := HB1.out.size; omega
    refine wp_chainF (l := [_, _, _, _, _, _, _, _, _, _, _, _, _, _, _]) (S := Below W1.heap.size W1) 12 [([0, 1, 2, 3, 5, 6, 7, 8], 4), ([], 9), ([10], 11)] [] (by kernel_rfl) (by kernel_rfl) (by kernel_rfl) rfl (Below.drew (Below.refl _ _)) ?_
    refine ⟨?_, _, ?_, rfl, ?_⟩
    rotate_left
    ·repeat (refine ⟨_, ?_, rfl, Or.inl ⟨by rfl, ?_⟩, ?_⟩; rotate_left; focus (intro W hW; replace hW := (bcell hW).1; go_simp; try with_reducible rfl); (try simp only [SQ]))
     exact rfl
    have D0 : Hid (Below W1.heap.size W1 W1.drew) := Below.drew (Below.refl _ _)
    have F0 := Hd (below_next HB1.out D0.out)
    go_wp2_with fail
    refine (rclean_calls _ _ r.a (HRA.out.below EF.stays F0.out) hra).mono ?_
    rintro e W2 ⟨v2, rfl, hq, hb⟩
    have hq' := hq.lower (base' := w.heap.size) (Nat.le_trans hsz3 D0.out.size)
    obtain ⟨C4, e4, hv2, _⟩ := hq'.slice
    rw [List.length_map] at hv2
    subst hv2
    have HQ2 := Hd hq'
    have D2 := Hd (below_next D0.out hb)
    have F2 := Hd (below_next HB1.out D2.out)
    clear hq hq' hb
    go_wp2_with fail
    refine And.intro D2.out ⟨_, _, rfl, rfl, ?_⟩
    go_wp2_with fail
    refine (rfix_calls _ _ r.b (HRB.out.of_below F2.out)).mono ?_
    rintro e W3 ⟨v3, rfl, hv, hb⟩
    obtain ⟨C5, n5, e5, C6, n6, e6, rfl, HV3⟩ := hv.opened
    have HQ3 := Hd (HQ2.out.below EFQ.stays hb)
    have D3 := Hd (below_next D2.out hb)
    clear hv hb
    go_wp2_with fail
    refine And.intro D3.out ⟨?_, _, ?_, rfl, ?_⟩
    rotate_left
    ·repeat (refine ⟨_, ?_, rfl, Or.inl ⟨by rfl, ?_⟩, ?_⟩; rotate_left; focus (intro W hW; replace hW := (bcell hW).1; go_simp; try with_reducible rfl); (try simp only [SQ]))
     exact rfl
    go_wp2_with fail
    have HL4 := Hd (Blk.new W3 73 #[.slice C4 r.a.length e4, .int .i64 s, .bool (negQ (fixQ r.b)), .slice C5 n5 e5, .slice C6 n6 e6])
    have hbn := below_new W3 (.cells #[.slice C4 r.a.length e4, .int .i64 s, .bool (negQ (fixQ r.b)), .slice C5 n5 e5, .slice C6 n6 e6] 73)
    have D4 := Hd (below_next D3.out hbn)
    have HQ4 := Hd (HQ3.out.below EFQ.stays hbn)
    have HV4 := Hd (HV3.out.of_below hbn)
    obtain ⟨gl, hgl⟩ : ∃ g, g = W3.heap.size := ⟨_, rfl⟩
    rw [← hgl] at HL4 ⊢
    generalize W3.alloc (.cells #[.slice C4 r.a.length e4, .int .i64 s, .bool (negQ (fixQ r.b)), .slice C5 n5 e5, .slice C6 n6 e6] 73) = W4 at *
    clear hgl hbn
    refine And.intro D4.out ⟨_, rfl, ?_⟩
    have F4 := Hd (below_next HB1.out D4.out)
    have HBQ4 := Hd (HBQ.out.below F4.out HBQ.out.lt)
    have HRO4 := Hd (HRO.out.below ERO.stays F4.out)
    have HFR4 := Hd (HFR.out.below F4.out)
    have HQO4 := Hd (HQO.out.below EFQ.stays F4.out)
    have HK4 := Hd (HK.out.step F4.out)
    have hbase4 : w.heap.size ≤ W4.heap.size := Nat.le_trans hsz3 D4.out.size
    have HER : Hid (ERO w.heap.size W4 #[.slice C4 r.a.length e4, .int .i64 s, .bool (negQ (fixQ r.b)), .slice C5 n5 e5, .slice C6 n6 e6] (cleanR r)) := ⟨_, _, _, _, _, _, _, by unfold cleanR; rw [HSE.out], HIS.out, HQ4.out, HV4.out⟩
    simp only [SQ, List.drop_succ_cons, List.drop_zero]
    clear i0 i1 i2 i3 z0 z1 z2 z3 z4
    go_wp2_with (at_builtin; refine wpl_appendR5 rfl (.tmp 22) (.tmp 32) rfl (base := w.heap.size) (.slice A5 i c5) (rq.take i) rfl HRO4.out (cleanR r) rfl HL4.out HER.out hrl hbase4 ?_; intro v6 W6 hro6 hcg6 hw6 hob6; obtain ⟨A6, c6, hv6, _⟩ := hro6.slice; rw [← HNX.out] at hro6 hv6; rw [HRL.out] at hv6; subst hv6; have HRO6 := Hd hro6; have HBQ6 := Hd (HBQ4.out.chg hcg6 (by decide)); have HFR6 := Hd (HFR4.out.chg hcg6 (by decide)); have HQO6 := Hd (QO.chg HQO4.out hcg6 (by decide)); have HK6 := Hd (HS.chg HK4.out hcg6 (by simp) rfl hw6); have hsz6 : w.heap.size + 2 ≤ W6.heap.size := (by have := hcg6.1.1; have := D4.out.size; have := HB1.out.size; omega); obtain ⟨i0, i1, i2, i3⟩ := HBQ6.out.c4; obtain ⟨f0, f1, f2, f3⟩ := HBQ6.out.f4; have hltq6 := HBQ6.out.lt; clear hro6 hcg6 hw6 hob6)
    refine NoPanic.normal ?_
    have hcp := chg_put1 (base := w.heap.size) (j := 3) HBQ6.out (by omega) prog_words (.slice A6 (i + 1) c6)
    have HX1 := Hd (HBQ6.out.put 3 (.slice A6 (i + 1) c6))
    have HX2 := Hd (RO.chg HRO6.out hcp (by decide) (by decide))
    have HX3 := Hd (HFR6.out.chg hcp (by decide))
    have HX4 := Hd (QO.chg HQO6.out hcp (by decide))
    have HX5 := Hd (HK6.out.other1 (g := gq) (by omega) (by simp; omega) 3 (.slice A6 (i + 1) c6))
    have hsz7 : w.heap.size + 2 ≤ (W6.setCell ⟨gq, 3, none⟩ (.slice A6 (i + 1) c6)).heap.size := by have := hcp.1.1; omega
    clear hcp
    go_wp2_with fail
    go_roundw
    case rel => exact ⟨i + 1, by omega, by go_num, ⟨A6, c6, HX1.out, HX2.out⟩, HX3.out, HX4.out, hsz7, HX5.out⟩
    case measure => simp [intOf]; omega
   ·obtain rfl : i = p.rows.length := by omega
    have hrt : rq.take p.rows.length = rq := List.take_of_length_le (by rw [HRQ.out, List.length_map]; exact Nat.le_refl _)
    rw [hrt] at HRO
    clear hrt
    obtain ⟨i0, i1, i2, i3⟩ := HBQ.out.c4
    have hltq := HBQ.out.lt
    obtain ⟨j0, j1, j2, j3⟩ := (HK.out.blk 0 rfl).c4
    obtain ⟨f0, f1, f2, f3⟩ := (HK.out.blk 0 rfl).f4
    have hlt0 := (HK.out.blk 0 rfl).lt
    go_wp2_with fail
    have hcg := chg_put4 (base := w.heap.size) (HK.out.blk 0 rfl) (by simp) prog_words (.int .i64 vars) (.slice A1 p.free.length c1) (.slice B2 p.goal.length d2) (.slice A5 p.rows.length c5)
    exact ret26 Tryz.results61 rfl ((HK.out.blk 0 rfl).put4 _ _ _ _) ⟨_, _, by unfold cleanQ; rw [HV.out], by show QO _ _ _ (p.goal.map fixQ); rw [← HQG.out]; exact QO.chg HQO.out hcg (by decide), by show RO _ _ _ (p.rows.map cleanR); rw [← HRQ.out]; exact RO.chg HRO.out hcg (by decide) (by decide), below_put4 HK.out.2 (by simp) _ _ _ _⟩
def Small (q : Rat) : Prop := sizeQ q ≤ 4096
def SmallR (r : RowQ) : Prop := (∀ q ∈ r.a, Small q) ∧ Small r.b
def SmallP (p : ProgQ) : Prop := (∀ q ∈ p.goal, Small q) ∧ ∀ r ∈ p.rows, SmallR r
theorem small_fix (f : RawF) : Small (fixQ f) := sizeQ_fix f
theorem small_clean (p : ProgF) : SmallP (cleanQ p) := ⟨fun q hq => by
 obtain ⟨f, _, rfl⟩ := List.mem_map.1 hq
 exact small_fix f, fun r hr => by
 obtain ⟨f, _, rfl⟩ := List.mem_map.1 hr
 exact ⟨fun q hq => by
  obtain ⟨g, _, rfl⟩ := List.mem_map.1 hq
  exact small_fix g, small_fix _⟩⟩
theorem SL.mapE {α β : Type} {k : Nat} {E : World → Array Value → α → Prop} {F : World → Array Value → β → Prop} {w : World} {v : Value} {xs : List α} (f : α → β) (h : SL k E w v xs) (hE : ∀ vs x, x ∈ xs → E w vs x → F w vs (f x)) : SL k F w v (xs.map f) := by
 obtain ⟨A, c, e, hc, hr⟩ := h
 refine ⟨A, c, by rw [List.length_map]; exact e, by rw [List.length_map]; exact hc, fun hp => ?_⟩
 rw [List.length_map] at hp
 obtain ⟨g, o, hA, hg, he⟩ := hr hp
 refine ⟨g, o, hA, hg, fun j y hy => ?_⟩
 rw [List.getElem?_map] at hy
 obtain ⟨x, hx, rfl⟩ := Option.map_eq_some_iff.1 hy
 obtain ⟨vs, h1, h2, h3⟩ := he j x hx
 exact ⟨vs, h1, h2, hE vs x (List.mem_of_getElem? hx) h3⟩
theorem QO.fl {base : Nat} {w : World} {v : Value} {qs : List Rat} (h : QO base w v qs) (hs : ∀ q ∈ qs, Small q) : FL w v (qs.map rawQ) :=
 SL.mapE rawQ (OL.sl h) fun vs q hq he => FR.of_fq he (hs q hq)
def set5 (xs : List Value) (o : Nat) (a b c d e : Value) : List Value := ((((xs.set o a).set (o + 1) b).set (o + 2) c).set (o + 3) d).set (o + 4) e
theorem set5_length (xs : List Value) (o : Nat) (a b c d e : Value) : (set5 xs o a b c d e).length = xs.length := by unfold set5; simp
theorem set5_other {xs : List Value} {o k : Nat} {a b c d e : Value} (h : k < o ∨ o + 5 ≤ k) : (set5 xs o a b c d e)[k]? = xs[k]? := by
 unfold set5
 rw [List.getElem?_set_ne (by omega), List.getElem?_set_ne (by omega), List.getElem?_set_ne (by omega), List.getElem?_set_ne (by omega), List.getElem?_set_ne (by omega)]
theorem set5_in {xs : List Value} {o : Nat} {a b c d e : Value} (h : o + 5 ≤ xs.length) : ∀ i u, #[a, b, c, d, e][i]? = some u → (set5 xs o a b c d e)[o + i]? = some u := fun i u hi => by
 have hi5 : i < 5 := (Array.getElem?_eq_some_iff.1 hi).1
 unfold set5
 match i, hi5 with
 | 0, _ => rw [show u = a by simpa using hi.symm, List.getElem?_set_ne (by omega), List.getElem?_set_ne (by omega), List.getElem?_set_ne (by omega), List.getElem?_set_ne (by omega), Nat.add_zero, List.getElem?_set_self (by omega)]
 | 1, _ => rw [show u = b by simpa using hi.symm, List.getElem?_set_ne (by omega), List.getElem?_set_ne (by omega), List.getElem?_set_ne (by omega), List.getElem?_set_self (by simp; omega)]
 | 2, _ => rw [show u = c by simpa using hi.symm, List.getElem?_set_ne (by omega), List.getElem?_set_ne (by omega), List.getElem?_set_self (by simp; omega)]
 | 3, _ => rw [show u = d by simpa using hi.symm, List.getElem?_set_ne (by omega), List.getElem?_set_self (by simp; omega)]
 | 4, _ => rw [show u = e by simpa using hi.symm, List.getElem?_set_self (by simp; omega)]
def put5 (w : World) (g o : Nat) (a b c d e : Value) : World := ((((w.setCell ⟨g, o, none⟩ a).setCell ⟨g, o + 1, none⟩ b).setCell ⟨g, o + 2, none⟩ c).setCell ⟨g, o + 3, none⟩ d).setCell ⟨g, o + 4, none⟩ e
theorem put5_other (w : World) (g o : Nat) (a b c d e : Value) {k : Nat} (hk : k ≠ g) : (put5 w g o a b c d e).heap[k]? = w.heap[k]? := by
 unfold put5
 rw [Below.heap_setCell _ _ _ k hk, Below.heap_setCell _ _ _ k hk, Below.heap_setCell _ _ _ k hk, Below.heap_setCell _ _ _ k hk, Below.heap_setCell _ _ _ k hk]
theorem put5_size (w : World) (g o : Nat) (a b c d e : Value) : (put5 w g o a b c d e).heap.size = w.heap.size := by simp [put5, World.setCell]
theorem RO.set {base : Nat} {w : World} {n c i g : Nat} {rs : List RowQ} {r' : RowQ} {a b d e f : Value} (h : RO base w (.slice (some ⟨g, 0, none⟩) n c) rs) (hi : i < rs.length) (hw : ∀ u ∈ #[a, b, d, e, f], notWord u = true)
  (hr : ∀ w1, Chg base 73 w w1 → ERO base w1 #[a, b, d, e, f] r') : RO base (put5 w g (i * 5) a b d e f) (.slice (some ⟨g, 0, none⟩) n c) (rs.set i r') ∧ Chg base 73 w (put5 w g (i * 5) a b d e f) := by
 obtain ⟨xs, ⟨hl, h1⟩, h2⟩ := h
 rcases h1 with ⟨e0, h0⟩ | ⟨g', cap, cur, e1, hb, hbl, hnc, hcm, hcs, htake, hcw⟩
 ·omega
 ·injection e1 with e1 e2 e3
  injection e1 with e1
  injection e1 with e1
  subst e1 e3
  have hcg : Chg base 73 w (put5 w g (i * 5) a b d e f) := Chg.own hbl hb (Keeps.apart hbl hcw (by rw [put5_size]; exact Nat.le_refl _) fun k _ hk => put5_other _ _ _ _ _ _ _ _ hk) fun k _ hk => put5_other _ _ _ _ _ _ _ _ hk
  have hlim : i * 5 + 5 ≤ xs.length := by rw [hl]; omega
  refine ⟨⟨set5 xs (i * 5) a b d e f, ⟨by rw [set5_length, List.length_set]; exact hl, .inr ⟨g, c, (((((cur.setIfInBounds (i * 5) a).setIfInBounds (i * 5 + 1) b).setIfInBounds (i * 5 + 2) d).setIfInBounds (i * 5 + 3) e).setIfInBounds (i * 5 + 4) f), by rw [List.length_set, e2], hb, ((((hbl.put _ a).put _ b).put _ d).put _ e).put _ f, by rw [List.length_set]; exact hnc, hcm, by simpa using hcs, ?_, fun u hu => ?_⟩⟩, fun j y hj => ?_⟩, hcg⟩
  ·rw [List.length_set]
   simp only [Array.toList_setIfInBounds]
   rw [List.take_set, List.take_set, List.take_set, List.take_set, List.take_set, htake]
   rfl
  ·have key : ∀ (cs : Array Value) (k : Nat) (z : Value), (∀ u ∈ cs, notWord u = true) → notWord z = true → ∀ u ∈ cs.setIfInBounds k z, notWord u = true := fun cs k z h1 h2 u hu => by
    rcases Array.mem_or_eq_of_mem_setIfInBounds hu with h | h
    ·exact h1 u h
    ·rw [h]; exact h2
   exact key _ _ _ (key _ _ _ (key _ _ _ (key _ _ _ (key _ _ _ hcw (hw a (by simp))) (hw b (by simp))) (hw d (by simp))) (hw e (by simp))) (hw f (by simp)) u hu
  ·by_cases hji : j = i
   ·subst hji
    rw [List.getElem?_set_self hi] at hj
    injection hj with hj
    subst hj
    exact ⟨#[a, b, d, e, f], rfl, set5_in hlim, hr _ hcg⟩
   ·rw [List.getElem?_set_ne (Ne.symm hji)] at hj
    obtain ⟨vs, h3, h4, h5⟩ := h2 j y hj
    refine ⟨vs, h3, fun k u hk => ?_, ERO.leans (by decide) _ _ _ _ h5 hcg⟩
    have hk5 : k < 5 := by have := (Array.getElem?_eq_some_iff.1 hk).1; omega
    rw [set5_other (by omega)]
    exact h4 k u hk
theorem RO.at5 {base : Nat} {w : World} {A : Option Addr} {n c : Nat} {rs : List RowQ} (h : RO base w (.slice A n c) rs) {j : Nat} {r : RowQ} (hj : rs[j]? = some r) :
  ∃ g A1 c1 A2 n2 c2 A3 n3 c3, A = some ⟨g, 0, none⟩ ∧ base ≤ g ∧ g < w.heap.size ∧ w.cell? ⟨g, j * 5, none⟩ = some (.slice A1 r.a.length c1) ∧ w.cell? ⟨g, j * 5 + 1, none⟩ = some (.int .i64 r.s) ∧ w.cell? ⟨g, j * 5 + 2, none⟩ = some (.bool (negQ r.b)) ∧
   w.cell? ⟨g, j * 5 + 3, none⟩ = some (.slice A2 n2 c2) ∧ w.cell? ⟨g, j * 5 + 4, none⟩ = some (.slice A3 n3 c3) ∧ (∀ k, w.frozen? ⟨g, k, none⟩ = false) ∧ Hid (I64 r.s) ∧ Hid (QO base w (.slice A1 r.a.length c1) r.a) ∧ Hid (FQ w (.agg #[.bool (negQ r.b), .slice A2 n2 c2, .slice A3 n3 c3]) r.b) := by
 obtain ⟨xs, ⟨hl, h1⟩, h2⟩ := h
 rcases h1 with ⟨e0, h0⟩ | ⟨g, cap, cur, e1, hb, hbl, hnc, hcm, hcs, htake, hcw⟩
 ·have := (List.getElem?_eq_some_iff.1 hj).1
  omega
 ·injection e1 with e1 e2 e3
  subst e1 e3
  obtain ⟨vs, h3, h4, v, A2, n2, c2, A3, n3, c3, rfl, hI, h5, h6⟩ := h2 j r hj
  obtain ⟨A1, c1, rfl, _⟩ := OL.slice h5
  have hc : ∀ k u, #[Value.slice A1 r.a.length c1, .int .i64 r.s, .bool (negQ r.b), .slice A2 n2 c2, .slice A3 n3 c3][k]? = some u → w.cell? ⟨g, j * 5 + k, none⟩ = some u := fun k u hk => by
   have h7 := h4 k u hk
   refine hbl.cell ?_
   rw [← htake, List.getElem?_take] at h7
   split at h7
   ·simpa using h7
   ·cases h7
  exact ⟨g, A1, c1, A2, n2, c2, A3, n3, c3, rfl, hb, hbl.lt, hc 0 _ rfl, hc 1 _ rfl, hc 2 _ rfl, hc 3 _ rfl, hc 4 _ rfl, fun k => hbl.frozen k, hI, h5, h6⟩
def zeroP : ProgQ := ⟨0, [], [], []⟩
theorem PO.zero (base : Nat) (w : World) : PO base w (.agg #[.int .i64 0, .slice none 0 0, .slice none 0 0, .slice none 0 0]) zeroP :=
 ⟨_, _, _, rfl, by unfold I64 zeroP; decide, ⟨⟨none, 0, rfl, Nat.le_refl _, fun h => absurd h (by simp [zeroP])⟩, fun g hg _ => by simp [Value.ownBlock] at hg⟩, OL.nil _ _ _ _ _, OL.nil _ _ _ _ _⟩
theorem PO.opened {base : Nat} {w : World} {v : Value} {p : ProgQ} (h : PO base w v p) : ∃ A1 c1 A2 c2 A3 c3, v = .agg #[.int .i64 p.vars, .slice A1 p.free.length c1, .slice A2 p.goal.length c2, .slice A3 p.rows.length c3] ∧ Hid (I64 p.vars) ∧ Hid (FrO base w (.slice A1 p.free.length c1) p.free) ∧ Hid (QO base w (.slice A2 p.goal.length c2) p.goal) ∧ Hid (RO base w (.slice A3 p.rows.length c3) p.rows) := by
 obtain ⟨v1, v2, v3, rfl, hv, h1, h2, h3⟩ := h
 obtain ⟨A1, c1, rfl, _⟩ := h1.1.slice
 obtain ⟨A2, c2, rfl, _⟩ := OL.slice h2
 obtain ⟨A3, c3, rfl, _⟩ := OL.slice h3
 exact ⟨A1, c1, A2, c2, A3, c3, rfl, hv, h1, h2, h3⟩
theorem RO.lower {base base' : Nat} {w : World} {v : Value} {rs : List RowQ} (h : RO base w v rs) (hb : base' ≤ base) : RO base' w v rs := by
 obtain ⟨xs, h3, h4⟩ := h
 refine ⟨xs, h3.lower hb, fun j a hj => ?_⟩
 obtain ⟨vs, h5, h6, v, B1, m1, d1, B2, m2, d2, e2, h7, h8, h9⟩ := h4 j a hj
 exact ⟨vs, h5, h6, v, B1, m1, d1, B2, m2, d2, e2, h7, QO.lower h8 hb, h9⟩
theorem ret26i {fn : Func} {p t : Tmp} {Post : Ending → World → Prop} {tmps : Array Value} {w : World} {g : Nat} {a b c d r : Value} (hres : fn.results = #[.cell p 26, .tmp t]) (hp : tmps.getD p undef = .pointer (some ⟨g, 0, none⟩)) (ht : tmps.getD t undef = r) (hb : Blk w g 26 #[a, b, c, d])
  (hP : Post (.returned (.tuple #[.agg #[a, b, c, d], r])) w) : bodyPost Tryz.prog fn Post Exit.ret { tmps := tmps, defers := [] } w := by
 refine bodyPost_ret (v := .tuple #[.agg #[a, b, c, d], r]) ?_ rfl hP
 have hp' : tmps[p]?.getD undef = .pointer (some ⟨g, 0, none⟩) := by simpa using hp
 have ht' : tmps[t]?.getD undef = r := by simpa using ht
 simp [results, hres, hp', ht', asAddr, run_loadVar_row (P := Tryz.prog) w g 26 26 #[a, b, c, d] (0, 0) _ hb Tryz.underlying26 rfl info26s]
def refOrd (a b : Rat) : Int := if negQ a ≠ negQ b then (if negQ a then -1 else 1) else if negQ a then -(cmpI (a.num.natAbs * b.den) (b.num.natAbs * a.den)) else cmpI (a.num.natAbs * b.den) (b.num.natAbs * a.den)
theorem refOrd_eq (a b : Rat) : refOrd a b = ordQ a b := by
 have ha := a.den_nz
 have hb := b.den_nz
 have hA : 0 < (a.den : Int) := by omega
 have hB : 0 < (b.den : Int) := by omega
 have heq : a = b ↔ a.num * b.den = b.num * a.den := Rat.eq_iff_mul_eq_mul
 have hlt := Rat.lt_iff a b
 have na : a.num = sg (negQ a) a.num.natAbs := (sg_num a).symm
 have nb : b.num = sg (negQ b) b.num.natAbs := (sg_num b).symm
 obtain ⟨x, hx⟩ : ∃ x, x = a.num.natAbs * b.den := ⟨_, rfl⟩
 obtain ⟨y, hy⟩ : ∃ y, y = b.num.natAbs * a.den := ⟨_, rfl⟩
 have hx0 : x = 0 ↔ a.num = 0 := by rw [hx, Nat.mul_eq_zero]; constructor <;> intro h <;> omega
 have hy0 : y = 0 ↔ b.num = 0 := by rw [hy, Nat.mul_eq_zero]; constructor <;> intro h <;> omega
 have ex : a.num * b.den = if a.num < 0 then -(x : Int) else (x : Int) := by
  rw [hx]
  by_cases h : a.num < 0
  ·rw [if_pos h, Int.natCast_mul, ← Int.neg_mul, show -((a.num.natAbs : Nat) : Int) = a.num by omega]
  ·rw [if_neg h, Int.natCast_mul, show ((a.num.natAbs : Nat) : Int) = a.num by omega]
 have ey : b.num * a.den = if b.num < 0 then -(y : Int) else (y : Int) := by
  rw [hy]
  by_cases h : b.num < 0
  ·rw [if_pos h, Int.natCast_mul, ← Int.neg_mul, show -((b.num.natAbs : Nat) : Int) = b.num by omega]
  ·rw [if_neg h, Int.natCast_mul, show ((b.num.natAbs : Nat) : Int) = b.num by omega]
 unfold refOrd ordQ
 rw [← hx, ← hy]
 simp only [heq, hlt]
 rw [ex, ey]
 clear ex ey heq hlt na nb hx hy
 unfold cmpI negQ
 by_cases h1 : a.num = 0 <;> by_cases h2 : a.num < 0 <;> by_cases h3 : b.num = 0 <;> by_cases h4 : b.num < 0 <;> simp only [h1, h2, h3, h4, if_true, if_false, decide_true, decide_false, Int.lt_irrefl, Bool.false_eq_true, ne_eq, not_true_eq_false] <;> (try omega) <;> (repeat split) <;> (first | omega | (simp_all <;> omega) | (simp_all; done))
set_option maxHeartbeats 16000000 in
set_option maxRecDepth 100000 in
theorem rcmp_calls (w : World) (v v2 : Value) (f g : RawF) (h : FR w v f) (h2 : FR w v2 g) : Calls Tryz.prog 17 #[v, v2] w fun e w' => IPost w (ordQ (fixQ f) (fixQ g)) e w' := by
 obtain ⟨A1, k1, c1, A2, k2, c2, rfl, HF⟩ := h.opened
 obtain ⟨A3, k3, c3, A4, k4, c4, rfl, HG⟩ := h2.opened
 clear h h2
 obtain ⟨p, hp⟩ : ∃ q, q = fixQ f := ⟨_, rfl⟩
 obtain ⟨q, hq⟩ : ∃ q, q = fixQ g := ⟨_, rfl⟩
 have hps : sizeQ p ≤ 4096 := by rw [hp]; exact sizeQ_fix f
 have hqs : sizeQ q ≤ 4096 := by rw [hq]; exact sizeQ_fix g
 rw [← hp, ← hq, ← refOrd_eq]
 have HP := Hd hp
 have HQ := Hd hq
 clear hp hq
 go_enter Tryz.func17, Tryz.ntmps17
 go_wp2_with fail
 have H0 := Hd (HS.two (w := w) #[.bool f.neg, .slice A1 k1 c1, .slice A2 k2 c2] #[.bool g.neg, .slice A3 k3 c3, .slice A4 k4 c4] 46 46)
 generalize (w.alloc (.cells #[.bool f.neg, .slice A1 k1 c1, .slice A2 k2 c2] 46)).alloc (.cells #[.bool g.neg, .slice A3 k3 c3, .slice A4 k4 c4] 46) = W0 at *
 obtain ⟨x0, x1, x2⟩ := (H0.out.blk 1 rfl).c3
 obtain ⟨y0, y1, y2⟩ := (H0.out.blk 0 rfl).c3
 have hlt0 := (H0.out.blk 0 rfl).lt
 have hlt1 := (H0.out.blk 1 rfl).lt
 refine wp_chainF (l := [_, _, _, _, _, _]) (S := Below W0.heap.size W0) 4 [([0, 2], 1), ([], 3)] [] (by kernel_rfl) (by kernel_rfl) (by kernel_rfl) rfl (Below.drew (Below.refl _ _)) ?_
 refine ⟨?_, _, ?_, rfl, ?_⟩
 rotate_left
 ·repeat (refine ⟨_, ?_, rfl, Or.inl ⟨by rfl, ?_⟩, ?_⟩; rotate_left; focus (intro W hW; replace hW := (bcell hW).1; go_simp; try with_reducible rfl); (try simp only [SQ]))
  exact rfl
 have HB0 : Hid (Below W0.heap.size W0 W0.drew) := Below.drew (Below.refl _ _)
 have HB00 := Hd (below_next H0.out.2 HB0.out)
 go_wp2_with fail
 refine (rfix_calls _ _ f (HF.out.of_below HB00.out)).mono ?_
 rintro e w1 ⟨v, rfl, hv, hb⟩
 rw [← HP.out] at hv
 have HB1 := Hd (below_next HB0.out hb)
 have HB01 := Hd (below_next H0.out.2 HB1.out)
 obtain ⟨A5, n5, c5, A6, n6, c6, rfl, HV1⟩ := hv.opened
 clear hv hb
 go_wp2_with fail
 refine And.intro HB1.out ⟨_, _, rfl, rfl, ?_⟩
 go_wp2_with fail
 refine (rfix_calls _ _ g (HG.out.of_below HB01.out)).mono ?_
 rintro e w2 ⟨v, rfl, hv, hb⟩
 rw [← HQ.out] at hv
 have HB2 := Hd (below_next HB1.out hb)
 have HV1' := Hd (HV1.out.of_below hb)
 obtain ⟨A7, n7, c7, A8, n8, c8, rfl, HV2⟩ := hv.opened
 have H2 := Hd (H0.out.step HB2.out)
 obtain ⟨sp, hsp⟩ : ∃ s, s = negQ p := ⟨_, rfl⟩
 obtain ⟨sq, hsq⟩ : ∃ s, s = negQ q := ⟨_, rfl⟩
 rw [← hsp] at HV1' ⊢
 rw [← hsq] at HV2 ⊢
 have HSP := Hd hsp
 have HSQ := Hd hsq
 clear hv hb hsp hsq
 obtain ⟨x0, x1, x2⟩ := (H2.out.blk 1 rfl).c3
 obtain ⟨y0, y1, y2⟩ := (H2.out.blk 0 rfl).c3
 obtain ⟨f0, f1, f2⟩ := (H2.out.blk 1 rfl).f3
 obtain ⟨f3, f4, f5⟩ := (H2.out.blk 0 rfl).f3
 go_wp2_with fail
 refine And.intro HB2.out ⟨_, rfl, ?_⟩
 go_wp2_with fail
 refine NoPanic.normal ?_
 have H3a := Hd (HS.put3 (cs := #[]) H2.out.swap (Nat.le_refl _) (by intro b hb; rw [List.mem_singleton.1 hb]; exact Nat.succ_ne_self _) (.bool sp) (.slice A5 n5 c5) (.slice A6 n6 c6))
 have HP3a := Hd (HV1'.out.put3 (H2.out.blk 1 rfl) ni_box (.bool sp) (.slice A5 n5 c5) (.slice A6 n6 c6))
 have HQ3a := Hd (HV2.out.put3 (H2.out.blk 1 rfl) ni_box (.bool sp) (.slice A5 n5 c5) (.slice A6 n6 c6))
 have H3 := Hd (HS.put3 (cs := #[]) H3a.out.swap (Nat.le_succ _) (by intro b hb; rw [List.mem_singleton.1 hb]; exact (Nat.succ_ne_self _).symm) (.bool sq) (.slice A7 n7 c7) (.slice A8 n8 c8))
 have HP3 := Hd (HP3a.out.put3 (H3a.out.blk 1 rfl) ni_box (.bool sq) (.slice A7 n7 c7) (.slice A8 n8 c8))
 have HQ3 := Hd (HQ3a.out.put3 (H3a.out.blk 1 rfl) ni_box (.bool sq) (.slice A7 n7 c7) (.slice A8 n8 c8))
 clear x0 x1 x2 y0 y1 y2 f0 f1 f2 f3 f4 f5 hlt0 hlt1 H3a HP3a HQ3a
 generalize (((((w2.setCell ⟨w.heap.size, 0, none⟩ (.bool sp)).setCell ⟨w.heap.size, 1, none⟩ (.slice A5 n5 c5)).setCell ⟨w.heap.size, 2, none⟩ (.slice A6 n6 c6)).setCell ⟨w.heap.size + 1, 0, none⟩ (.bool sq)).setCell ⟨w.heap.size + 1, 1, none⟩ (.slice A7 n7 c7)).setCell ⟨w.heap.size + 1, 2, none⟩ (.slice A8 n8 c8) = W3 at *
 obtain ⟨x0, x1, x2⟩ := (H3.out.blk 1 rfl).c3
 obtain ⟨y0, y1, y2⟩ := (H3.out.blk 0 rfl).c3
 by_cases hne : sp = sq
 ·subst hne
  have hl1 : wlen p.num.natAbs ≤ 4096 := by unfold sizeQ at hps; omega
  have hl2 : wlen p.den ≤ 4096 := by unfold sizeQ at hps; omega
  have hl3 : wlen q.num.natAbs ≤ 4096 := by unfold sizeQ at hqs; omega
  have hl4 : wlen q.den ≤ 4096 := by unfold sizeQ at hqs; omega
  have R1 := Hd (FQ.parts HP3.out).2.1
  have R2 := Hd (FQ.parts HP3.out).2.2
  have R3 := Hd (FQ.parts HQ3.out).2.1
  have R4 := Hd (FQ.parts HQ3.out).2.2
  have HREF : Hid (refOrd p q = if sp = true then -(cmpI (p.num.natAbs * q.den) (q.num.natAbs * p.den)) else cmpI (p.num.natAbs * q.den) (q.num.natAbs * p.den)) := by
   unfold Hid refOrd
   rw [← HSP.out, ← HSQ.out, if_neg (fun h => h rfl)]
  have m1 := wlen_mul p.num.natAbs q.den
  have m2 := wlen_mul q.num.natAbs p.den
  go_wp2_with fail
  refine wp_chainF (l := [_, _, _, _, _, _, _, _, _, _, _, _]) (S := Below W3.heap.size W3) 11 [([0, 1, 2, 3, 5, 6, 7, 8], 4), ([], 9), ([], 10)] [] (by kernel_rfl) (by kernel_rfl) (by kernel_rfl) rfl (Below.drew (Below.refl _ _)) ?_
  have hlt0 := (H3.out.blk 0 rfl).lt
  have hlt1 := (H3.out.blk 1 rfl).lt
  refine ⟨?_, _, ?_, rfl, ?_⟩
  rotate_left
  ·repeat (refine ⟨_, ?_, rfl, Or.inl ⟨by rfl, ?_⟩, ?_⟩; rotate_left; focus (intro W hW; replace hW := (bcell hW).1; go_simp; try with_reducible rfl); (try simp only [SQ]))
   exact rfl
  have HBd : Hid (Below W3.heap.size W3 W3.drew) := Below.drew (Below.refl _ _)
  clear x0 x1 x2 y0 y1 y2
  go_wp2_with fail
  refine (rtimes_calls _ _ _ p.num.natAbs q.den (R1.out.of_below HBd.out) (R4.out.of_below HBd.out) (by omega) (by omega)).mono ?_
  rintro e w4 ⟨v, rfl, hv, hb⟩
  have HB4 := Hd (below_next HBd.out hb)
  have HV4 := Hd hv
  obtain ⟨B5, d5, l5', rfl, _, _, _⟩ := RN.opened hv
  clear hv hb
  go_wp2_with fail
  refine And.intro HB4.out ⟨_, _, rfl, rfl, ?_⟩
  go_wp2_with fail
  refine (rtimes_calls _ _ _ q.num.natAbs p.den (R3.out.of_below HB4.out) (R2.out.of_below HB4.out) (by omega) (by omega)).mono ?_
  rintro e w5 ⟨v, rfl, hv, hb⟩
  have HB5 := Hd (below_next HB4.out hb)
  have HV5 := Hd (HV4.out.of_below hb)
  have HV6 := Hd hv
  obtain ⟨B6, d6, l6', rfl, _, _, _⟩ := RN.opened hv
  clear hv hb
  go_wp2_with fail
  refine And.intro HB5.out ⟨_, _, rfl, rfl, ?_⟩
  go_wp2_with fail
  refine (rorder_calls _ _ _ _ _ HV5.out HV6.out (by omega) (by omega)).mono ?_
  rintro e w6 ⟨rfl, hb⟩
  have HB6 := Hd (below_next HB5.out hb)
  have H6 := Hd (H3.out.step HB6.out)
  clear hb
  obtain ⟨x0, x1, x2⟩ := (H6.out.blk 1 rfl).c3
  obtain ⟨y0, y1, y2⟩ := (H6.out.blk 0 rfl).c3
  obtain ⟨c, hc⟩ : ∃ c, c = cmpI (p.num.natAbs * q.den) (q.num.natAbs * p.den) := ⟨_, rfl⟩
  rw [← hc] at HREF ⊢
  have hcb : -1 ≤ c ∧ c ≤ 1 := by
   rw [hc]
   unfold cmpI
   split
   ·omega
   ·split <;> omega
  have hc1 := hcb.1
  have hc2 := hcb.2
  clear hc hcb
  go_wp2_with fail
  refine And.intro HB6.out ⟨_, rfl, ?_⟩
  go_wp2_with fail
  refine NoPanic.normal ?_
  cases sp with
  | true =>
   go_wp2_with fail
   go_ret
   exact ⟨by rw [HREF.out]; rfl, H6.out.2⟩
  | false =>
   go_wp2_with fail
   go_ret
   exact ⟨by rw [HREF.out]; rfl, H6.out.2⟩
 ·have t1 : (sp != sq) = true := by simpa using hne
  have hraw : refOrd p q = if sp = true then -1 else 1 := by
   unfold refOrd
   rw [← HSP.out, ← HSQ.out, if_pos hne]
  have HRAW := Hd hraw
  have hq' : sq = !sp := by cases sp <;> cases sq <;> simp_all
  subst hq'
  clear hraw hne t1
  cases sp with
  | true =>
   simp only [Bool.not_true] at *
   go_wp2_with fail
   go_ret
   exact ⟨by rw [HRAW.out]; rfl, H3.out.2⟩
  | false =>
   simp only [Bool.not_false] at *
   go_wp2_with fail
   go_ret
   exact ⟨by rw [HRAW.out]; rfl, H3.out.2⟩
end Go.Proofs.YtfhambfgjigneaaGreat

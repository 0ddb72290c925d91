/- Contracts of the Go functions that the statement reaches, and plain laws over them. -/
import Derived.Test.YtfhambfgjigneaaKT3
import Derived.Test.YtfhambfgjigneaaKT1
set_option linter.unusedVariables false
set_option linter.unusedSimpArgs false
set_option maxHeartbeats 64000000
set_option maxRecDepth 100000
namespace Go.Proofs.Ytfhambfgjigneaa
open Go.RowKit
theorem Row3.chg {base t t' g n : Nat} {w w1 : World} {xs : List Rat} (h : Row3 t' EFQ w g n xs) (hc : Chg base t w w1) (hne : t' ≠ t) : Row3 t' EFQ w1 g n xs := by
 obtain ⟨cs, hk, hs, hn, hl, he⟩ := h
 refine ⟨cs, hk.chg hc hne, hs, hn, hl, fun j x hx => ?_⟩
 obtain ⟨a, b, c, e0, e1, e2, hE⟩ := he j x hx
 exact ⟨a, b, c, e0, e1, e2, FQ.keeps hE hc.1⟩
def UnitAct (w : World) (n : Nat) (v s b : Int) (gs gq : Nat) (A1 : Option Addr) (n1 c1 : Nat) (A2 : Option Addr) (n2 c2 : Nat) : Act := { tmps := #[.int .i64 (n : Int), .int .i64 v, .int .i64 s, .int .i64 b, undef, undef, undef, undef, .pointer (some ⟨w.heap.size, 0, none⟩), .pointer (some ⟨gq, 0, none⟩), undef, .int .i64 (n : Int), .slice (some ⟨gs, 0, none⟩) n n, .int .i64 s, .int .i64 b, .agg #[.bool (negQ (b : Rat)), .slice A1 n1 c1, .slice A2 n2 c2], .agg #[.slice (some ⟨gs, 0, none⟩) n n, .int .i64 s, .bool (negQ (b : Rat)), .slice A1 n1 c1, .slice A2 n2 c2], undef, undef, undef, undef, undef, undef, undef, undef, undef, undef, undef, undef, undef, undef, undef, undef, undef, undef], defers := [] }
def UnitLaid (w : World) (n : Nat) (v s b : Int) (a : Act) (W : World) : Prop := ∃ gs gq A1 n1 c1 A2 n2 c2, a = UnitAct w n v s b gs gq A1 n1 c1 A2 n2 c2 ∧ w.heap.size + 1 ≤ gs ∧ w.heap.size + 1 ≤ gq ∧ Row3 40 EFQ W gs n ([] : List Rat) ∧ Blk W gq 65 #[.slice (some ⟨gs, 0, none⟩) n n, .int .i64 s, .bool (negQ (b : Rat)), .slice A1 n1 c1, .slice A2 n2 c2] ∧ FQ W (.agg #[.bool (negQ (b : Rat)), .slice A1 n1 c1, .slice A2 n2 c2]) (b : Rat) ∧ HS w [(w.heap.size, 65, #[.slice none 0 0, .int .i64 0, .bool false, .slice none 0 0, .slice none 0 0])] W
theorem unit_laid {w W : World} {n : Nat} {v s b : Int} {a : Act} {gs gq : Nat} {A1 : Option Addr} {n1 c1 : Nat} {A2 : Option Addr} {n2 c2 : Nat} {r : Value} (hgs : w.heap.size + 1 ≤ gs) (hgq : w.heap.size + 1 ≤ gq) (hm : Row3 40 EFQ W gs n ([] : List Rat)) (hc : Blk W gq 65 #[.slice none 0 0, .int .i64 0, .bool false, .slice none 0 0, .slice none 0 0]) (hf : FQ W (.agg #[.bool (negQ (b : Rat)), .slice A1 n1 c1, .slice A2 n2 c2]) (b : Rat)) (hs : HS w [(w.heap.size, 65, #[.slice none 0 0, .int .i64 0, .bool false, .slice none 0 0, .slice none 0 0])] W)
  (ha : a = UnitAct w n v s b gs gq A1 n1 c1 A2 n2 c2) : UnitLaid w n v s b a (put5 W gq 0 (.slice (some ⟨gs, 0, none⟩) n n) (.int .i64 s) (.bool (negQ (b : Rat))) (.slice A1 n1 c1) (.slice A2 n2 c2)) := by
 have hcg := chg_put5 (base := w.heap.size) hc (by omega) rowA_words (.slice (some ⟨gs, 0, none⟩) n n) (.int .i64 s) (.bool (negQ (b : Rat))) (.slice A1 n1 c1) (.slice A2 n2 c2)
 refine ⟨gs, gq, A1, n1, c1, A2, n2, c2, ha, hgs, hgq, ?_, hc.put5 _ _ _ _ _, FQ.keeps hf hcg.1, ?_⟩
 ·exact hm.chg hcg (by decide)
 ·exact ((((hs.other1 (g := gq) (by omega) (by simp; omega) 0 _).other1 (g := gq) (by omega) (by simp; omega) 1 _).other1 (g := gq) (by omega) (by simp; omega) 2 _).other1 (g := gq) (by omega) (by simp; omega) 3 _).other1 (g := gq) (by omega) (by simp; omega) 4 _
theorem Row3.set {α : Type} {E : World → Array Value → α → Prop} {w : World} {g t n i : Nat} {xs : List α} (hE : Far E) (h : Row3 t E w g n xs) {x : α} {a b c : Value} (hi : i < xs.length) (hx : E w #[a, b, c] x) (hn : ∀ u ∈ #[a, b, c], notInt u = true) :
  Row3 t E (((w.setCell ⟨g, i * 3, none⟩ a).setCell ⟨g, i * 3 + 1, none⟩ b).setCell ⟨g, i * 3 + 2, none⟩ c) g n (xs.set i x) := by
 obtain ⟨cs, hk, hs, hcn, hl, he⟩ := h
 have hsz : w.heap.size ≤ (((w.setCell ⟨g, i * 3, none⟩ a).setCell ⟨g, i * 3 + 1, none⟩ b).setCell ⟨g, i * 3 + 2, none⟩ c).heap.size := by simp [World.setCell]
 have hot : ∀ k, k < w.heap.size → k ≠ g → (((w.setCell ⟨g, i * 3, none⟩ a).setCell ⟨g, i * 3 + 1, none⟩ b).setCell ⟨g, i * 3 + 2, none⟩ c).heap[k]? = w.heap[k]? := fun k _ hkg => by
  exact sq61 _
 have hset : ∀ {xs : Array Value} {i : Nat} {v : Value}, (∀ x ∈ xs, notInt x = true) → notInt v = true → ∀ x ∈ xs.setIfInBounds i v, notInt x = true := fun {xs i v} h1 h2 x hx => by
  rcases Array.mem_or_eq_of_mem_setIfInBounds hx with h | h
  ·exact h1 x h
  ·rw [h]; exact h2
 refine ⟨_, ((hk.put (i * 3) a).put (i * 3 + 1) b).put (i * 3 + 2) c, by simp [hs], hset (hset (hset hcn (hn _ (by simp))) (hn _ (by simp))) (hn _ (by simp)), by simpa using hl, fun j y hy => ?_⟩
 by_cases hj : j = i
 ·subst hj
  rw [List.getElem?_set_self hi] at hy
  injection hy with hxy
  subst hxy
  refine ⟨a, b, c, ?_, ?_, ?_, hE _ _ _ _ _ _ _ hx hk hcn hsz hot⟩
  ·exact sq48 _
  ·exact sq64 _
  ·rw [Array.getElem?_setIfInBounds_self]; rw [if_pos (by simp; omega)]
 ·rw [List.getElem?_set_ne (by omega)] at hy
  exact sq41 _
theorem Blk.apart {w : World} {g g' t t' : Nat} {cs cs' : Array Value} (h : Blk w g t cs) (h' : Blk w g' t' cs') (hne : t ≠ t') : g ≠ g' := fun e => by
 subst e
 have := h.symm.trans h'
 injection this with this
 injection this with _ h2
 exact hne h2
theorem unitL_set (n k : Nat) : unitL n (k : Int) = (List.replicate n (0 : Rat)).set k 1 := by
 apply List.ext_getElem (by simp [unitL])
 intro i h1 h2
 simp only [unitL, List.getElem_map, List.getElem_range, List.getElem_set, List.getElem_replicate]
 by_cases e : i = k
 ·subst e; simp
 ·rw [if_neg (by omega), if_neg (by omega)]
theorem unit_put {w W : World} {n gs gq : Nat} {s b : Int} {A1 : Option Addr} {n1 c1 : Nat} {A2 : Option Addr} {n2 c2 : Nat} {xs : List Rat} (hgs : w.heap.size + 1 ≤ gs) (hne : gs ≠ gq) (hm : Row3 40 EFQ W gs n xs) (hc : Blk W gq 65 #[.slice (some ⟨gs, 0, none⟩) n n, .int .i64 s, .bool (negQ (b : Rat)), .slice A1 n1 c1, .slice A2 n2 c2]) (hf : FQ W (.agg #[.bool (negQ (b : Rat)), .slice A1 n1 c1, .slice A2 n2 c2]) (b : Rat)) (hs : HS w [(w.heap.size, 65, #[.slice none 0 0, .int .i64 0, .bool false, .slice none 0 0, .slice none 0 0])] W) (o : Nat) (x y z : Value) :
  Blk (((W.setCell ⟨gs, o, none⟩ x).setCell ⟨gs, o + 1, none⟩ y).setCell ⟨gs, o + 2, none⟩ z) gq 65 #[.slice (some ⟨gs, 0, none⟩) n n, .int .i64 s, .bool (negQ (b : Rat)), .slice A1 n1 c1, .slice A2 n2 c2] ∧ FQ (((W.setCell ⟨gs, o, none⟩ x).setCell ⟨gs, o + 1, none⟩ y).setCell ⟨gs, o + 2, none⟩ z) (.agg #[.bool (negQ (b : Rat)), .slice A1 n1 c1, .slice A2 n2 c2]) (b : Rat) ∧ HS w [(w.heap.size, 65, #[.slice none 0 0, .int .i64 0, .bool false, .slice none 0 0, .slice none 0 0])] (((W.setCell ⟨gs, o, none⟩ x).setCell ⟨gs, o + 1, none⟩ y).setCell ⟨gs, o + 2, none⟩ z) := by
 obtain ⟨cs, hk, hsz, hcn, _⟩ := hm
 refine ⟨((hc.other (a := ⟨gs, o, none⟩) hne.symm x).other (a := ⟨gs, o + 1, none⟩) hne.symm y).other (a := ⟨gs, o + 2, none⟩) hne.symm z, EFQ.far _ _ _ _ _ _ _ hf hk hcn (by simp [World.setCell]) (fun k _ hkg => by rw [Below.heap_setCell _ _ _ k hkg, Below.heap_setCell _ _ _ k hkg, Below.heap_setCell _ _ _ k hkg]), ?_⟩
 exact (((hs.other1 (g := gs) (by omega) (by simp; omega) o x).other1 (g := gs) (by omega) (by simp; omega) (o + 1) y).other1 (g := gs) (by omega) (by simp; omega) (o + 2) z)
theorem sq24 (P : Prop) (h : P := by
 obtain ⟨i0, i1, i2, i3, i4⟩ := HC3.out.c5
 obtain ⟨g0, g1, g2, g3, g4⟩ := HC3.out.f5
 have hltq := HC3.out.lt
 go_wp2_with fail
 refine NoPanic.normal ?_
 exact ⟨rfl, unit_laid (r := .slice (some ⟨gs, 0, none⟩) n n) hgs2 hgq2 HM3.out HC3.out HF3.out E3.out rfl⟩) : P := h
theorem sq51 (P : Prop) (h : P := by
 refine And.intro D3.out ⟨?_, ?_, ?_⟩
 rotate_left
 ·repeat (refine pu ?_; (try simp only [SQ]))
  exact rfl
 exact sq24 _) : P := h
theorem unit_calls (w : World) (n : Nat) (v s b : Int) (hn : n ≤ 1000000) (hv0 : 0 ≤ v) (hv1 : v < n) (hs : I64 s) (h0 : -9223372036854775808 ≤ b) (h1 : b < 9223372036854775808) : Calls Try.prog 47 #[.int .i64 (n : Int), .int .i64 v, .int .i64 s, .int .i64 b] w fun e w' => UPost w (unitQ n v s b) e w' := by
 have HS1 := Hd hs
 clear hs
 have hmk := run_make3 23 40 _ Try.underlying23 info40m n (by omega)
 go_enter Try.func47, Try.ntmps47
 go_wp2_with fail
 have H0 := Hd (HS.one (w := w) #[.slice none 0 0, .int .i64 0, .bool false, .slice none 0 0, .slice none 0 0] 65)
 have hsz1 : w.heap.size + 1 ≤ (w.alloc (.cells #[.slice none 0 0, .int .i64 0, .bool false, .slice none 0 0, .slice none 0 0] 65)).heap.size := by simp
 generalize w.alloc (.cells #[.slice none 0 0, .int .i64 0, .bool false, .slice none 0 0, .slice none 0 0] 65) = W0 at *
 refine Code.wp_mono (Q := fun e a W => e = .normal ∧ UnitLaid w n v s b a W) ?_ ?_
 rotate_left
 ·refine wp_fork (l := [_, _, _, _, _, _, _, _]) (S := Below W0.heap.size W0) 7 (.three [0, 2, 3] 1 (.two [] 4 (.one [5] 6 (.fin [])) 6 (.one [] 4 (.fin [5]))) 4 (.two [] 1 (.one [5] 6 (.fin [])) 6 (.one [] 1 (.fin [5]))) 6 (.two [] 1 (.one [] 4 (.fin [5])) 4 (.one [] 1 (.fin [5])))) (by kernel_rfl) (by kernel_rfl) (by kernel_rfl) rfl Bd ?_
  refine ⟨?_, _, _, _, ?_, rfl, rfl, rfl, ?_, ?_, ?_⟩
  rotate_left
  ·repeat (refine pu ?_; (try simp only [SQ]))
   exact rfl
  ·have D0 : Hid (Below W0.heap.size W0 W0.drew) := Bd
   have E0 := Hd (HS.step H0.out D0.out)
   have hz0 : w.heap.size + 1 ≤ W0.drew.heap.size := hsz1
   generalize W0.drew = Wx at *
   go_wp2_with fail
   have hr0 := Row3.made (E := EFQ) Wx 40 n #[.bool false, .slice none 0 0, .slice none 0 0] rfl ni40
   obtain ⟨gs, hgs⟩ : ∃ g, g = Wx.heap.size := ⟨_, rfl⟩
   have hgs2 : w.heap.size + 1 ≤ gs := by have := hz0; omega
   have hbm := below_new Wx (.cells (madeCells #[.bool false, .slice none 0 0, .slice none 0 0] (n * 3)) 40)
   have D1 := Hd (below_next D0.out hbm)
   have E1 := Hd (HS.step H0.out D1.out)
   have hz1 : w.heap.size + 1 ≤ (Wx.alloc (.cells (madeCells #[.bool false, .slice none 0 0, .slice none 0 0] (n * 3)) 40)).heap.size := Nat.le_trans hz0 (hbm).size
   rw [← hgs] at hr0 ⊢
   have HM1 := Hd hr0
   clear hr0 hbm hgs
   generalize Wx.alloc (.cells (madeCells #[.bool false, .slice none 0 0, .slice none 0 0] (n * 3)) 40) = Wm at *
   refine And.intro D1.out ⟨_, _, _, rfl, rfl, rfl, ?_, ?_⟩
   ·go_wp2_with fail
    refine (number_calls _ b h0 h1).mono ?_
    rintro e Wf ⟨u, rfl, hv, hbf⟩
    obtain ⟨A1, n1, c1, A2, n2, c2, rfl, HV⟩ := FQ.opened hv
    have D2 := Hd (below_next D1.out hbf)
    have E2 := Hd (HS.step H0.out D2.out)
    have hz2 : w.heap.size + 1 ≤ Wf.heap.size := Nat.le_trans hz1 (hbf).size
    have HM2 := Hd (HM1.out.below EFQ.stays hbf)
    have HF2 := HV
    clear hv hbf HV
    go_wp2_with fail
    refine And.intro D2.out ⟨?_, _, ?_, rfl, ?_⟩
    rotate_left
    ·repeat (refine pu ?_; (try simp only [SQ]))
     exact rfl
    go_wp2_with fail
    have hBq := Blk.new Wf 65 #[.slice none 0 0, .int .i64 0, .bool false, .slice none 0 0, .slice none 0 0]
    obtain ⟨gq, hgq⟩ : ∃ g, g = Wf.heap.size := ⟨_, rfl⟩
    have hgq2 : w.heap.size + 1 ≤ gq := by have := hz2; omega
    have hba := below_new Wf (.cells #[.slice none 0 0, .int .i64 0, .bool false, .slice none 0 0, .slice none 0 0] 65)
    have D3 := Hd (below_next D2.out hba)
    have E3 := Hd (HS.step H0.out D3.out)
    have hz3 : w.heap.size + 1 ≤ (Wf.alloc (.cells #[.slice none 0 0, .int .i64 0, .bool false, .slice none 0 0, .slice none 0 0] 65)).heap.size := Nat.le_trans hz2 (hba).size
    have HM3 := Hd (HM2.out.below EFQ.stays hba)
    have HF3 := Hd (HF2.out.of_below hba)
    rw [← hgq] at hBq ⊢
    have HC3 := Hd hBq
    clear hBq hba hgq
    generalize Wf.alloc (.cells #[.slice none 0 0, .int .i64 0, .bool false, .slice none 0 0, .slice none 0 0] 65) = Wc at *
    refine And.intro D3.out ⟨_, rfl, ?_⟩
    exact sq24 _
   ·go_wp2_with fail
    have hBq := Blk.new Wm 65 #[.slice none 0 0, .int .i64 0, .bool false, .slice none 0 0, .slice none 0 0]
    obtain ⟨gq, hgq⟩ : ∃ g, g = Wm.heap.size := ⟨_, rfl⟩
    have hgq2 : w.heap.size + 1 ≤ gq := by have := hz1; omega
    have hba := below_new Wm (.cells #[.slice none 0 0, .int .i64 0, .bool false, .slice none 0 0, .slice none 0 0] 65)
    have D2 := Hd (below_next D1.out hba)
    have E2 := Hd (HS.step H0.out D2.out)
    have hz2 : w.heap.size + 1 ≤ (Wm.alloc (.cells #[.slice none 0 0, .int .i64 0, .bool false, .slice none 0 0, .slice none 0 0] 65)).heap.size := Nat.le_trans hz1 (hba).size
    have HM2 := Hd (HM1.out.below EFQ.stays hba)
    rw [← hgq] at hBq ⊢
    have HC2 := Hd hBq
    clear hBq hba hgq
    generalize Wm.alloc (.cells #[.slice none 0 0, .int .i64 0, .bool false, .slice none 0 0, .slice none 0 0] 65) = Wc at *
    refine And.intro D2.out ⟨_, _, rfl, rfl, ?_⟩
    go_wp2_with fail
    refine (number_calls _ b h0 h1).mono ?_
    rintro e Wf ⟨u, rfl, hv, hbf⟩
    obtain ⟨A1, n1, c1, A2, n2, c2, rfl, HV⟩ := FQ.opened hv
    have D3 := Hd (below_next D2.out hbf)
    have E3 := Hd (HS.step H0.out D3.out)
    have hz3 : w.heap.size + 1 ≤ Wf.heap.size := Nat.le_trans hz2 (hbf).size
    have HM3 := Hd (HM2.out.below EFQ.stays hbf)
    have HC3 := Hd (HC2.out.below hbf HC2.out.lt)
    have HF3 := HV
    clear hv hbf HV
    go_wp2_with fail
    exact sq51 _
  ·have D0 : Hid (Below W0.heap.size W0 W0.drew) := Bd
   have E0 := Hd (HS.step H0.out D0.out)
   have hz0 : w.heap.size + 1 ≤ W0.drew.heap.size := hsz1
   generalize W0.drew = Wx at *
   go_wp2_with fail
   refine (number_calls _ b h0 h1).mono ?_
   rintro e Wf ⟨u, rfl, hv, hbf⟩
   obtain ⟨A1, n1, c1, A2, n2, c2, rfl, HV⟩ := FQ.opened hv
   have D1 := Hd (below_next D0.out hbf)
   have E1 := Hd (HS.step H0.out D1.out)
   have hz1 : w.heap.size + 1 ≤ Wf.heap.size := Nat.le_trans hz0 (hbf).size
   have HF1 := HV
   clear hv hbf HV
   go_wp2_with fail
   refine And.intro D1.out ⟨_, _, _, rfl, rfl, rfl, ?_, ?_⟩
   ·go_wp2_with fail
    have hr0 := Row3.made (E := EFQ) Wf 40 n #[.bool false, .slice none 0 0, .slice none 0 0] rfl ni40
    obtain ⟨gs, hgs⟩ : ∃ g, g = Wf.heap.size := ⟨_, rfl⟩
    have hgs2 : w.heap.size + 1 ≤ gs := by have := hz1; omega
    have hbm := below_new Wf (.cells (madeCells #[.bool false, .slice none 0 0, .slice none 0 0] (n * 3)) 40)
    have D2 := Hd (below_next D1.out hbm)
    have E2 := Hd (HS.step H0.out D2.out)
    have hz2 : w.heap.size + 1 ≤ (Wf.alloc (.cells (madeCells #[.bool false, .slice none 0 0, .slice none 0 0] (n * 3)) 40)).heap.size := Nat.le_trans hz1 (hbm).size
    have HF2 := Hd (HF1.out.of_below hbm)
    rw [← hgs] at hr0 ⊢
    have HM2 := Hd hr0
    clear hr0 hbm hgs
    generalize Wf.alloc (.cells (madeCells #[.bool false, .slice none 0 0, .slice none 0 0] (n * 3)) 40) = Wm at *
    refine And.intro D2.out ⟨?_, _, ?_, rfl, ?_⟩
    rotate_left
    ·repeat (refine pu ?_; (try simp only [SQ]))
     exact rfl
    go_wp2_with fail
    have hBq := Blk.new Wm 65 #[.slice none 0 0, .int .i64 0, .bool false, .slice none 0 0, .slice none 0 0]
    obtain ⟨gq, hgq⟩ : ∃ g, g = Wm.heap.size := ⟨_, rfl⟩
    have hgq2 : w.heap.size + 1 ≤ gq := by have := hz2; omega
    have hba := below_new Wm (.cells #[.slice none 0 0, .int .i64 0, .bool false, .slice none 0 0, .slice none 0 0] 65)
    have D3 := Hd (below_next D2.out hba)
    have E3 := Hd (HS.step H0.out D3.out)
    have hz3 : w.heap.size + 1 ≤ (Wm.alloc (.cells #[.slice none 0 0, .int .i64 0, .bool false, .slice none 0 0, .slice none 0 0] 65)).heap.size := Nat.le_trans hz2 (hba).size
    have HF3 := Hd (HF2.out.of_below hba)
    have HM3 := Hd (HM2.out.below EFQ.stays hba)
    rw [← hgq] at hBq ⊢
    have HC3 := Hd hBq
    clear hBq hba hgq
    generalize Wm.alloc (.cells #[.slice none 0 0, .int .i64 0, .bool false, .slice none 0 0, .slice none 0 0] 65) = Wc at *
    refine And.intro D3.out ⟨_, rfl, ?_⟩
    exact sq24 _
   ·go_wp2_with fail
    have hBq := Blk.new Wf 65 #[.slice none 0 0, .int .i64 0, .bool false, .slice none 0 0, .slice none 0 0]
    obtain ⟨gq, hgq⟩ : ∃ g, g = Wf.heap.size := ⟨_, rfl⟩
    have hgq2 : w.heap.size + 1 ≤ gq := by have := hz1; omega
    have hba := below_new Wf (.cells #[.slice none 0 0, .int .i64 0, .bool false, .slice none 0 0, .slice none 0 0] 65)
    have D2 := Hd (below_next D1.out hba)
    have E2 := Hd (HS.step H0.out D2.out)
    have hz2 : w.heap.size + 1 ≤ (Wf.alloc (.cells #[.slice none 0 0, .int .i64 0, .bool false, .slice none 0 0, .slice none 0 0] 65)).heap.size := Nat.le_trans hz1 (hba).size
    have HF2 := Hd (HF1.out.of_below hba)
    rw [← hgq] at hBq ⊢
    have HC2 := Hd hBq
    clear hBq hba hgq
    generalize Wf.alloc (.cells #[.slice none 0 0, .int .i64 0, .bool false, .slice none 0 0, .slice none 0 0] 65) = Wc at *
    refine And.intro D2.out ⟨_, _, rfl, rfl, ?_⟩
    go_wp2_with fail
    have hr0 := Row3.made (E := EFQ) Wc 40 n #[.bool false, .slice none 0 0, .slice none 0 0] rfl ni40
    obtain ⟨gs, hgs⟩ : ∃ g, g = Wc.heap.size := ⟨_, rfl⟩
    have hgs2 : w.heap.size + 1 ≤ gs := by have := hz2; omega
    have hbm := below_new Wc (.cells (madeCells #[.bool false, .slice none 0 0, .slice none 0 0] (n * 3)) 40)
    have D3 := Hd (below_next D2.out hbm)
    have E3 := Hd (HS.step H0.out D3.out)
    have hz3 : w.heap.size + 1 ≤ (Wc.alloc (.cells (madeCells #[.bool false, .slice none 0 0, .slice none 0 0] (n * 3)) 40)).heap.size := Nat.le_trans hz2 (hbm).size
    have HF3 := Hd (HF2.out.of_below hbm)
    have HC3 := Hd (HC2.out.below hbm HC2.out.lt)
    rw [← hgs] at hr0 ⊢
    have HM3 := Hd hr0
    clear hr0 hbm hgs
    generalize Wc.alloc (.cells (madeCells #[.bool false, .slice none 0 0, .slice none 0 0] (n * 3)) 40) = Wm at *
    exact sq51 _
  ·have D0 : Hid (Below W0.heap.size W0 W0.drew) := Bd
   have E0 := Hd (HS.step H0.out D0.out)
   have hz0 : w.heap.size + 1 ≤ W0.drew.heap.size := hsz1
   generalize W0.drew = Wx at *
   go_wp2_with fail
   have hBq := Blk.new Wx 65 #[.slice none 0 0, .int .i64 0, .bool false, .slice none 0 0, .slice none 0 0]
   obtain ⟨gq, hgq⟩ : ∃ g, g = Wx.heap.size := ⟨_, rfl⟩
   have hgq2 : w.heap.size + 1 ≤ gq := by have := hz0; omega
   have hba := below_new Wx (.cells #[.slice none 0 0, .int .i64 0, .bool false, .slice none 0 0, .slice none 0 0] 65)
   have D1 := Hd (below_next D0.out hba)
   have E1 := Hd (HS.step H0.out D1.out)
   have hz1 : w.heap.size + 1 ≤ (Wx.alloc (.cells #[.slice none 0 0, .int .i64 0, .bool false, .slice none 0 0, .slice none 0 0] 65)).heap.size := Nat.le_trans hz0 (hba).size
   rw [← hgq] at hBq ⊢
   have HC1 := Hd hBq
   clear hBq hba hgq
   generalize Wx.alloc (.cells #[.slice none 0 0, .int .i64 0, .bool false, .slice none 0 0, .slice none 0 0] 65) = Wc at *
   refine And.intro D1.out ⟨_, _, _, rfl, rfl, rfl, ?_, ?_⟩
   ·go_wp2_with fail
    have hr0 := Row3.made (E := EFQ) Wc 40 n #[.bool false, .slice none 0 0, .slice none 0 0] rfl ni40
    obtain ⟨gs, hgs⟩ : ∃ g, g = Wc.heap.size := ⟨_, rfl⟩
    have hgs2 : w.heap.size + 1 ≤ gs := by have := hz1; omega
    have hbm := below_new Wc (.cells (madeCells #[.bool false, .slice none 0 0, .slice none 0 0] (n * 3)) 40)
    have D2 := Hd (below_next D1.out hbm)
    have E2 := Hd (HS.step H0.out D2.out)
    have hz2 : w.heap.size + 1 ≤ (Wc.alloc (.cells (madeCells #[.bool false, .slice none 0 0, .slice none 0 0] (n * 3)) 40)).heap.size := Nat.le_trans hz1 (hbm).size
    have HC2 := Hd (HC1.out.below hbm HC1.out.lt)
    rw [← hgs] at hr0 ⊢
    have HM2 := Hd hr0
    clear hr0 hbm hgs
    generalize Wc.alloc (.cells (madeCells #[.bool false, .slice none 0 0, .slice none 0 0] (n * 3)) 40) = Wm at *
    refine And.intro D2.out ⟨_, _, rfl, rfl, ?_⟩
    go_wp2_with fail
    refine (number_calls _ b h0 h1).mono ?_
    rintro e Wf ⟨u, rfl, hv, hbf⟩
    obtain ⟨A1, n1, c1, A2, n2, c2, rfl, HV⟩ := FQ.opened hv
    have D3 := Hd (below_next D2.out hbf)
    have E3 := Hd (HS.step H0.out D3.out)
    have hz3 : w.heap.size + 1 ≤ Wf.heap.size := Nat.le_trans hz2 (hbf).size
    have HC3 := Hd (HC2.out.below hbf HC2.out.lt)
    have HM3 := Hd (HM2.out.below EFQ.stays hbf)
    have HF3 := HV
    clear hv hbf HV
    go_wp2_with fail
    exact sq51 _
   ·go_wp2_with fail
    refine (number_calls _ b h0 h1).mono ?_
    rintro e Wf ⟨u, rfl, hv, hbf⟩
    obtain ⟨A1, n1, c1, A2, n2, c2, rfl, HV⟩ := FQ.opened hv
    have D2 := Hd (below_next D1.out hbf)
    have E2 := Hd (HS.step H0.out D2.out)
    have hz2 : w.heap.size + 1 ≤ Wf.heap.size := Nat.le_trans hz1 (hbf).size
    have HC2 := Hd (HC1.out.below hbf HC1.out.lt)
    have HF2 := HV
    clear hv hbf HV
    go_wp2_with fail
    refine And.intro D2.out ⟨_, _, rfl, rfl, ?_⟩
    go_wp2_with fail
    have hr0 := Row3.made (E := EFQ) Wf 40 n #[.bool false, .slice none 0 0, .slice none 0 0] rfl ni40
    obtain ⟨gs, hgs⟩ : ∃ g, g = Wf.heap.size := ⟨_, rfl⟩
    have hgs2 : w.heap.size + 1 ≤ gs := by have := hz2; omega
    have hbm := below_new Wf (.cells (madeCells #[.bool false, .slice none 0 0, .slice none 0 0] (n * 3)) 40)
    have D3 := Hd (below_next D2.out hbm)
    have E3 := Hd (HS.step H0.out D3.out)
    have hz3 : w.heap.size + 1 ≤ (Wf.alloc (.cells (madeCells #[.bool false, .slice none 0 0, .slice none 0 0] (n * 3)) 40)).heap.size := Nat.le_trans hz2 (hbm).size
    have HC3 := Hd (HC2.out.below hbm HC2.out.lt)
    have HF3 := Hd (HF2.out.of_below hbm)
    rw [← hgs] at hr0 ⊢
    have HM3 := Hd hr0
    clear hr0 hbm hgs
    generalize Wf.alloc (.cells (madeCells #[.bool false, .slice none 0 0, .slice none 0 0] (n * 3)) 40) = Wm at *
    exact sq51 _
 rintro e a W ⟨rfl, gs, gq, A1, n1, c1, A2, n2, c2, rfl, hgs, hgq, hm, hc, hf, hs⟩
 unfold UnitAct
 obtain ⟨k, rfl⟩ := Int.eq_ofNat_of_zero_le hv0
 have hne : gs ≠ gq := by obtain ⟨cs, hk, _⟩ := hm; exact hk.apart hc (by decide)
 have HM0 := Hd hm
 have HC0 := Hd hc
 have HF0 := Hd hf
 have HK0 := Hd hs
 clear hm hc hf hs hmk H0 hsz1
 obtain ⟨i0, i1, i2, i3, i4⟩ := HC0.out.c5
 have hltq := HC0.out.lt
 go_wp2_with fail
 clear i0 i1 i2 i3 i4 hltq
 go_loopw [20] (fun vi wr => ∃ i : Nat, i ≤ n ∧ vi = .int .i64 (i : Int) ∧ Row3 40 EFQ wr gs n (List.replicate i (0 : Rat)) ∧ Blk wr gq 65 #[.slice (some ⟨gs, 0, none⟩) n n, .int .i64 s, .bool (negQ (b : Rat)), .slice A1 n1 c1, .slice A2 n2 c2] ∧ FQ wr (.agg #[.bool (negQ (b : Rat)), .slice A1 n1 c1, .slice A2 n2 c2]) (b : Rat) ∧ HS w [(w.heap.size, 65, #[.slice none 0 0, .int .i64 0, .bool false, .slice none 0 0, .slice none 0 0])] wr) (fun vi _ => n - (intOf vi).toNat)
 case atStart => exact ⟨0, Nat.zero_le _, rfl, HM0.out, HC0.out, HF0.out, HK0.out⟩
 case round =>
  obtain ⟨i, hi, rfl, hm, hc, hf, hs⟩ := hrel
  have HM := Hd hm
  have HC := Hd hc
  have HF := Hd hf
  have HK := Hd hs
  clear hm hc hf hs HM0 HC0 HF0 HK0
  obtain ⟨i0, i1, i2, i3, i4⟩ := HC.out.c5
  have hltq := HC.out.lt
  by_cases hlt : i < n
  ·have m1 : (i : Int) < (n : Int) := by omega
   have m3 : (i : Int).toNat = i := by omega
   have m4 : (0 : Int) ≤ (i : Int) := by omega
   go_wp2_with fail
   refine wp_chainF (l := [_, _, _, _, _, _]) (S := Below wr.heap.size wr) 4 [([0, 1, 2], 3)] [] (by kernel_rfl) (by kernel_rfl) (by kernel_rfl) rfl Bd ?_
   refine ⟨?_, _, ?_, rfl, ?_⟩
   rotate_left
   ·repeat (refine pu ?_; (try simp only [SQ]))
    exact rfl
   have D0 : Hid (Below wr.heap.size wr wr.drew) := Bd
   go_wp2_with fail
   refine (number_calls _ 0 (by decide) (by decide)).mono ?_
   rintro e W3 ⟨u, rfl, hv, hb⟩
   have hcast : ((0 : Int) : Rat) = (0 : Rat) := by norm_cast
   rw [hcast] at hv
   obtain ⟨B1, m1', d1, B2, m2', d2, rfl, HV3⟩ := FQ.opened hv
   have D3 := Hd (below_next D0.out hb)
   clear hv hb hcast
   have HM3 := Hd (HM.out.below EFQ.stays D3.out)
   have HC3 := Hd (HC.out.below D3.out HC.out.lt)
   have HF3 := Hd (HF.out.of_below D3.out)
   have HK3 := Hd (HK.out.step D3.out)
   go_wp2_with fail
   refine And.intro D3.out ⟨_, rfl, ?_⟩
   obtain ⟨a, b', d, e0, e1, e2, f0, f1, f2⟩ := HM3.out.cells i hlt
   have hlg := HM3.out.lt
   go_wp2_with fail
   refine NoPanic.normal ?_
   have HP := Hd (unit_put hgs hne HM3.out HC3.out HF3.out HK3.out (i * 3) (.bool (negQ 0)) (.slice B1 m1' d1) (.slice B2 m2' d2))
   have HR := HM3.out.push EFQ.far (by rw [List.length_replicate]; exact hlt) HV3.out (by simp [notInt])
   rw [List.length_replicate] at HR
   have HR' := Hd HR
   clear HR e0 e1 e2 f0 f1 f2 i0 i1 i2 i3 i4
   go_wp2_with fail
   go_roundw
   case rel => exact ⟨i + 1, by omega, by go_num, by rw [List.replicate_succ']; exact HR'.out, HP.out⟩
   case measure => simp [intOf]; omega
  ·obtain rfl : i = n := by omega
   have m1 : (k : Int) < (i : Int) := hv1
   have m3 : (k : Int).toNat = k := by omega
   have m4 : (0 : Int) ≤ (k : Int) := by omega
   have hki : k < i := by omega
   go_wp2_with fail
   refine wp_chainF (l := [_, _, _, _, _, _]) (S := Below wr.heap.size wr) 4 [([0, 1, 2], 3)] [] (by kernel_rfl) (by kernel_rfl) (by kernel_rfl) rfl Bd ?_
   refine ⟨?_, _, ?_, rfl, ?_⟩
   rotate_left
   ·repeat (refine pu ?_; (try simp only [SQ]))
    exact rfl
   have D0 : Hid (Below wr.heap.size wr wr.drew) := Bd
   go_wp2_with fail
   refine (number_calls _ 1 (by decide) (by decide)).mono ?_
   rintro e W3 ⟨u, rfl, hv, hb⟩
   have hcast : ((1 : Int) : Rat) = (1 : Rat) := by norm_cast
   rw [hcast] at hv
   obtain ⟨B1, m1', d1, B2, m2', d2, rfl, HV3⟩ := FQ.opened hv
   have D3 := Hd (below_next D0.out hb)
   clear hv hb hcast
   have HM3 := Hd (HM.out.below EFQ.stays D3.out)
   have HC3 := Hd (HC.out.below D3.out HC.out.lt)
   have HF3 := Hd (HF.out.of_below D3.out)
   have HK3 := Hd (HK.out.step D3.out)
   go_wp2_with fail
   refine And.intro D3.out ⟨_, rfl, ?_⟩
   obtain ⟨a, b', d, e0, e1, e2, f0, f1, f2⟩ := HM3.out.cells k hki
   have hlg := HM3.out.lt
   go_wp2_with fail
   refine NoPanic.normal ?_
   have HP := Hd (unit_put hgs hne HM3.out HC3.out HF3.out HK3.out (k * 3) (.bool (negQ 1)) (.slice B1 m1' d1) (.slice B2 m2' d2))
   have HR := Hd (HM3.out.set (i := k) EFQ.far (by rw [List.length_replicate]; exact hki) HV3.out (by simp [notInt]))
   clear e0 e1 e2 f0 f1 f2 i0 i1 i2 i3 i4 hltq
   generalize ((W3.setCell ⟨gs, k * 3, none⟩ (.bool (negQ 1))).setCell ⟨gs, k * 3 + 1, none⟩ (.slice B1 m1' d1)).setCell ⟨gs, k * 3 + 2, none⟩ (.slice B2 m2' d2) = W4 at *
   have HC4 := Hd HP.out.1
   have HF4 := Hd HP.out.2.1
   have HK4 := Hd HP.out.2.2
   rw [← unitL_set] at HR
   obtain ⟨i0, i1, i2, i3, i4⟩ := HC4.out.c5
   have hltq := HC4.out.lt
   obtain ⟨f0, f1, f2, f3, f4⟩ := (HK4.out.blk 0 rfl).f5
   obtain ⟨j0, j1, j2, j3, j4⟩ := (HK4.out.blk 0 rfl).c5
   have hlt0 := (HK4.out.blk 0 rfl).lt
   clear HM3 HC3 HF3 HK3 D0 D3 HP
   go_wp2_with fail
   have hcg := chg_put5 (base := w.heap.size) (HK4.out.blk 0 rfl) (by simp) rowA_words (.slice (some ⟨gs, 0, none⟩) i i) (.int .i64 s) (.bool (negQ (b : Rat))) (.slice A1 n1 c1) (.slice A2 n2 c2)
   have hq := Row3.own HR.out (unitL_length _ _) (show w.heap.size ≤ gs by omega) (by unfold maxLen; omega)
   exact ret65 Try.results47 rfl ((HK4.out.blk 0 rfl).put5 _ _ _ _ _) ⟨_, rfl, ⟨_, _, _, _, _, _, _, rfl, HS1.out, QO.chg hq hcg (by decide), FQ.keeps HF4.out hcg.1⟩, below_put5 HK4.out.2 (by simp) _ _ _ _ _⟩
section
variable {P : Program}
theorem OwnR.appendFull {w : World} {base e k : Nat} {A : Option Addr} {cap n : Nat} {xs : List Value} (h : OwnR w base e k (.slice A n cap) n xs) (t ty : TypeId) (z : Value) (bytes : Nat) (ht : P.underlying t = some (.slice e))
  (hinfo : (P.info? e).map (fun i => (i.zero, i.size, i.bytes)) = some (some z, k, bytes)) (hzs : z.cells.size = k) (hzw : ∀ u ∈ z.cells, notWord u = true)
  (a : Addr) (m c : Nat) (news : List Value) (hl : news.length = m * k) (hnews : ∀ j u, news[j]? = some u → w.cell? (a.add j) = some u) (hnw : ∀ u ∈ news, notWord u = true)
  (hm : 0 < m) (h63 : n + m ≤ 140737488355328) (hbytes : (n + m) * bytes ≤ 140737488355328) (hbase : base ≤ w.heap.size) :
  ∃ v' w', (Builtin.append_ #[t, t] ty #[.slice A n n, .slice (some a) m c]).run P w = .ok v' w' ∧ OwnR w' base e k v' (n + m) (xs ++ news) ∧ Below w.heap.size w w' := by
 obtain ⟨i, hi, hzz⟩ := Option.map_eq_some_iff.1 hinfo
 simp only [Prod.mk.injEq] at hzz
 obtain ⟨hz, hsz, hby⟩ := hzz
 subst hsz
 subst hby
 have hlen : (xs ++ news).length = (n + m) * i.size := by rw [lap, h.1, hl, Nat.add_mul]
 have grown : ∀ (old : Nat), old < n + m → (∀ u ∈ xs, notWord u = true) →
   OwnR (w.drew.alloc (.cells (xs.toArray ++ news.toArray ++ Builtin.zeroCells z.cells (grownCap w (n + m) old e - (n + m))) e)) base e i.size
    (.slice (some ⟨w.heap.size, 0, none⟩) (n + m) (grownCap w (n + m) old e)) (n + m) (xs ++ news) ∧
   Below w.heap.size w (w.drew.alloc (.cells (xs.toArray ++ news.toArray ++ Builtin.zeroCells z.cells (grownCap w (n + m) old e - (n + m))) e)) := by
  intro old ho hxw
  have hge := grownCap_ge w (n + m) old e
  have hcm : grownCap w (n + m) old e ≤ maxLen := grownCap_le_maxLen w (n + m) old e (by unfold maxLen; omega)
  refine ⟨⟨hlen, .inr ⟨w.heap.size, _, _, rfl, hbase, heap_alloc_new w.drew _, hge, hcm, ?_, ?_, fun u hu => ?_⟩⟩, Below.alloc Bd (Nat.le_refl _) _⟩
  ·simp only [Array.size_append, List.size_toArray, size_zeroCells, hzs, h.1, hl, ← Nat.add_mul]
   congr 1
   omega
  ·simp only [Array.toList_append, List.append_assoc]
   rw [← List.append_assoc, ← hlen]
   exact List.take_left
  ·simp only [Array.mem_append, List.mem_toArray] at hu
   rcases hu with (hu | hu) | hu
   ·exact hxw u hu
   ·exact hnw u hu
   ·exact notWord_zeros hzw _ u hu
 rcases h.2 with ⟨e0, rfl⟩ | ⟨g, cap', cur, e0, hbg, hg, hnc, hcm, hcs, htake, hcw⟩
 ·injection e0 with e1 _ e2
  subst e1
  have hx : xs = [] := List.eq_nil_of_length_eq_zero (by simpa using h.1)
  subst hx
  have hr := run_append_nil (P := P) w t ty e i z ht hi hz a m c news hl hnews hm (by omega) (by have hb := hbytes; simp only [Nat.zero_add] at hb; omega)
  have hgr := grown 0 (by omega) (by simp)
  simp only [Nat.zero_add, List.nil_append, Array.empty_append] at hgr ⊢
  exact ⟨_, _, hr, hgr.1, hgr.2⟩
 ·injection e0 with e1 _ e2
  subst e1
  have holds : ∀ j u, xs[j]? = some u → w.cell? ((⟨g, 0, none⟩ : Addr).add j) = some u := fun j u hj => by
   rw [add_zero']
   refine hg.cell ?_
   rw [← htake, List.getElem?_take] at hj
   split at hj
   ·simpa using hj
   ·cases hj
  have hxw : ∀ u ∈ xs, notWord u = true := fun u hu => by
   rw [← htake] at hu
   exact hcw u (by simpa using List.mem_of_mem_take hu)
  have hr := run_append_grow (P := P) w t ty e i z ht hi hz ⟨g, 0, none⟩ n n xs h.1 holds a m c news hl hnews (by omega) (by omega) (growslice_fits (by omega) hbytes)
  have hgr := grown n (by omega) hxw
  exact ⟨_, _, hr, hgr.1, hgr.2⟩
end
theorem wpl_appendR5F {ops : Array Oper} {rest : List Oper} {o : Oper} {a : Act} {Q : Exit → Act → World → Prop} {W : World} (hgd : o.guard = none) (s x : Operand) (ho : o.op = .call { callee := .builtin .append, args := #[s, x], argTypes := #[24, 24] }) {base : Nat}
  {A : Option Addr} {n cap : Nat} (rs : List RowQ) (hn : n = rs.length) (hs : a.eval s = .slice A n n) (hown : RO base W (.slice A n cap) rs) {g : Nat} {sn : Int} {b : Bool} {A0 A1 A2 : Option Addr} {n0 c0 n1 c1 n2 c2 : Nat} (r : RowQ) (hx : a.eval x = .slice (some ⟨g, 0, none⟩) 1 1) (hk : Blk W g 65 #[.slice A0 n0 c0, .int .i64 sn, .bool b, .slice A1 n1 c1, .slice A2 n2 c2]) (hf : ERO base W #[.slice A0 n0 c0, .int .i64 sn, .bool b, .slice A1 n1 c1, .slice A2 n2 c2] r)
  (hl : rs.length ≤ 1000000000) (hbase : base ≤ W.heap.size)
  (h : ∀ v' w', RO base w' v' (rs ++ [r]) → Below W.heap.size W w' → wpList Try.prog ops Q rest (a.put o.dst v') w') : wpList Try.prog ops Q (o :: rest) a W := by
 subst hn
 obtain ⟨xs, h1, h2⟩ := hown
 obtain ⟨v', w', hr, h3, h4⟩ := OwnR.appendFull h1 24 o.type zeroR 88 Try.underlying24 info65 rfl zeroR_words ⟨g, 0, none⟩ 1 1 [.slice A0 n0 c0, .int .i64 sn, .bool b, .slice A1 n1 c1, .slice A2 n2 c2] rfl (lit_cells hk) (row_word rfl) (by decide) (by omega) (by omega) hbase
 refine wpList_plain hgd fun K hK => ?_
 unfold Oper.wp execOp
 simp only [ho, resolve, invoke, builtin, Sem.run_bind, Sem.run_pure, Result.andThen_ok, List.map_toArray, List.map_cons, List.map_nil, hs, hx, hr]
 refine hK _ _ (h v' w' ?_ h4)
 exact OL.pushT (ERO.leans (t := 65) (by decide)) (k := 5) (e := 65) (vs := #[.slice A0 n0 c0, .int .i64 sn, .bool b, .slice A1 n1 c1, .slice A2 n2 c2]) h1 h2 rfl hf (Chg.of_below h4) h3
def branchQ (p : ProgQ) (x b : Int) : ProgQ := ⟨p.vars, p.free, p.goal, p.rows ++ [unitQ p.vars.toNat x 0 b]⟩
def BrPost (base : Nat) (w : World) (p : ProgQ) (e : Ending) (w' : World) : Prop := ∃ v, e = .returned v ∧ PO base w' v p ∧ Below w.heap.size w w'
theorem branch_calls (base : Nat) (w : World) (v : Value) (p : ProgQ) (x y : Int) (h : PO base w v p) (hbase : base ≤ w.heap.size) (hv1 : 1 ≤ p.vars) (hv2 : p.vars ≤ 160) (hx0 : 0 ≤ x) (hx1 : x < p.vars) (hy : y = 0 ∨ y = 1) (hlr : p.rows.length ≤ 100000) : Calls Try.prog 112 #[v, .int .i64 x, .int .i64 y] w fun e w' => BrPost base w (branchQ p x y) e w' := by
 obtain ⟨A1, c1, A2, c2, A3, c3, rfl, HI, H1, H2, H3⟩ := h.opened
 clear h
 have hc3 : p.rows.length ≤ c3 := by
  obtain ⟨_, _, er, hc⟩ := OL.slice H3.out
  injection er with _ _ er
  omega
 obtain ⟨vars, hv⟩ : ∃ n, n = p.vars := ⟨_, rfl⟩
 rw [← hv] at hv1 hv2 hx1 HI ⊢
 have HV := Hd hv
 clear hv
 obtain ⟨n, rfl⟩ : ∃ n : Nat, vars = n := ⟨vars.toNat, by omega⟩
 go_enter Try.func112, Try.ntmps112
 go_wp2_with fail
 have K0 := Hd (HS.two (w := w) #[.int .i64 (n : Int), .slice A1 p.free.length c1, .slice A2 p.goal.length c2, .slice A3 p.rows.length c3] #[.int .i64 0, .slice none 0 0, .slice none 0 0, .slice none 0 0] 26 26)
 have hsz : w.heap.size + 2 ≤ ((w.alloc (.cells #[.int .i64 (n : Int), .slice A1 p.free.length c1, .slice A2 p.goal.length c2, .slice A3 p.rows.length c3] 26)).alloc (.cells #[.int .i64 0, .slice none 0 0, .slice none 0 0, .slice none 0 0] 26)).heap.size := by simp
 generalize (w.alloc (.cells #[.int .i64 (n : Int), .slice A1 p.free.length c1, .slice A2 p.goal.length c2, .slice A3 p.rows.length c3] 26)).alloc (.cells #[.int .i64 0, .slice none 0 0, .slice none 0 0, .slice none 0 0] 26) = W0 at *
 obtain ⟨x0, x1, x2, x3⟩ := (K0.out.blk 1 rfl).c4
 have hlt1 := (K0.out.blk 1 rfl).lt
 have m1 : (p.rows.length : Int) ≤ (c3 : Int) := by omega
 have m2 : (0 : Int) ≤ (p.rows.length : Int) := by omega
 have m3 : ((p.rows.length : Int)).toNat = p.rows.length := by omega
 refine wp_chainF (l := [_, _, _, _, _, _, _, _, _, _, _, _, _, _, _, _, _, _]) (S := Below W0.heap.size W0) 15 [([0, 1, 2, 3, 4, 5, 6, 7, 8, 9, 10, 11, 12], 13), ([], 14)] [] (by kernel_rfl) (by kernel_rfl) (by kernel_rfl) rfl Bd ?_
 refine ⟨?_, _, ?_, rfl, ?_⟩
 rotate_left
 ·repeat (refine pu ?_; (try simp only [SQ]))
  exact rfl
 have D0 : Hid (Below W0.heap.size W0 W0.drew) := Bd
 have hI : I64 x := by unfold I64; omega
 go_wp2_with fail
 refine (unit_calls _ n x 0 y (by omega) hx0 hx1 (by unfold I64; omega) (by omega) (by omega)).mono ?_
 rintro e W3 ⟨vs, rfl, her, hb⟩
 obtain ⟨v5, C5, n5, e5, C6, n6, e6, rfl, HIS, hqa, hfb⟩ := her
 have D3 := Hd (below_next D0.out hb)
 have K3 := Hd (K0.out.step D3.out)
 have HQA := Hd (hqa.lower (base' := base) (Nat.le_trans hbase (Nat.le_trans K0.out.2.size D0.out.size)))
 obtain ⟨C4, e4, rfl, _⟩ := hqa.slice
 have HV3 := Hd hfb
 clear hqa hfb hb x0 x1 x2 x3 hlt1
 go_wp2_with fail
 refine And.intro D3.out ⟨_, _, rfl, rfl, ?_⟩
 go_wp2_with fail
 have HL4 := Hd (Blk.new W3 65 #[.slice C4 (unitQ n x 0 y).a.length e4, .int .i64 (unitQ n x 0 y).s, .bool (negQ (unitQ n x 0 y).b), .slice C5 n5 e5, .slice C6 n6 e6])
 have hbn := below_new W3 (.cells #[.slice C4 (unitQ n x 0 y).a.length e4, .int .i64 (unitQ n x 0 y).s, .bool (negQ (unitQ n x 0 y).b), .slice C5 n5 e5, .slice C6 n6 e6] 65)
 have D4 := Hd (below_next D3.out hbn)
 have K4 := Hd (K3.out.step hbn)
 have HQ4 := Hd (HQA.out.below EFQ.stays hbn)
 have HV4 := Hd (HV3.out.of_below hbn)
 obtain ⟨gl, hgl⟩ : ∃ g, g = W3.heap.size := ⟨_, rfl⟩
 rw [← hgl] at HL4 ⊢
 generalize W3.alloc (.cells #[.slice C4 (unitQ n x 0 y).a.length e4, .int .i64 (unitQ n x 0 y).s, .bool (negQ (unitQ n x 0 y).b), .slice C5 n5 e5, .slice C6 n6 e6] 65) = W4 at *
 clear hgl hbn
 refine And.intro D4.out ⟨_, rfl, ?_⟩
 have HRO4 := Hd (OL.below ERO.stays H3.out K4.out.2)
 have hbase4 : base ≤ W4.heap.size := Nat.le_trans hbase K4.out.2.size
 have HER : Hid (ERO base W4 #[.slice C4 (unitQ n x 0 y).a.length e4, .int .i64 (unitQ n x 0 y).s, .bool (negQ (unitQ n x 0 y).b), .slice C5 n5 e5, .slice C6 n6 e6] (unitQ n x 0 y)) := ⟨_, _, _, _, _, _, _, rfl, HIS, HQ4.out, HV4.out⟩
 obtain ⟨rs2, hrs2⟩ : ∃ l, l = p.rows ++ [unitQ n x 0 y] := ⟨_, rfl⟩
 have HRS := Hd hrs2
 have HRL : Hid (rs2.length = p.rows.length + 1) := by unfold Hid; rw [hrs2]; simp
 clear hrs2
 simp only [SQ, List.drop_succ_cons, List.drop_zero]
 go_wp2_with (at_builtin; refine wpl_appendR5F rfl (.tmp 15) (.tmp 21) rfl (base := base) (A := A3) (n := p.rows.length) (cap := c3) p.rows rfl rfl HRO4.out (unitQ n x 0 y) rfl HL4.out HER.out (by omega) hbase4 ?_; intro v6 W6 hro6 hb6; rw [← HRS.out] at hro6; obtain ⟨A6, c6, hv6, _⟩ := OL.slice hro6; rw [HRL.out] at hv6; subst hv6; have HRO6 := Hd hro6; have K6 := Hd (K4.out.step hb6); obtain ⟨x0, x1, x2, x3⟩ := (K6.out.blk 1 rfl).c4; obtain ⟨f0, f1, f2, f3⟩ := (K6.out.blk 1 rfl).f4; have hlt6 := (K6.out.blk 1 rfl).lt; clear hro6 hb6)
 refine NoPanic.normal ?_
 have HP7 := Hd ((K6.out.blk 1 rfl).put 3 (.slice A6 (p.rows.length + 1) c6))
 have KZ6 : HS w [(w.heap.size + 1, 26, #[.int .i64 0, .slice none 0 0, .slice none 0 0, .slice none 0 0])] W6 := ⟨fun b hb => K6.out.1 b (List.mem_cons.2 (Or.inl (by simpa using hb))), K6.out.2⟩
 have KZ7 := Hd (KZ6.other1 (g := w.heap.size) (Nat.le_refl _) (by simp) 3 (.slice A6 (p.rows.length + 1) c6))
 have hcp := chg_put1 (base := base) (j := 3) (K6.out.blk 1 rfl) hbase prog_words (.slice A6 (p.rows.length + 1) c6)
 have HRO7 := Hd (RO.chg HRO6.out hcp (by decide) (by decide))
 have HQ7 := Hd (QO.chg (OL.below EFQ.stays H2.out K6.out.2) hcp (by decide))
 have HF7 := Hd (FrO.chg (FrO.below H1.out K6.out.2) hcp (by decide))
 clear hcp KZ6 x0 x1 x2 x3 f0 f1 f2 f3 hlt6
 generalize W6.setCell ⟨w.heap.size, 3, none⟩ (.slice A6 (p.rows.length + 1) c6) = W7 at *
 obtain ⟨x0, x1, x2, x3⟩ := HP7.out.c4
 have hlt7 := HP7.out.lt
 obtain ⟨j0, j1, j2, j3⟩ := (KZ7.out.blk 0 rfl).c4
 obtain ⟨f0, f1, f2, f3⟩ := (KZ7.out.blk 0 rfl).f4
 have hlt0 := (KZ7.out.blk 0 rfl).lt
 go_wp2_with fail
 have hcg := chg_put4 (base := base) (KZ7.out.blk 0 rfl) (by omega) prog_words (.int .i64 (n : Int)) (.slice A1 p.free.length c1) (.slice A2 p.goal.length c2) (.slice A6 (p.rows.length + 1) c6)
 have HBQ : Hid (branchQ p x y = ⟨(n : Int), p.free, p.goal, rs2⟩) := by unfold Hid branchQ; rw [← HV.out, HRS.out]; rfl
 rw [HBQ.out]
 exact ret26 Try.results112 rfl ((KZ7.out.blk 0 rfl).put4 _ _ _ _) ⟨_, rfl, ⟨_, _, _, rfl, HI.out, HF7.out.chg hcg (by decide), QO.chg HQ7.out hcg (by decide), RO.chg HRO7.out hcg (by decide) (by decide)⟩, below_put4 KZ7.out.2 (by simp) _ _ _ _⟩
def wholesP (p : ProgF) (l : List Int) : Int := if rightP p ≠ 0 then rightP p else if distinctB p.vars l = false then 20 else if (l.any fun v => p.free.getD v.toNat false) = true then 20 else 0
noncomputable def boundedQ (p : ProgF) (l : List Int) : ProgQ := ⟨p.vars, p.free, p.goal.map fixQ, p.rows.map cleanR ++ l.map fun v => unitQ p.vars.toNat v (-1) 1⟩
theorem wholes_calls (w : World) (v vx : Value) (p : ProgF) (xs : List Int) (h : PR w v p) (hx : IL w vx xs) (hxl : xs.length ≤ 4000000000000000) (hxi : ∀ x ∈ xs, I64 x) : Calls Try.prog 77 #[v, vx] w fun e w' => IPost w (wholesP p xs) e w' := by
 have HP := Hd h
 have HX := Hd hx
 have HXI := Hd hxi
 obtain ⟨X1, xc, rfl, _⟩ := hx.slice
 obtain ⟨A1, c1, A2, c2, A3, c3, rfl, HI, H1, H2, H3⟩ := h.opened
 clear h hx hxi
 obtain ⟨vars, hv⟩ : ∃ n, n = p.vars := ⟨_, rfl⟩
 rw [← hv] at HP ⊢
 have HV := Hd hv
 clear hv
 go_enter Try.func77, Try.ntmps77
 go_wp2_with fail
 have H0 := Hd (HS.one (w := w) #[.int .i64 vars, .slice A1 p.free.length c1, .slice A2 p.goal.length c2, .slice A3 p.rows.length c3] 26)
 generalize w.alloc (.cells #[.int .i64 vars, .slice A1 p.free.length c1, .slice A2 p.goal.length c2, .slice A3 p.rows.length c3] 26) = W0 at *
 refine (pright_calls W0 _ p (HP.out.of_below H0.out.2)).mono ?_
 rintro e w1 ⟨rfl, hb⟩
 have K1 := Hd (H0.out.step hb)
 obtain ⟨x0, x1, x2, x3⟩ := K1.out.c4 0 rfl
 have hlt1 := (K1.out.blk 0 rfl).lt
 clear hb H0
 by_cases q1 : rightP p = 0
 case neg =>
  have u1 : (rightP p != 0) = true := bneI q1
  have HC : Hid (wholesP p xs = rightP p) := by unfold Hid wholesP; rw [if_pos q1]
  clear q1
  go_wp2_with fail
  go_ret
  exact ⟨by rw [HC.out]; rfl, K1.out.2⟩
 have u1 : (rightP p != 0) = false := beqI q1
 have hrl := rightP_len q1
 have HRZ := Hd q1
 have HFL : Hid ((p.free.length : Int) = vars) := by unfold Hid; rw [HV.out]; exact hrl.1
 have HVB : Hid (1 ≤ vars ∧ vars ≤ 160) := by unfold Hid; rw [HV.out]; exact ⟨hrl.2.2.1, hrl.2.2.2.1⟩
 clear q1 hrl
 go_wp2_with fail
 refine (distinct_calls w1 _ xs vars (HX.out.below EI.stays K1.out.2) hxl HXI.out).mono ?_
 rintro e w2 ⟨rfl, hb⟩
 have K2 := Hd (K1.out.step hb)
 clear hb x0 x1 x2 x3 hlt1 K1
 obtain ⟨x0, x1, x2, x3⟩ := K2.out.c4 0 rfl
 have hlt1 := (K2.out.blk 0 rfl).lt
 cases hd : distinctB vars xs
 case false =>
  have HC : Hid (wholesP p xs = 20) := by unfold Hid wholesP; rw [if_neg (by simp [HRZ.out]), if_pos (by rw [← HV.out]; exact hd)]
  clear hd
  go_wp2_with fail
  go_ret
  exact ⟨by rw [HC.out]; rfl, K2.out.2⟩
 have HD := Hd hd
 clear hd
 go_wp2_with fail
 clear x0 x1 x2 x3 hlt1
 go_loopw [20] (fun vi wr => ∃ i : Nat, i ≤ xs.length ∧ vi = .int .i64 (i : Int) ∧ (∀ (j : Nat) (x : Int), j < i → xs[j]? = some x → p.free.getD x.toNat false = false) ∧ HS w [(w.heap.size, 26, #[.int .i64 vars, .slice A1 p.free.length c1, .slice A2 p.goal.length c2, .slice A3 p.rows.length c3])] wr) (fun vi _ => xs.length - (intOf vi).toNat)
 case atStart => exact ⟨0, Nat.zero_le _, rfl, fun j _ h => absurd h (Nat.not_lt_zero _), K2.out⟩
 case round =>
  obtain ⟨i, hi, rfl, hall, hs⟩ := hrel
  have HA := Hd hall
  have KK := Hd hs
  clear hall hs K2
  obtain ⟨x0, x1, x2, x3⟩ := KK.out.c4 0 rfl
  have hlt1 := (KK.out.blk 0 rfl).lt
  by_cases hlt : i < xs.length
  ·obtain ⟨x, hx⟩ : ∃ x, xs[i]? = some x := ⟨xs[i], geq hlt⟩
   obtain ⟨g, o, rfl, hg, k0⟩ := IL.at1 (HX.out.below EI.stays KK.out.2) hx
   have HX1 := Hd hx
   have hxr : 0 ≤ x ∧ x < vars := by
    have := HD.out
    unfold distinctB at this
    exact (of_decide_eq_true this).1 x (mog hx)
   obtain ⟨n, rfl⟩ : ∃ n : Nat, x = n := ⟨x.toNat, by omega⟩
   have hnl : n < p.free.length := by have := HFL.out; omega
   obtain ⟨b, hb⟩ : ∃ b, p.free[n]? = some b := ⟨p.free[n], geq hnl⟩
   obtain ⟨gf, of, rfl, hgf, k1⟩ := BL.at1 (SL.below EB.stays H1.out KK.out.2) hb
   have HB1 : Hid (p.free.getD (n : Int).toNat false = b) := by unfold Hid; rw [Int.toNat_natCast, gdd, hb]; rfl
   have m1 : (i : Int) < (xs.length : Int) := by omega
   have m2 : (n : Int) < (p.free.length : Int) := by omega
   have m3 : (i : Int).toNat = i := by omega
   have m5 : (n : Int).toNat = n := by omega
   have m4 : (0 : Int) ≤ (i : Int) := by omega
   have m6 : (0 : Int) ≤ (n : Int) := by omega
   clear hx hb hxr
   cases b
   case true =>
    have HC : Hid (wholesP p xs = 20) := by
     unfold Hid wholesP
     rw [if_neg (by simp [HRZ.out]), if_neg (by rw [← HV.out, HD.out]; simp), if_pos (List.any_eq_true.2 ⟨_, mog HX1.out, HB1.out⟩)]
    go_wp2_with fail
    go_ret
    exact ⟨by rw [HC.out]; rfl, KK.out.2⟩
   case false =>
    have HNX : Hid (∀ (j : Nat) (x : Int), j < i + 1 → xs[j]? = some x → p.free.getD x.toNat false = false) := fun j y hj hy => by
     by_cases hji : j = i
     ·rw [hji, HX1.out] at hy
      injection hy with e
      rw [← e]
      exact HB1.out
     ·exact HA.out j y (by omega) hy
    go_wp2_with fail
    go_roundw
    case rel => exact ⟨i + 1, by omega, by go_num, HNX.out, KK.out⟩
    case measure => simp [intOf]; omega
  ·obtain rfl : i = xs.length := by omega
   have HC : Hid (wholesP p xs = 0) := by
    unfold Hid wholesP
    rw [if_neg (by simp [HRZ.out]), if_neg (by rw [← HV.out, HD.out]; simp), if_neg]
    rw [List.any_eq_true]
    rintro ⟨x, hx, hb⟩
    obtain ⟨j, hj⟩ := List.getElem?_of_mem hx
    rw [HA.out j x (List.getElem?_eq_some_iff.1 hj).1 hj] at hb
    cases hb
   go_wp2_with fail
   go_ret
   exact ⟨by rw [HC.out]; rfl, KK.out.2⟩
theorem bounded_calls (w : World) (v vx : Value) (p : ProgF) (xs : List Int) (h : PR w v p) (hx : IL w vx xs) (hxl : xs.length ≤ 1000000) (hr : rightP p = 0) (hd : distinctB p.vars xs = true) : Calls Try.prog 79 #[v, vx] w fun e w' => CPost w (boundedQ p xs) e w' := by
 have HP := Hd h
 have HX := Hd hx
 obtain ⟨X1, xc, rfl, _⟩ := hx.slice
 obtain ⟨A1, c1, A2, c2, A3, c3, rfl, HI, H1, H2, H3⟩ := h.opened
 clear h hx
 obtain ⟨vars, hv⟩ : ∃ n, n = p.vars := ⟨_, rfl⟩
 rw [← hv] at HP hd ⊢
 have HV := Hd hv
 have HD := Hd hd
 have hrl := rightP_len hr
 have hlf : p.free.length ≤ 1000 := by have := hrl.1; have := hrl.2.2.2.1; omega
 have hlg : p.goal.length ≤ 1000 := by have := hrl.2.1; have := hrl.2.2.2.1; omega
 have hlr : p.rows.length ≤ 1000 := by have := hrl.2.2.2.2.1; omega
 have HLA : Hid (∀ r ∈ p.rows, r.a.length ≤ 1000) := fun r hr => by have := (hrl.2.2.2.2.2 r hr).1; have := hrl.2.2.2.1; omega
 have HVB : Hid (1 ≤ vars ∧ vars ≤ 160) := by unfold Hid; rw [HV.out]; exact ⟨hrl.2.2.1, hrl.2.2.2.1⟩
 clear hv hd hr hrl
 go_enter Try.func79, Try.ntmps79
 go_wp2_with fail
 have KK := Hd (HS.two (w := w) #[.int .i64 vars, .slice A1 p.free.length c1, .slice A2 p.goal.length c2, .slice A3 p.rows.length c3] #[.int .i64 0, .slice none 0 0, .slice none 0 0, .slice none 0 0] 26 26)
 generalize (w.alloc (.cells #[.int .i64 vars, .slice A1 p.free.length c1, .slice A2 p.goal.length c2, .slice A3 p.rows.length c3] 26)).alloc (.cells #[.int .i64 0, .slice none 0 0, .slice none 0 0, .slice none 0 0] 26) = W0 at *
 refine (clean_calls _ _ p (HP.out.of_below KK.out.2) hlf hlg hlr HLA.out).mono ?_
 rintro e w2 ⟨v1, v2, v3, rfl, hfr, hq, hro, hb⟩
 rw [show (cleanQ p).vars = vars from HV.out.symm]
 have hq' : QO w.heap.size w2 v2 (p.goal.map fixQ) := hq.lower KK.out.2.size
 have hro' : RO w.heap.size w2 v3 (p.rows.map cleanR) := RO.lower hro KK.out.2.size
 obtain ⟨B2, d2, ev2, _⟩ := hq'.slice
 rw [lmp] at ev2
 subst ev2
 obtain ⟨B3, d3, ev3, _⟩ := OL.slice hro'
 rw [lmp] at ev3
 subst ev3
 have hfr' : FrO 0 w2 v1 p.free := hfr
 obtain ⟨B1, d1, rfl, _⟩ := hfr'.1.slice
 have K2 := Hd (KK.out.step hb)
 have hsz3 : w.heap.size + 2 ≤ w2.heap.size := by have : w.heap.size + 1 < w2.heap.size := (K2.out.blk 0 rfl).lt; omega
 obtain ⟨x0, x1, x2, x3⟩ := K2.out.c4 1 rfl
 have hlt2 := (K2.out.blk 1 rfl).lt
 clear hq hro hb hfr
 go_wp2_with fail
 have hbn := below_new w2 (.cells #[.int .i64 vars, .slice B1 p.free.length d1, .slice B2 p.goal.length d2, .slice B3 p.rows.length d3] 26)
 have HBc := Hd (Blk.new w2 26 #[.int .i64 vars, .slice B1 p.free.length d1, .slice B2 p.goal.length d2, .slice B3 p.rows.length d3])
 have HFc := Hd (hfr'.below hbn)
 have HQc := Hd (OL.below EFQ.stays hq' hbn)
 have HRc := Hd (OL.below ERO.stays hro' hbn)
 have HSc := Hd (K2.out.step hbn)
 obtain ⟨gq, hgq⟩ : ∃ g, g = w2.heap.size := ⟨_, rfl⟩
 rw [← hgq] at HBc
 have hgq2 : w.heap.size + 2 ≤ gq := by omega
 generalize w2.alloc (.cells #[.int .i64 vars, .slice B1 p.free.length d1, .slice B2 p.goal.length d2, .slice B3 p.rows.length d3] 26) = Wc at *
 rw [← hgq]
 clear hgq hbn hfr' hq' hro' x0 x1 x2 x3 hlt2 K2 hsz3
 obtain ⟨n, rfl⟩ : ∃ n : Nat, vars = n := ⟨vars.toNat, by have := HVB.out.1; omega⟩
 have hn2 : n ≤ 160 := by have := HVB.out.2; omega
 obtain ⟨qg, hqg⟩ : ∃ q, q = p.goal.map fixQ := ⟨_, rfl⟩
 rw [← hqg] at HQc
 have HQG := Hd hqg
 obtain ⟨rq, hrq⟩ : ∃ q, q = p.rows.map cleanR := ⟨_, rfl⟩
 rw [← hrq] at HRc
 have HRQ := Hd hrq
 have HRL : Hid (rq.length = p.rows.length) := by unfold Hid; rw [hrq, lmp]
 obtain ⟨fr, hfr⟩ : ∃ q, q = xs.map fun v => unitQ n v (-1) 1 := ⟨_, rfl⟩
 have HFR0 := Hd hfr
 have HFL : Hid (fr.length = xs.length) := by unfold Hid; rw [hfr, lmp]
 clear hfr hqg hrq KK
 go_loopw [12] (fun vi wr => ∃ i : Nat, i ≤ xs.length ∧ vi = .int .i64 (i : Int) ∧ (∃ A5 c5, Blk wr gq 26 #[.int .i64 (n : Int), .slice B1 p.free.length d1, .slice B2 p.goal.length d2, .slice A5 (p.rows.length + i) c5] ∧ RO w.heap.size wr (.slice A5 (p.rows.length + i) c5) (rq ++ fr.take i)) ∧ FrO 0 wr (.slice B1 p.free.length d1) p.free ∧ QO w.heap.size wr (.slice B2 p.goal.length d2) qg ∧ HS w [(w.heap.size + 1, 26, #[.int .i64 0, .slice none 0 0, .slice none 0 0, .slice none 0 0]), (w.heap.size, 26, #[.int .i64 (n : Int), .slice A1 p.free.length c1, .slice A2 p.goal.length c2, .slice A3 p.rows.length c3])] wr) (fun vi _ => xs.length - (intOf vi).toNat)
 case atStart => exact ⟨0, Nat.zero_le _, rfl, ⟨B3, d3, HBc.out, by rw [List.take_zero, List.append_nil]; exact HRc.out⟩, HFc.out, HQc.out, HSc.out⟩
 case round =>
  obtain ⟨i, hi, rfl, ⟨A5, c5, hbq, hro⟩, hfr, hqo, hs⟩ := hrel
  have HBQ := Hd hbq
  have HRO := Hd hro
  have HFR := Hd hfr
  have HQO := Hd hqo
  have HK := Hd hs
  clear hbq hro hfr hqo hs HBc HFc HQc HSc HRc
  obtain ⟨x0, x1, x2, x3⟩ := HK.out.c4 1 rfl
  have hltp := (HK.out.blk 1 rfl).lt
  obtain ⟨i0, i1, i2, i3⟩ := HBQ.out.c4
  have hltq := HBQ.out.lt
  by_cases hlt : i < xs.length
  ·obtain ⟨x, hx⟩ : ∃ x, xs[i]? = some x := ⟨xs[i], geq hlt⟩
   obtain ⟨gx, ox, rfl, hgx, k0⟩ := IL.at1 (HX.out.below EI.stays HK.out.2) hx
   have hxr : 0 ≤ x ∧ x < (n : Int) := by
    have := HD.out
    unfold distinctB at this
    exact (of_decide_eq_true this).1 x (mog hx)
   have HNX : Hid (rq ++ fr.take (i + 1) = rq ++ fr.take i ++ [unitQ n x (-1) 1]) := by
    unfold Hid
    rw [List.take_add_one, HFR0.out, List.getElem?_map, hx, List.append_assoc]
    rfl
   have hrl : (rq ++ fr.take i).length ≤ 1000000000 := by rw [lap, HRL.out, ltk, HFL.out]; omega
   have m1 : (i : Int) < (xs.length : Int) := by omega
   have m3 : (i : Int).toNat = i := by omega
   have m4 : (0 : Int) ≤ (i : Int) := by omega
   clear hx
   go_wp2_with fail
   refine wp_chainF (l := [_, _, _, _, _, _, _, _, _, _]) (S := Below wr.heap.size wr) 7 [([0, 1, 2, 3, 4], 5), ([], 6)] [] (by kernel_rfl) (by kernel_rfl) (by kernel_rfl) rfl Bd ?_
   refine ⟨?_, _, ?_, rfl, ?_⟩
   rotate_left
   ·repeat (refine pu ?_; (try simp only [SQ]))
    exact rfl
   have D0 : Hid (Below wr.heap.size wr wr.drew) := Bd
   go_wp2_with fail
   refine (unit_calls _ n x (-1) 1 (by omega) hxr.1 hxr.2 (by unfold I64; omega) (by omega) (by omega)).mono ?_
   rintro e W3 ⟨vs, rfl, her, hb⟩
   obtain ⟨v5, C5, n5, e5, C6, n6, e6, rfl, HIS, hqa, hfb⟩ := her
   have HQA := Hd (hqa.lower (base' := w.heap.size) (Nat.le_trans HK.out.2.size D0.out.size))
   obtain ⟨C4, e4, rfl, _⟩ := hqa.slice
   have HV3 := Hd hfb
   have D3 := Hd (below_next D0.out hb)
   clear hqa hfb hb
   go_wp2_with fail
   refine And.intro D3.out ⟨_, _, rfl, rfl, ?_⟩
   go_wp2_with fail
   have HL4 := Hd (Blk.new W3 65 #[.slice C4 (unitQ n x (-1) 1).a.length e4, .int .i64 (unitQ n x (-1) 1).s, .bool (negQ (unitQ n x (-1) 1).b), .slice C5 n5 e5, .slice C6 n6 e6])
   have hbn := below_new W3 (.cells #[.slice C4 (unitQ n x (-1) 1).a.length e4, .int .i64 (unitQ n x (-1) 1).s, .bool (negQ (unitQ n x (-1) 1).b), .slice C5 n5 e5, .slice C6 n6 e6] 65)
   have D4 := Hd (below_next D3.out hbn)
   have HQ4 := Hd (HQA.out.below EFQ.stays hbn)
   have HV4 := Hd (HV3.out.of_below hbn)
   obtain ⟨gl, hgl⟩ : ∃ g, g = W3.heap.size := ⟨_, rfl⟩
   rw [← hgl] at HL4 ⊢
   generalize W3.alloc (.cells #[.slice C4 (unitQ n x (-1) 1).a.length e4, .int .i64 (unitQ n x (-1) 1).s, .bool (negQ (unitQ n x (-1) 1).b), .slice C5 n5 e5, .slice C6 n6 e6] 65) = W4 at *
   clear hgl hbn
   refine And.intro D4.out ⟨_, rfl, ?_⟩
   have HBQ4 := Hd (HBQ.out.below D4.out HBQ.out.lt)
   have HRO4 := Hd (HRO.out.below ERO.stays D4.out)
   have HFR4 := Hd (HFR.out.below D4.out)
   have HQO4 := Hd (HQO.out.below EFQ.stays D4.out)
   have HK4 := Hd (HK.out.step D4.out)
   have hbase4 : w.heap.size ≤ W4.heap.size := HK4.out.2.size
   have HER : Hid (ERO w.heap.size W4 #[.slice C4 (unitQ n x (-1) 1).a.length e4, .int .i64 (unitQ n x (-1) 1).s, .bool (negQ (unitQ n x (-1) 1).b), .slice C5 n5 e5, .slice C6 n6 e6] (unitQ n x (-1) 1)) := ⟨_, _, _, _, _, _, _, rfl, HIS, HQ4.out, HV4.out⟩
   have HRL2 : Hid ((rq ++ fr.take (i + 1)).length = p.rows.length + (i + 1)) := by unfold Hid; rw [lap, HRL.out, ltk, HFL.out]; omega
   simp only [SQ, List.drop_succ_cons, List.drop_zero]
   clear i0 i1 i2 i3 x0 x1 x2 x3
   go_wp2_with (at_builtin; refine wpl_appendR5 rfl (.tmp 17) (.tmp 22) rfl (base := w.heap.size) (.slice A5 (p.rows.length + i) c5) (rq ++ fr.take i) rfl HRO4.out (unitQ n x (-1) 1) rfl HL4.out HER.out hrl hbase4 ?_; intro v6 W6 hro6 hcg6 hw6 hob6; obtain ⟨A6, c6, hv6, _⟩ := hro6.slice; rw [← HNX.out] at hro6 hv6; rw [HRL2.out] at hv6; subst hv6; have HRO6 := Hd hro6; have HBQ6 := Hd (HBQ4.out.chg hcg6 (by decide)); have HFR6 := Hd (HFR4.out.chg hcg6 (by decide)); have HQO6 := Hd (QO.chg HQO4.out hcg6 (by decide)); have HK6 := Hd (HS.chg HK4.out hcg6 (by simp) rfl hw6); obtain ⟨i0, i1, i2, i3⟩ := HBQ6.out.c4; obtain ⟨f0, f1, f2, f3⟩ := HBQ6.out.f4; have hltq6 := HBQ6.out.lt; clear hro6 hcg6 hw6 hob6)
   refine NoPanic.normal ?_
   have hcp := chg_put1 (base := w.heap.size) (j := 3) HBQ6.out (by omega) prog_words (.slice A6 (p.rows.length + (i + 1)) c6)
   have HX1 := Hd (HBQ6.out.put 3 (.slice A6 (p.rows.length + (i + 1)) c6))
   have HX2 := Hd (RO.chg HRO6.out hcp (by decide) (by decide))
   have HX3 := Hd (HFR6.out.chg hcp (by decide))
   have HX4 := Hd (QO.chg HQO6.out hcp (by decide))
   have HX5 := Hd (HK6.out.other1 (g := gq) (by omega) (by simp; omega) 3 (.slice A6 (p.rows.length + (i + 1)) c6))
   clear hcp
   go_wp2_with fail
   go_roundw
   case rel => exact ⟨i + 1, by omega, by go_num, ⟨A6, c6, HX1.out, HX2.out⟩, HX3.out, HX4.out, HX5.out⟩
   case measure => simp [intOf]; omega
  ·obtain rfl : i = xs.length := by omega
   have hfa : fr.take xs.length = fr := List.take_of_length_le (by rw [HFL.out]; exact Nat.le_refl _)
   rw [hfa] at HRO
   clear hfa x0 x1 x2 x3 hltp
   have HFE : Hid (boundedQ p xs = ⟨p.vars, p.free, p.goal.map fixQ, rq ++ fr⟩) := by unfold Hid boundedQ; rw [HRQ.out, HFR0.out, ← HV.out]; rfl
   obtain ⟨j0, j1, j2, j3⟩ := (HK.out.blk 0 rfl).c4
   obtain ⟨f0, f1, f2, f3⟩ := (HK.out.blk 0 rfl).f4
   have hlt0 := (HK.out.blk 0 rfl).lt
   go_wp2_with fail
   have hcg := chg_put4 (base := w.heap.size) (HK.out.blk 0 rfl) (by simp) prog_words (.int .i64 (n : Int)) (.slice B1 p.free.length d1) (.slice B2 p.goal.length d2) (.slice A5 (p.rows.length + xs.length) c5)
   rw [HFE.out]
   exact ret26 Try.results79 rfl ((HK.out.blk 0 rfl).put4 _ _ _ _) ⟨_, _, _, by show Ending.returned _ = Ending.returned (Value.agg #[.int .i64 p.vars, _, _, _]); rw [← HV.out], HFR.out.chg hcg (by decide), by show QO _ _ _ (p.goal.map fixQ); rw [← HQG.out]; exact QO.chg HQO.out hcg (by decide), RO.chg HRO.out hcg (by decide) (by decide), below_put4 HK.out.2 (by simp) _ _ _ _⟩
theorem chain_skip {P : Program} {ops : Array Oper} {Q : Exit → Act → World → Prop} {K : Act → World → Prop} {o : Oper} {a : Act} {w : World} (hg : Region.wanted o (yielded ops a.tmps) = false) (h : K (a.put o.dst undef) w) : wpList P ops (chainQ Q K) [o] a w := by
 unfold wpList
 rw [if_neg (by rw [hg]; simp)]
 exact h
theorem calls_to {n : Nat} {args : Array Value} {w : World} {a b : Bool} (h : Calls Try.prog n args w fun e w' => BPost w a e w') (e : a = b) : Calls Try.prog n args w fun e w' => BPost w b e w' := e ▸ h
noncomputable def judgeB (p : ProgF) (c : CertF) : Bool :=
 if rightP p ≠ 0 then false
 else if c.kind = 1 then fitsB p c.x && (boundsB p c.y (some p.goal) && decide (ordQ (rightsQ p c.y) (capQ (dotQ (p.goal.map fixQ) (c.x.map fixQ))) = 0))
 else if c.kind = 2 then boundsB p c.y none && decide (signQ (rightsQ p c.y) < 0)
 else if c.kind = 3 then fitsB p c.x && goesB p c.ray
 else false
theorem judge_calls (w : World) (v v2 : Value) (p : ProgF) (c : CertF) (h : PR w v p) (h2 : CR w v2 c) (hlx : c.x.length ≤ 100000) (hly : c.y.length ≤ 100000) (hlr : c.ray.length ≤ 100000) : Calls Try.prog 28 #[v, v2] w fun e w' => BPost w (judgeB p c) e w' := by
 have HP := Hd h
 have HC := Hd h2
 obtain ⟨A1, c1, A2, c2, A3, c3, rfl, HI, H1, H2, H3⟩ := h.opened
 obtain ⟨B1, d1, B2, d2, B3, d3, rfl, HX, HY, HR⟩ := h2.opened
 clear h h2
 obtain ⟨vars, hv⟩ : ∃ n, n = p.vars := ⟨_, rfl⟩
 rw [← hv] at HP ⊢
 have HV := Hd hv
 obtain ⟨kd, hkd⟩ : ∃ k, k = c.kind := ⟨_, rfl⟩
 rw [← hkd] at HC ⊢
 have HKD := Hd hkd
 clear hv hkd
 go_enter Try.func28, Try.ntmps28
 go_wp2_with fail
 have H0 := Hd (HS.two (w := w) #[.int .i64 vars, .slice A1 p.free.length c1, .slice A2 p.goal.length c2, .slice A3 p.rows.length c3] #[.int .i64 kd, .slice B1 c.x.length d1, .slice B2 c.y.length d2, .slice B3 c.ray.length d3] 26 44)
 generalize (w.alloc (.cells #[.int .i64 vars, .slice A1 p.free.length c1, .slice A2 p.goal.length c2, .slice A3 p.rows.length c3] 26)).alloc (.cells #[.int .i64 kd, .slice B1 c.x.length d1, .slice B2 c.y.length d2, .slice B3 c.ray.length d3] 44) = W0 at *
 refine (pright_calls W0 _ p (HP.out.of_below H0.out.2)).mono ?_
 rintro e w1 ⟨rfl, hb⟩
 have K1 := Hd (H0.out.step hb)
 obtain ⟨x0, x1, x2, x3⟩ := K1.out.c4 1 rfl
 obtain ⟨y0, y1, y2, y3⟩ := K1.out.c4 0 rfl
 clear hb
 by_cases q1 : rightP p = 0
 case neg =>
  have u1 : (rightP p != 0) = true := bneI q1
  have HE : Hid (judgeB p c = false) := by unfold Hid judgeB; rw [if_pos q1]
  clear q1
  go_wp2_with fail
  go_ret
  exact ⟨by rw [HE.out]; rfl, K1.out.2⟩
 have u1 : (rightP p != 0) = false := beqI q1
 have HR0 := Hd q1
 have hrl := rightP_len q1
 have hrw : p.rows.length ≤ 400 := hrl.2.2.2.2.1
 have hgl : p.goal.length ≤ 100000 := by have := hrl.2.1; have := hrl.2.2.2.1; omega
 have HGV : Hid ((p.goal.length : Int) = p.vars) := hrl.2.1
 clear q1 hrl
 have cells : ∀ W, HS w [(w.heap.size + 1, 44, #[.int .i64 kd, .slice B1 c.x.length d1, .slice B2 c.y.length d2, .slice B3 c.ray.length d3]), (w.heap.size, 26, #[.int .i64 vars, .slice A1 p.free.length c1, .slice A2 p.goal.length c2, .slice A3 p.rows.length c3])] W → (W.cell? ⟨w.heap.size, 0, none⟩ = some (.int .i64 vars) ∧ W.cell? ⟨w.heap.size, 1, none⟩ = some (.slice A1 p.free.length c1) ∧ W.cell? ⟨w.heap.size, 2, none⟩ = some (.slice A2 p.goal.length c2) ∧ W.cell? ⟨w.heap.size, 3, none⟩ = some (.slice A3 p.rows.length c3) ∧ W.cell? ⟨w.heap.size + 1, 0, none⟩ = some (.int .i64 kd) ∧ W.cell? ⟨w.heap.size + 1, 1, none⟩ = some (.slice B1 c.x.length d1) ∧ W.cell? ⟨w.heap.size + 1, 2, none⟩ = some (.slice B2 c.y.length d2) ∧ W.cell? ⟨w.heap.size + 1, 3, none⟩ = some (.slice B3 c.ray.length d3)) := fun W h => by
  obtain ⟨a, b, c, d⟩ := h.c4 1 rfl
  obtain ⟨e, f, g, i⟩ := h.c4 0 rfl
  exact ⟨a, b, c, d, e, f, g, i⟩
 have HCELLS := Hd cells
 clear cells
 by_cases k1 : kd = 1
 ·have t1 : (kd == 1) = true := beqI' k1
  have HE1 : Hid (judgeB p c = (fitsB p c.x && (boundsB p c.y (some p.goal) && decide (ordQ (rightsQ p c.y) (capQ (dotQ (p.goal.map fixQ) (c.x.map fixQ))) = 0)))) := by unfold Hid judgeB; rw [if_neg (by rw [HR0.out]; simp), if_pos (by rw [← HKD.out]; exact k1)]
  clear k1
  cases hf : fitsB p c.x with
  | false =>
   have HE2 : Hid (judgeB p c = false) := by unfold Hid; rw [HE1.out, hf]; rfl
   have l0 := (K1.out.blk 1 rfl).lt
   have l1 := (K1.out.blk 0 rfl).lt
   go_wp2_with fail
   refine wp_chainS (S := Below w1.heap.size w1) [([0, 1, 2], 3), ([4, 5, 6, 7, 8, 9], 10), ([11, 12, 13, 14, 15, 17, 18, 19, 20], 16), ([], 21), ([], 22)] [23, 24, 25] (by kernel_rfl) (by kernel_rfl) (by kernel_rfl) rfl Bd ?_
   refine ⟨?_, _, ?_, rfl, ?_⟩
   rotate_left
   ·(iterate 3 ((refine pu ?_); (try simp only [SQ])))
    exact rfl
   have D0 : Hid (Below w1.heap.size w1 w1.drew) := Bd
   have E0 := Hd (HS.step K1.out D0.out)
   go_wp2_with fail
   refine (calls_to (fits_calls _ _ _ p c.x (HP.out.of_below E0.out.2) (HX.out.below EF.stays E0.out.2) HR0.out) hf).mono ?_
   rintro e w2 ⟨rfl, hb⟩
   have D2 := Hd (below_next D0.out hb)
   have E2 := Hd (HS.step K1.out D2.out)
   clear hb
   go_wp2_with fail
   refine And.intro D2.out ⟨?_, _, ?_, rfl, ?_⟩
   rotate_left
   ·((refine pu ?_); (try simp only [SQ])); (iterate 5 ((refine pn ?_); (try simp only [SQ])))
    exact rfl
   refine chain_skip (by kernel_rfl) (And.intro D2.out ?_)
   (try simp only [SQ])
   refine ⟨?_, _, ?_, rfl, ?_⟩
   rotate_left
   ·(iterate 2 ((refine pu ?_); (try simp only [SQ]))); (iterate 7 ((refine pn ?_); (try simp only [SQ])))
    exact rfl
   refine chain_skip (by kernel_rfl) (And.intro D2.out ?_)
   (try simp only [SQ])
   refine ⟨_, _, rfl, rfl, ?_⟩
   refine chain_skip (by kernel_rfl) (And.intro D2.out ?_)
   (try simp only [SQ])
   refine ⟨_, _, rfl, rfl, ?_⟩
   refine chain_skip (by kernel_rfl) (And.intro D2.out ?_)
   (try simp only [SQ])
   refine ⟨?_, ?_, ?_⟩
   rotate_left
   ·((refine pn ?_); (try simp only [SQ])); (iterate 2 ((refine pu ?_); (try simp only [SQ])))
    exact rfl
   refine NoPanic.normal ?_
   go_wp2_with fail
   go_ret
   exact ⟨by rw [HE2.out]; rfl, E2.out.2⟩
  | true =>
   cases hb0 : boundsB p c.y (some p.goal) with
   | false =>
    have HE2 : Hid (judgeB p c = false) := by unfold Hid; rw [HE1.out, hf, hb0]; rfl
    have l0 := (K1.out.blk 1 rfl).lt
    have l1 := (K1.out.blk 0 rfl).lt
    go_wp2_with fail
    refine wp_chainS (S := Below w1.heap.size w1) [([0, 1, 2], 3), ([4, 5, 6, 7, 8, 9], 10), ([11, 12, 13, 14, 15, 17, 18, 19, 20], 16), ([], 21), ([], 22)] [23, 24, 25] (by kernel_rfl) (by kernel_rfl) (by kernel_rfl) rfl Bd ?_
    refine ⟨?_, _, ?_, rfl, ?_⟩
    rotate_left
    ·(iterate 3 ((refine pu ?_); (try simp only [SQ])))
     exact rfl
    have D0 : Hid (Below w1.heap.size w1 w1.drew) := Bd
    have E0 := Hd (HS.step K1.out D0.out)
    go_wp2_with fail
    refine (calls_to (fits_calls _ _ _ p c.x (HP.out.of_below E0.out.2) (HX.out.below EF.stays E0.out.2) HR0.out) hf).mono ?_
    rintro e w2 ⟨rfl, hb⟩
    have D2 := Hd (below_next D0.out hb)
    have E2 := Hd (HS.step K1.out D2.out)
    clear hb
    go_wp2_with fail
    refine And.intro D2.out ⟨?_, _, ?_, rfl, ?_⟩
    rotate_left
    ·(iterate 6 ((refine pu ?_); (try simp only [SQ])))
     exact rfl
    go_wp2_with fail
    refine (calls_to (bounds_calls _ _ _ p c.y (HP.out.of_below E2.out.2) (HY.out.below EF.stays E2.out.2) _ p.goal (H2.out.below EF.stays E2.out.2) HGV.out HR0.out hly) hb0).mono ?_
    rintro e w3 ⟨rfl, hb⟩
    have D3 := Hd (below_next D2.out hb)
    have E3 := Hd (HS.step K1.out D3.out)
    clear hb
    go_wp2_with fail
    refine And.intro D3.out ⟨?_, _, ?_, rfl, ?_⟩
    rotate_left
    ·(iterate 2 ((refine pu ?_); (try simp only [SQ]))); (iterate 7 ((refine pn ?_); (try simp only [SQ])))
     exact rfl
    refine chain_skip (by kernel_rfl) (And.intro D3.out ?_)
    (try simp only [SQ])
    refine ⟨_, _, rfl, rfl, ?_⟩
    refine chain_skip (by kernel_rfl) (And.intro D3.out ?_)
    (try simp only [SQ])
    refine ⟨_, _, rfl, rfl, ?_⟩
    refine chain_skip (by kernel_rfl) (And.intro D3.out ?_)
    (try simp only [SQ])
    refine ⟨?_, ?_, ?_⟩
    rotate_left
    ·((refine pn ?_); (try simp only [SQ])); (iterate 2 ((refine pu ?_); (try simp only [SQ])))
     exact rfl
    refine NoPanic.normal ?_
    go_wp2_with fail
    go_ret
    exact ⟨by rw [HE2.out]; rfl, E3.out.2⟩
   | true =>
    have HE2 : Hid (judgeB p c = decide (ordQ (rightsQ p c.y) (capQ (dotQ (p.goal.map fixQ) (c.x.map fixQ))) = 0)) := by unfold Hid; rw [HE1.out, hf, hb0]; rfl
    have l0 := (K1.out.blk 1 rfl).lt
    have l1 := (K1.out.blk 0 rfl).lt
    go_wp2_with fail
    refine wp_chainS (S := Below w1.heap.size w1) [([0, 1, 2], 3), ([4, 5, 6, 7, 8, 9], 10), ([11, 12, 13, 14, 15, 17, 18, 19, 20], 16), ([], 21), ([], 22)] [23, 24, 25] (by kernel_rfl) (by kernel_rfl) (by kernel_rfl) rfl Bd ?_
    refine ⟨?_, _, ?_, rfl, ?_⟩
    rotate_left
    ·(iterate 3 ((refine pu ?_); (try simp only [SQ])))
     exact rfl
    have D0 : Hid (Below w1.heap.size w1 w1.drew) := Bd
    have E0 := Hd (HS.step K1.out D0.out)
    go_wp2_with fail
    refine (calls_to (fits_calls _ _ _ p c.x (HP.out.of_below E0.out.2) (HX.out.below EF.stays E0.out.2) HR0.out) hf).mono ?_
    rintro e w2 ⟨rfl, hb⟩
    have D2 := Hd (below_next D0.out hb)
    have E2 := Hd (HS.step K1.out D2.out)
    clear hb
    go_wp2_with fail
    refine And.intro D2.out ⟨?_, _, ?_, rfl, ?_⟩
    rotate_left
    ·(iterate 6 ((refine pu ?_); (try simp only [SQ])))
     exact rfl
    go_wp2_with fail
    refine (calls_to (bounds_calls _ _ _ p c.y (HP.out.of_below E2.out.2) (HY.out.below EF.stays E2.out.2) _ p.goal (H2.out.below EF.stays E2.out.2) HGV.out HR0.out hly) hb0).mono ?_
    rintro e w3 ⟨rfl, hb⟩
    have D3 := Hd (below_next D2.out hb)
    have E3 := Hd (HS.step K1.out D3.out)
    clear hb
    go_wp2_with fail
    refine And.intro D3.out ⟨?_, _, ?_, rfl, ?_⟩
    rotate_left
    ·(iterate 9 ((refine pu ?_); (try simp only [SQ])))
     exact rfl
    go_wp2_with fail
    refine (rights_calls _ _ _ p c.y (HP.out.of_below E3.out.2) (HY.out.below EF.stays E3.out.2) hrw hly).mono ?_
    rintro e w4 ⟨v, rfl, hv, hb⟩
    obtain ⟨A5, n5, c5, A6, n6, c6, rfl, HV1⟩ := hv.opened
    have D4 := Hd (below_next D3.out hb)
    have E4 := Hd (HS.step K1.out D4.out)
    clear hv hb
    go_wp2_with fail
    refine And.intro D4.out ⟨_, _, rfl, rfl, ?_⟩
    go_wp2_with fail
    refine (fdot_calls _ _ _ p.goal c.x (H2.out.below EF.stays E4.out.2) (HX.out.below EF.stays E4.out.2) hgl hlx).mono ?_
    rintro e w5 ⟨v, rfl, hv, hb⟩
    obtain ⟨A7, n7, c7, A8, n8, c8, rfl, HV2⟩ := hv.opened
    have HV1' := Hd (HV1.out.of_below hb)
    have D5 := Hd (below_next D4.out hb)
    clear hv hb
    go_wp2_with fail
    refine And.intro D5.out ⟨_, _, rfl, rfl, ?_⟩
    go_wp2_with fail
    refine (fcmp_calls _ _ _ _ _ (FR.of_fq HV1'.out (capQ_size _)) (FR.of_fq HV2.out (capQ_size _))).mono ?_
    rintro e w6 ⟨rfl, hb⟩
    have e1 : fixQ (rawQ (rightsQ p c.y)) = rightsQ p c.y := fixQ_raw _ (capQ_size _)
    rw [e1, fix_cap]
    have D6 := Hd (below_next D5.out hb)
    have E6 := Hd (HS.step K1.out D6.out)
    clear hb e1
    go_wp2_with fail
    refine And.intro D6.out ⟨?_, ?_, ?_⟩
    rotate_left
    ·(iterate 3 ((refine pu ?_); (try simp only [SQ])))
     exact rfl
    refine NoPanic.normal ?_
    go_wp2_with fail
    go_ret
    exact ⟨by rw [HE2.out]; rfl, E6.out.2⟩
 have t1 : (kd == 1) = false := bneI' k1
 by_cases k2 : kd = 2
 ·have t2 : (kd == 2) = true := beqI' k2
  have HE1 : Hid (judgeB p c = (boundsB p c.y none && decide (signQ (rightsQ p c.y) < 0))) := by unfold Hid judgeB; rw [if_neg (by rw [HR0.out]; simp), if_neg (by rw [← HKD.out]; exact k1), if_pos (by rw [← HKD.out]; exact k2)]
  clear k1 k2
  go_wp2_with fail
  refine (bounds0_calls w1 _ _ p c.y (HP.out.of_below K1.out.2) (HY.out.below EF.stays K1.out.2) HR0.out hly).mono ?_
  rintro e w2 ⟨rfl, hb⟩
  have K2 := Hd (K1.out.step hb)
  obtain ⟨x0, x1, x2, x3⟩ := K2.out.c4 1 rfl
  obtain ⟨y0, y1, y2, y3⟩ := K2.out.c4 0 rfl
  clear hb
  cases hb0 : boundsB p c.y none with
  | false =>
   have HE2 : Hid (judgeB p c = false) := by unfold Hid; rw [HE1.out, hb0]; rfl
   clear hb0
   go_wp2_with fail
   go_ret
   exact ⟨by rw [HE2.out]; rfl, K2.out.2⟩
  | true =>
   have HE2 : Hid (judgeB p c = decide (signQ (rightsQ p c.y) < 0)) := by unfold Hid; rw [HE1.out, hb0]; rfl
   clear hb0
   go_wp2_with fail
   refine (rights_calls w2 _ _ p c.y (HP.out.of_below K2.out.2) (HY.out.below EF.stays K2.out.2) hrw hly).mono ?_
   rintro e w3 ⟨v, rfl, hv, hb⟩
   obtain ⟨A5, n5, c5, A6, n6, c6, rfl, HV1⟩ := hv.opened
   have K3 := Hd (K2.out.step hb)
   clear hv hb
   go_wp2_with fail
   refine (sgn_calls _ _ _ (FR.of_fq HV1.out (capQ_size _))).mono ?_
   rintro e w4 ⟨rfl, hb⟩
   have e1 : fixQ (rawQ (rightsQ p c.y)) = rightsQ p c.y := fixQ_raw _ (capQ_size _)
   rw [e1]
   have K4 := Hd (K3.out.step hb)
   clear hb e1
   go_wp2_with fail
   go_ret
   exact ⟨by rw [HE2.out]; rfl, K4.out.2⟩
 have t2 : (kd == 2) = false := bneI' k2
 by_cases k3 : kd = 3
 ·have t3 : (kd == 3) = true := beqI' k3
  have HE1 : Hid (judgeB p c = (fitsB p c.x && goesB p c.ray)) := by unfold Hid judgeB; rw [if_neg (by rw [HR0.out]; simp), if_neg (by rw [← HKD.out]; exact k1), if_neg (by rw [← HKD.out]; exact k2), if_pos (by rw [← HKD.out]; exact k3)]
  clear k1 k2 k3
  go_wp2_with fail
  refine (fits_calls w1 _ _ p c.x (HP.out.of_below K1.out.2) (HX.out.below EF.stays K1.out.2) HR0.out).mono ?_
  rintro e w2 ⟨rfl, hb⟩
  have K2 := Hd (K1.out.step hb)
  obtain ⟨x0, x1, x2, x3⟩ := K2.out.c4 1 rfl
  obtain ⟨y0, y1, y2, y3⟩ := K2.out.c4 0 rfl
  clear hb
  cases hb0 : fitsB p c.x with
  | false =>
   have HE2 : Hid (judgeB p c = false) := by unfold Hid; rw [HE1.out, hb0]; rfl
   clear hb0
   go_wp2_with fail
   go_ret
   exact ⟨by rw [HE2.out]; rfl, K2.out.2⟩
  | true =>
   have HE2 : Hid (judgeB p c = goesB p c.ray) := by unfold Hid; rw [HE1.out, hb0]; rfl
   clear hb0
   go_wp2_with fail
   refine (goes_calls w2 _ _ p c.ray (HP.out.of_below K2.out.2) (HR.out.below EF.stays K2.out.2) HR0.out).mono ?_
   rintro e w3 ⟨rfl, hb⟩
   have K3 := Hd (K2.out.step hb)
   clear hb
   go_wp2_with fail
   go_ret
   exact ⟨by rw [HE2.out]; rfl, K3.out.2⟩
 have t3 : (kd == 3) = false := bneI' k3
 have HE1 : Hid (judgeB p c = false) := by unfold Hid judgeB; rw [if_neg (by rw [HR0.out]; simp), if_neg (by rw [← HKD.out]; exact k1), if_neg (by rw [← HKD.out]; exact k2), if_neg (by rw [← HKD.out]; exact k3)]
 clear k1 k2 k3
 go_wp2_with fail
 go_ret
 exact ⟨by rw [HE1.out]; rfl, K1.out.2⟩
def rawR (r : RowQ) : RowF := ⟨r.a.map rawQ, r.s, rawQ r.b⟩
def rawP (p : ProgQ) : ProgF := ⟨p.vars, p.free, p.goal.map rawQ, p.rows.map rawR⟩
theorem ERO.er {base : Nat} {w : World} {vs : Array Value} {r : RowQ} (h : ERO base w vs r) (hs : SmallR r) : ER w vs (rawR r) := by
 obtain ⟨v, A1, n1, c1, A2, n2, c2, rfl, hi, hq, hf⟩ := h
 exact ⟨v, A1, n1, c1, A2, n2, c2, rfl, hi, QO.fl hq hs.1, FR.of_fq hf hs.2⟩
theorem PO.pr {base : Nat} {w : World} {v : Value} {p : ProgQ} (h : PO base w v p) (hs : SmallP p) : PR w v (rawP p) := by
 obtain ⟨v1, v2, v3, rfl, hi, hf, hg, hr⟩ := h
 exact ⟨v1, v2, v3, rfl, hi, hf.1, QO.fl hg hs.1, SL.mapE rawR (OL.sl hr) fun vs r hm he => ERO.er he (hs.2 r hm)⟩
theorem fix_raws {qs : List Rat} (hs : ∀ q ∈ qs, Small q) : (qs.map rawQ).map fixQ = qs := by
  rw [List.map_map]
  calc qs.map (fixQ ∘ rawQ) = qs.map id := List.map_congr_left fun q hq => fixQ_raw q (hs q hq)
    _ = qs := by simp
theorem clean_raw {p : ProgQ} (hs : SmallP p) : cleanQ (rawP p) = p := by
  obtain ⟨vars, free, goal, rows⟩ := p
  have h1 := fix_raws hs.1
  have h2 : (rows.map rawR).map cleanR = rows := by
    rw [List.map_map]
    calc rows.map (cleanR ∘ rawR) = rows.map id := List.map_congr_left fun r hr => by
            obtain ⟨a, s, b⟩ := r
            have := hs.2 _ hr
            show RowQ.mk ((a.map rawQ).map fixQ) s (fixQ (rawQ b)) = _
            rw [fix_raws this.1, fixQ_raw b this.2]
            rfl
      _ = rows := by simp
  show ProgQ.mk vars free ((goal.map rawQ).map fixQ) ((rows.map rawR).map cleanR) = _
  rw [h1, h2]
theorem getD_small {l : List Rat} (h : ∀ q ∈ l, Small q) (v : Nat) : Small (l.getD v 0) := by
 rw [gdd]
 cases e : l[v]? with
 | none => show sizeQ 0 ≤ 4096; rw [sizeQ_zero]; decide
 | some q => exact h q (mog e)
theorem small_one : Small 1 := by unfold Small sizeQ; decide +kernel
theorem small_nil : Small 0 := by unfold Small; rw [sizeQ_zero]; decide
theorem small_unit (n : Nat) (v s b : Int) (hb : b = 0 ∨ b = 1) : SmallR (unitQ n v s b) := by
 refine ⟨fun q hq => ?_, ?_⟩
 ·obtain ⟨i, _, rfl⟩ := List.mem_map.1 hq
  split
  ·exact small_one
  ·exact small_nil
 ·rcases hb with rfl | rfl
  ·exact small_nil
  ·exact small_one
structure CaseF where
 var : Int
 zero : Int
 one : Int
 cert : CertF
def ECase (w : World) (vs : Array Value) (c : CaseF) : Prop := ∃ v1 v2 v3, vs = #[.int .i64 c.var, .int .i64 c.zero, .int .i64 c.one, .int .i64 c.cert.kind, v1, v2, v3] ∧ (I64 c.var ∧ I64 c.zero ∧ I64 c.one) ∧ CR w (.agg #[.int .i64 c.cert.kind, v1, v2, v3]) c.cert
theorem ECase.stays : Stays ECase := fun w w1 vs c h hb => by
 obtain ⟨v1, v2, v3, e, hi, hc⟩ := h
 exact ⟨v1, v2, v3, e, hi, hc.of_below hb⟩
abbrev CL (w : World) (v : Value) (cs : List CaseF) : Prop := SL 7 ECase w v cs
theorem CL.at7 {w : World} {A : Option Addr} {n c : Nat} {cs : List CaseF} (h : CL w (.slice A n c) cs) {j : Nat} {x : CaseF} (hj : cs[j]? = some x) :
  ∃ g o B1 d1 B2 d2 B3 d3, A = some ⟨g, o, none⟩ ∧ g < w.heap.size ∧ (w.cell? ⟨g, o + j * 7, none⟩ = some (.int .i64 x.var) ∧ w.cell? ⟨g, o + j * 7 + 1, none⟩ = some (.int .i64 x.zero) ∧ w.cell? ⟨g, o + j * 7 + 2, none⟩ = some (.int .i64 x.one) ∧ w.cell? ⟨g, o + j * 7 + 3, none⟩ = some (.int .i64 x.cert.kind) ∧
   w.cell? ⟨g, o + j * 7 + 4, none⟩ = some (.slice B1 x.cert.x.length d1) ∧ w.cell? ⟨g, o + j * 7 + 5, none⟩ = some (.slice B2 x.cert.y.length d2) ∧ w.cell? ⟨g, o + j * 7 + 6, none⟩ = some (.slice B3 x.cert.ray.length d3)) ∧ Hid (I64 x.var ∧ I64 x.zero ∧ I64 x.one) ∧ Hid (CR w (.agg #[.int .i64 x.cert.kind, .slice B1 x.cert.x.length d1, .slice B2 x.cert.y.length d2, .slice B3 x.cert.ray.length d3]) x.cert) := by
 obtain ⟨g, o, vs, hA, hg, hs, hc, v1, v2, v3, rfl, hi, hcr⟩ := h.at_ hj
 obtain ⟨B1, d1, B2, d2, B3, d3, e, _, _, _⟩ := hcr.opened
 injection e with e
 injection e with e
 injection e with e0 e
 injection e with e1 e
 injection e with e2 e
 injection e with e3 e
 subst e1 e2 e3
 exact ⟨g, o, B1, d1, B2, d2, B3, d3, hA, hg, ⟨hc 0 _ rfl, hc 1 _ rfl, hc 2 _ rfl, hc 3 _ rfl, hc 4 _ rfl, hc 5 _ rfl, hc 6 _ rfl⟩, hi, hcr⟩
theorem Blk.c7 {W : World} {g t : Nat} {a b c d e f h : Value} (H : Blk W g t #[a, b, c, d, e, f, h]) : W.cell? ⟨g, 0, none⟩ = some a ∧ W.cell? ⟨g, 1, none⟩ = some b ∧ W.cell? ⟨g, 2, none⟩ = some c ∧ W.cell? ⟨g, 3, none⟩ = some d ∧ W.cell? ⟨g, 4, none⟩ = some e ∧ W.cell? ⟨g, 5, none⟩ = some f ∧ W.cell? ⟨g, 6, none⟩ = some h :=
 ⟨H.cell rfl, H.cell rfl, H.cell rfl, H.cell rfl, H.cell rfl, H.cell rfl, H.cell rfl⟩
def IO (base : Nat) (w : World) (v : Value) (l : List Int) : Prop := IL w v l ∧ ∀ g, v.ownBlock = some g → 0 < l.length → g < base ∨ ∃ cs, Blk w g 3 cs
theorem IO.below {base : Nat} {w w1 : World} {v : Value} {l : List Int} (h : IO base w v l) (hb : Below w.heap.size w w1) : IO base w1 v l := by
 refine ⟨SL.below EI.stays h.1 hb, fun g hg hl => ?_⟩
 rcases h.2 g hg hl with h2 | ⟨cs, h2⟩
 ·exact .inl h2
 ·exact .inr ⟨cs, h2.below hb h2.lt⟩
theorem IO.chg {base t : Nat} {w w1 : World} {v : Value} {l : List Int} (h : IO base w v l) (hc : Chg base t w w1) (hne : 3 ≠ t) : IO base w1 v l := by
 obtain ⟨⟨A, c, e, hlc, hr⟩, h2⟩ := h
 subst e
 have same : 0 < l.length → ∀ g o, A = some ⟨g, o, none⟩ → w1.heap[g]? = w.heap[g]? := fun hp g o hA => by
  obtain ⟨g', o', hA', hg', _⟩ := hr hp
  rw [hA] at hA'
  injection hA' with hA'
  injection hA' with hA' _
  subst hA'
  refine hc.2 g hg' ?_
  rcases h2 g (by rw [hA]; rfl) hp with h3 | ⟨cs, h3⟩
  ·exact .inl h3
  ·refine .inr fun cs' h4 => hne ?_
   have := h3.symm.trans h4
   injection this with this
   injection this
 refine ⟨⟨A, c, rfl, hlc, fun hp => ?_⟩, fun g hg hl => ?_⟩
 ·obtain ⟨g, o, hA, hg, he⟩ := hr hp
  refine ⟨g, o, hA, Nat.lt_of_lt_of_le hg hc.1.1, fun j x hj => ?_⟩
  obtain ⟨vs, h3, h4, h5⟩ := he j x hj
  refine ⟨vs, h3, fun i u hi => ?_, h5⟩
  have h6 := h4 i u hi
  have h7 := same hp g o hA
  simp only [World.cell?] at h6 ⊢
  rw [h7]
  exact h6
 ·rcases h2 g hg hl with h3 | ⟨cs, h3⟩
  ·exact .inl h3
  ·refine .inr ⟨cs, h3.chg hc hne⟩
abbrev OI (base : Nat) (w : World) (v : Value) (l : List Int) : Prop := OL 1 3 EI base w v l
theorem OI.io {base b0 : Nat} {w : World} {v : Value} {l : List Int} (h : OI base w v l) : IO b0 w v l := by
 refine ⟨OL.sl h, fun g hg hl => .inr ?_⟩
 obtain ⟨xs, h1, _⟩ := h
 rcases h1.2 with ⟨rfl, _⟩ | ⟨g', cap, cur, rfl, _, hb, _⟩
 ·simp [Value.ownBlock] at hg
 ·simp only [Value.ownBlock] at hg
  injection hg with hg
  subst hg
  exact ⟨cur, hb⟩
theorem info3 : (Try.prog.info? 3).map (fun i => (i.zero, i.size, i.bytes)) = some (some (.int .i64 0), 1, 8) := by kernel_rfl
theorem wpl_appendI {ops : Array Oper} {rest : List Oper} {o : Oper} {a : Act} {Q : Exit → Act → World → Prop} {W : World} (hgd : o.guard = none) (s x : Operand) (ho : o.op = .call { callee := .builtin .append, args := #[s, x], argTypes := #[27, 27] }) {base : Nat}
  (v : Value) (l : List Int) (hs : a.eval s = v) (hown : OI base W v l) {g : Nat} (n : Int) (hx : a.eval x = .slice (some ⟨g, 0, none⟩) 1 1) (hk : Blk W g 3 #[.int .i64 n])
  (hl : l.length ≤ 1000000000) (hbase : base ≤ W.heap.size)
  (h : ∀ v' w', OI base w' v' (l ++ [n]) → Chg base 3 W w' → (W.os = w'.os ∧ W.tape = w'.tape ∧ W.output = w'.output) → wpList Try.prog ops Q rest (a.put o.dst v') w') : wpList Try.prog ops Q (o :: rest) a W := by
 obtain ⟨xs, h1, h2⟩ := hown
 refine wpl_appendR hgd s x 27 ho (base := base) (.int .i64 0) 8 Try.underlying27 info3 rfl (by intro u hu; simp [Value.cells] at hu; subst hu; rfl) v l.length xs hs h1 ⟨g, 0, none⟩ 1 1 [.int .i64 n] hx rfl (lit_cells hk) (by intro u hu; simp at hu; subst hu; rfl) (by intro u hu; simp at hu; subst hu; rfl) (by decide) (by omega) (by omega) hbase fun v' w' h3 h4 h5 h6 => h v' w' ?_ (h1.changes h4 h5) ⟨h4.os.symm, h4.tape.symm, h4.output.symm⟩
 exact OL.pushT (fun _ _ _ _ h _ => h) (k := 1) (e := 3) (vs := #[.int .i64 n]) h1 h2 rfl rfl (h1.changes h4 h5) h3
def LimOK (w : World) (v : Value) : Option Rat → Prop
 | none => v = .pointer none
 | some q => Small q ∧ ∃ gl A1 n1 c1 A2 n2 c2, v = .pointer (some ⟨gl, 0, none⟩) ∧ Blk w gl 40 #[.bool (negQ q), .slice A1 n1 c1, .slice A2 n2 c2] ∧ FQ w (.agg #[.bool (negQ q), .slice A1 n1 c1, .slice A2 n2 c2]) q
theorem LimOK.below {w w1 : World} {v : Value} {lim : Option Rat} (h : LimOK w v lim) (hb : Below w.heap.size w w1) : LimOK w1 v lim := by
 cases lim with
 | none => exact h
 | some q =>
  obtain ⟨hs, gl, A1, n1, c1, A2, n2, c2, e, h1, h2⟩ := h
  exact ⟨hs, gl, A1, n1, c1, A2, n2, c2, e, h1.below hb h1.lt, h2.of_below hb⟩
theorem LimOK.chg {base t : Nat} {w w1 : World} {v : Value} {lim : Option Rat} (h : LimOK w v lim) (hc : Chg base t w w1) (hne : 40 ≠ t) : LimOK w1 v lim := by
 cases lim with
 | none => exact h
 | some q =>
  obtain ⟨hs, gl, A1, n1, c1, A2, n2, c2, e, h1, h2⟩ := h
  exact ⟨hs, gl, A1, n1, c1, A2, n2, c2, e, h1.chg hc hne, h2.keeps hc.1⟩
def Rep (Wr : World) (AC : Option Addr) (nc cc : Nat) (LIM : Value) (lim : Option Rat) (left : Nat) (w : World) : Prop :=
 HS Wr [] w ∧ Blk w Wr.heap.size 97 #[.slice AC nc cc, .int .i64 (left : Int), LIM] ∧ LimOK w LIM lim
theorem Rep.below {Wr w w1 : World} {AC : Option Addr} {nc cc left : Nat} {LIM : Value} {lim : Option Rat} (h : Rep Wr AC nc cc LIM lim left w) (hb : Below w.heap.size w w1) : Rep Wr AC nc cc LIM lim left w1 :=
 ⟨h.1.step hb, h.2.1.below hb h.2.1.lt, h.2.2.below hb⟩
theorem lim_word {w : World} {v : Value} {lim : Option Rat} (h : LimOK w v lim) : notWord v = true := by
 cases lim with
 | none => rw [show v = .pointer none from h]; rfl
 | some q => obtain ⟨_, gl, _, _, _, _, _, _, e, _⟩ := h; rw [e]; rfl
theorem Rep.put {Wr w : World} {AC : Option Addr} {nc cc left : Nat} {LIM : Value} {lim : Option Rat} (h : Rep Wr AC nc cc LIM lim left w) (l : Nat) : Rep Wr AC nc cc LIM lim l (w.setCell ⟨Wr.heap.size, 1, none⟩ (.int .i64 (l : Int))) ∧ Chg Wr.heap.size 97 w (w.setCell ⟨Wr.heap.size, 1, none⟩ (.int .i64 (l : Int))) := by
 have hw : ∀ u ∈ #[Value.slice AC nc cc, .int .i64 (left : Int), LIM], notWord u = true := by
  intro u hu
  simp only [List.mem_toArray, List.mem_cons, List.not_mem_nil, or_false] at hu
  rcases hu with rfl | rfl | rfl
  ·rfl
  ·rfl
  ·exact lim_word h.2.2
 have hc := chg_put1 (base := Wr.heap.size) (j := 1) h.2.1 (Nat.le_refl _) hw (.int .i64 (l : Int))
 exact ⟨⟨h.1.other1 (g := Wr.heap.size) (Nat.le_refl _) (by simp) 1 _, h.2.1.put 1 _, h.2.2.chg hc (by decide)⟩, hc⟩
noncomputable def leafB (p : ProgQ) (c : CertF) : Option Rat → Bool
 | none => judgeB (rawP p) c && decide (c.kind = 2)
 | some q => judgeB (rawP p) c && (decide (c.kind = 2) || (decide (c.kind = 1) && decide (ordQ (valueP (rawP p) c.x) q ≤ 0)))
def restL (l : List Int) (x : Int) : List Int := l.filter fun y => decide (y ≠ x)
noncomputable def provesM (cs : List CaseF) (lim : Option Rat) : Nat → ProgQ → Int → List Int → Nat → Bool × Nat
 | 0, _, _, _, left => (false, left)
 | n + 1, p, at_, op, left =>
  if at_ < 0 ∨ (cs.length : Int) ≤ at_ ∨ left = 0 ∨ rightP (rawP p) ≠ 0 then (false, left)
  else match cs[at_.toNat]? with
   | none => (false, left)
   | some c =>
    if c.var = -1 then (leafB p c.cert lim, left - 1)
    else if (restL op c.var).length = op.length ∨ c.zero ≤ at_ ∨ c.one ≤ at_ then (false, left - 1)
    else if (provesM cs lim n (branchQ p c.var 0) c.zero (restL op c.var) (left - 1)).1 = true then
     provesM cs lim n (branchQ p c.var 1) c.one (restL op c.var) (provesM cs lim n (branchQ p c.var 0) c.zero (restL op c.var) (left - 1)).2
    else (false, (provesM cs lim n (branchQ p c.var 0) c.zero (restL op c.var) (left - 1)).2)
def PvPost (Wr : World) (AC : Option Addr) (nc cc : Nat) (LIM : Value) (lim : Option Rat) (w : World) (r : Bool × Nat) (e : Ending) (w' : World) : Prop :=
 e = .returned (.bool r.1) ∧ Rep Wr AC nc cc LIM lim r.2 w' ∧ Chg Wr.heap.size 97 w w' ∧ (w.os = w'.os ∧ w.tape = w'.tape ∧ w.output = w'.output)
theorem below_same {B : Nat} {w w1 : World} (h : Below B w w1) : w.os = w1.os ∧ w.tape = w1.tape ∧ w.output = w1.output := ⟨h.os.symm, h.tape.symm, h.output.symm⟩
theorem proves_out {Wr : World} {AC : Option Addr} {cc : Nat} {cs : List CaseF} {LIM : Value} {lim : Option Rat} (w : World) (v vo : Value) (p : ProgQ) (at_ : Int) (op : List Int) (left : Nat) (hR : Rep Wr AC cs.length cc LIM lim left w) (h : PO Wr.heap.size w v p) (hS : SmallP p) (ho : IO Wr.heap.size w vo op) (hout : at_ < 0 ∨ (cs.length : Int) ≤ at_ ∨ left = 0 ∨ rightP (rawP p) ≠ 0) : Calls Try.prog 78 #[.pointer (some ⟨Wr.heap.size, 0, none⟩), v, .int .i64 at_, vo] w fun e w' => PvPost Wr AC cs.length cc LIM lim w (false, left) e w' := by
 obtain ⟨A1, c1, A2, c2, A3, c3, rfl, HI, H1, H2, H3⟩ := h.opened
 have HPO := Hd h
 clear h
 obtain ⟨vars, hv⟩ : ∃ n, n = p.vars := ⟨_, rfl⟩
 rw [← hv] at HPO ⊢
 have HV := Hd hv
 clear hv H1 H2 H3 HI
 obtain ⟨X1, xc, rfl, _⟩ := ho.1.slice
 have HIO := Hd ho
 have HRP := Hd hR
 clear ho hR
 go_enter Try.func78, Try.ntmps78
 go_upto_region 1 with (fail)
 have hbn := below_new w (.cells #[.int .i64 vars, .slice A1 p.free.length c1, .slice A2 p.goal.length c2, .slice A3 p.rows.length c3] 26)
 have HBX := Hd (Blk.new w 26 #[.int .i64 vars, .slice A1 p.free.length c1, .slice A2 p.goal.length c2, .slice A3 p.rows.length c3])
 have HPO1 := Hd (PO.below HPO.out hbn)
 have HIO1 := Hd (HIO.out.below hbn)
 have HRP1 := Hd (HRP.out.below hbn)
 have HC0 := Hd (Chg.of_below (base := Wr.heap.size) (t := 97) hbn)
 have HW0 := Hd (below_same hbn)
 obtain ⟨gp, hgp⟩ : ∃ g, g = w.heap.size := ⟨_, rfl⟩
 rw [← hgp] at HBX ⊢
 have HGP : Hid (w.heap.size ≤ gp) := by unfold Hid; omega
 generalize w.alloc (.cells #[.int .i64 vars, .slice A1 p.free.length c1, .slice A2 p.goal.length c2, .slice A3 p.rows.length c3] 26) = W0 at *
 clear hgp hbn HPO HIO
 obtain ⟨r0, r1, r2⟩ := HRP1.out.2.1.c3
 have hltr := HRP1.out.2.1.lt
 obtain ⟨x0, x1, x2, x3⟩ := HBX.out.c4
 have hltp := HBX.out.lt
 by_cases q1 : at_ < 0
 ·have u1 : decide (at_ < 0) = true := decide_eq_true q1
  clear hout
  go_wp2_with fail
  go_ret
  exact ⟨rfl, HRP1.out, HC0.out, HW0.out⟩
 have u1 : decide (at_ < 0) = false := decide_eq_false q1
 have p1 : 0 ≤ at_ := by omega
 by_cases q2 : (cs.length : Int) ≤ at_
 ·have u2 : decide ((cs.length : Int) ≤ at_) = true := decide_eq_true q2
  clear hout
  go_wp2_with fail
  go_ret
  exact ⟨rfl, HRP1.out, HC0.out, HW0.out⟩
 have u2 : decide ((cs.length : Int) ≤ at_) = false := decide_eq_false q2
 have p2 : at_ < (cs.length : Int) := by omega
 by_cases q3 : left = 0
 ·have u3 : ((left : Int) == 0) = true := beqI' (by omega)
  clear q1 q2 q3 hout
  go_wp2_with fail
  go_ret
  exact ⟨rfl, HRP1.out, HC0.out, HW0.out⟩
 have u3 : ((left : Int) == 0) = false := bneI' (by omega)
 have q4 : rightP (rawP p) ≠ 0 := by
  rcases hout with h | h | h | h
  ·exact absurd h q1
  ·exact absurd h q2
  ·exact absurd h q3
  ·exact h
 have u4 : (rightP (rawP p) != 0) = true := bneI q4
 clear q1 q2 q3 q4 hout
 go_wp2_with fail
 refine (pright_calls _ _ (rawP p) (PO.pr HPO1.out hS)).mono ?_
 rintro e w1 ⟨rfl, hb⟩
 have HRP2 := Hd (HRP1.out.below hb)
 have HC1 := Hd (HC0.out.trans (Chg.of_below hb))
 have HW1 : Hid (w.os = w1.os ∧ w.tape = w1.tape ∧ w.output = w1.output) := ⟨HW0.out.1.trans (below_same hb).1, HW0.out.2.1.trans (below_same hb).2.1, HW0.out.2.2.trans (below_same hb).2.2⟩
 clear hb
 go_wp2_with fail
 go_ret
 exact ⟨rfl, HRP2.out, HC1.out, HW1.out⟩
theorem bcell2 {Wr w : World} (hb : Below Wr.heap.size Wr w) (b o : Nat) (h : b < Wr.heap.size) : w.cell? ⟨b, o, none⟩ = Wr.cell? ⟨b, o, none⟩ := hb.cell (p := ⟨b, o, none⟩) h
theorem provesM_le (cs : List CaseF) (lim : Option Rat) : ∀ (n : Nat) (p : ProgQ) (at_ : Int) (op : List Int) (left : Nat), (provesM cs lim n p at_ op left).2 ≤ left
 | 0, p, at_, op, left => Nat.le_refl _
 | n + 1, p, at_, op, left => by
  unfold provesM
  split
  ·exact Nat.le_refl _
  ·split
   ·exact Nat.le_refl _
   ·rename_i c _
    split
    ·exact Nat.sub_le _ _
    ·split
     ·exact Nat.sub_le _ _
     ·have h1 := provesM_le cs lim n (branchQ p c.var 0) c.zero (restL op c.var) (left - 1)
      split
      ·exact Nat.le_trans (provesM_le cs lim n _ _ _ _) (Nat.le_trans h1 (Nat.sub_le _ _))
      ·exact Nat.le_trans h1 (Nat.sub_le _ _)
theorem provesM_step {cs : List CaseF} {lim : Option Rat} {n k l : Nat} {p : ProgQ} {op : List Int} {c : CaseF} (hc : cs[k]? = some c) (hr : rightP (rawP p) = 0) : provesM cs lim (n + 1) p (k : Int) op (l + 1) =
  if c.var = -1 then (leafB p c.cert lim, l)
  else if (restL op c.var).length = op.length ∨ c.zero ≤ (k : Int) ∨ c.one ≤ (k : Int) then (false, l)
  else if (provesM cs lim n (branchQ p c.var 0) c.zero (restL op c.var) l).1 = true then
   provesM cs lim n (branchQ p c.var 1) c.one (restL op c.var) (provesM cs lim n (branchQ p c.var 0) c.zero (restL op c.var) l).2
  else (false, (provesM cs lim n (branchQ p c.var 0) c.zero (restL op c.var) l).2) := by
 have hl := (List.getElem?_eq_some_iff.1 hc).1
 have h0 : ¬ ((k : Int) < 0 ∨ (cs.length : Int) ≤ (k : Int) ∨ l + 1 = 0 ∨ rightP (rawP p) ≠ 0) := by
  rintro (h | h | h | h)
  ·omega
  ·omega
  ·omega
  ·exact h hr
 rw [provesM, if_neg h0, Int.toNat_natCast, hc]
 rfl
theorem value_small (p : ProgF) (x : List RawF) : sizeQ (valueP p x) ≤ 4096 := by
 unfold valueP
 split
 ·rw [sizeQ_zero]; decide
 ·exact capQ_size _
theorem CR.fl {w : World} {k : Value} {v1 v2 v3 : Value} {c : CertF} (h : CR w (.agg #[k, v1, v2, v3]) c) : FL w v1 c.x := by
 obtain ⟨u1, u2, u3, e, _, h1, _, _⟩ := h
 injection e with e
 injection e with e
 injection e with _ e
 injection e with e1 _
 rw [e1]
 exact h1
theorem restL_mem {l : List Int} {x : Int} (h : (restL l x).length ≠ l.length) : x ∈ l := by
 refine Classical.byContradiction fun hn => h ?_
 unfold restL
 rw [List.filter_eq_self.2]
 intro y hy
 refine decide_eq_true fun e => hn ?_
 rw [← e]
 exact hy
theorem restL_le (l : List Int) (x : Int) : (restL l x).length ≤ l.length := List.length_filter_le _ _
theorem restL_sub {l : List Int} {x y : Int} (h : y ∈ restL l x) : y ∈ l := (List.mem_filter.1 h).1
theorem restL_take {l : List Int} {i : Nat} {x y : Int} (h : l[i]? = some y) : restL (l.take (i + 1)) x = restL (l.take i) x ++ if y = x then [] else [y] := by
 unfold restL
 rw [List.take_add_one, h, List.filter_append]
 congr 1
 by_cases e : y = x
 ·simp [e]
 ·simp [e]
theorem small_branch {p : ProgQ} (h : SmallP p) (x b : Int) (hb : b = 0 ∨ b = 1) : SmallP (branchQ p x b) := by
 refine ⟨h.1, fun r hr => ?_⟩
 rcases List.mem_append.1 hr with hr | hr
 ·exact h.2 r hr
 ·rw [List.mem_singleton.1 hr]
  exact small_unit _ _ _ _ hb
theorem sq31 (P : Prop) (h : P := by
 refine NoPanic.normal ?_
 go_wp2_with fail
 go_ret
 exact ⟨by rw [HE.out]; rfl, by rw [HE.out]; exact HRP5.out.below D2.out, HC5.out.trans (Chg.of_below D2.out), HW5.out.1.trans (below_same D2.out).1, HW5.out.2.1.trans (below_same D2.out).2.1, HW5.out.2.2.trans (below_same D2.out).2.2⟩) : P := h
theorem sq50 (P : Prop) (h : P := by
 refine chain_skip (by kernel_rfl) (And.intro D2.out ?_)
 (try simp only [SQ])
 refine ⟨_, _, rfl, rfl, ?_⟩
 refine chain_skip (by kernel_rfl) (And.intro D2.out ?_)
 (try simp only [SQ])
 refine ⟨?_, ?_, ?_⟩
 rotate_left
 ·((refine pn ?_); (try simp only [SQ])); (iterate 4 ((refine pu ?_); (try simp only [SQ])))
  exact rfl
 exact sq31 _) : P := h
theorem sq63 (P : Prop) (h : P := by
 have HQ1 := Hd q1
 clear q1
 go_wp2_with fail
 go_ret
 exact ⟨by rw [HE.out]; rfl, by rw [HE.out]; exact HRP6.out, HC6.out, HW6.out⟩) : P := h
theorem proves_calls {Wr : World} {AC : Option Addr} {cc : Nat} {cs : List CaseF} {LIM : Value} {lim : Option Rat} (HC : CL Wr (.slice AC cs.length cc) cs) (hlc : ∀ c ∈ cs, c.cert.x.length ≤ 100000 ∧ c.cert.y.length ≤ 100000 ∧ c.cert.ray.length ≤ 100000) (hcl : cs.length ≤ 1000000) :
  ∀ (n : Nat) (w : World) (v vo : Value) (p : ProgQ) (at_ : Int) (op : List Int) (left : Nat) (hR : Rep Wr AC cs.length cc LIM lim left w) (h : PO Wr.heap.size w v p) (hS : SmallP p) (ho : IO Wr.heap.size w vo op) (hn : (cs.length : Int) - at_ < n) (hop : ∀ x ∈ op, 0 ≤ x ∧ x < p.vars) (hrw : p.rows.length + op.length ≤ 100000) (hll : left ≤ 1000000), Calls Try.prog 78 #[.pointer (some ⟨Wr.heap.size, 0, none⟩), v, .int .i64 at_, vo] w fun e w' => PvPost Wr AC cs.length cc LIM lim w (provesM cs lim n p at_ op left) e w' := by
 intro n
 induction n with
 | zero =>
  intro w v vo p at_ op left hR h hS ho hn hop hrw hll
  exact proves_out w v vo p at_ op left hR h hS ho (.inr (.inl (by omega)))
 | succ n ih =>
  intro w v vo p at_ op left hR h hS ho hn hop hrw hll
  have IH := Hd ih
  clear ih
  by_cases hout : at_ < 0 ∨ (cs.length : Int) ≤ at_ ∨ left = 0 ∨ rightP (rawP p) ≠ 0
  ·rw [show provesM cs lim (n + 1) p at_ op left = (false, left) from by rw [provesM, if_pos hout]]
   exact proves_out w v vo p at_ op left hR h hS ho hout
  have hR0 : rightP (rawP p) = 0 := Classical.byContradiction fun e => hout (.inr (.inr (.inr e)))
  obtain ⟨k, rfl⟩ : ∃ k : Nat, at_ = k := ⟨at_.toNat, by omega⟩
  have hkl : k < cs.length := by omega
  obtain ⟨l, rfl⟩ : ∃ l, left = l + 1 := ⟨left - 1, by omega⟩
  obtain ⟨c, hc⟩ : ∃ c, cs[k]? = some c := ⟨cs[k], geq hkl⟩
  have HM := Hd (provesM_step (lim := lim) (n := n) (op := op) (l := l) hc hR0)
  have hlen := hlc c (mog hc)
  have hpv := rightP_len hR0
  have HPV : Hid (1 ≤ p.vars ∧ p.vars ≤ 160) := ⟨hpv.2.2.1, hpv.2.2.2.1⟩
  have HSP := Hd hS
  have HOP := Hd hop
  have HCS := Hd HC
  have HLC := Hd hlc
  obtain ⟨gC, oC, B1, d1, B2, d2, B3, d3, rfl, hgC, kcs, HCI, HCR⟩ := HC.at7 hc
  have HKC := Hd kcs
  obtain ⟨gr, hgr⟩ : ∃ g, g = Wr.heap.size := ⟨_, rfl⟩
  have hgne : gC ≠ Wr.heap.size := by omega
  clear hout hc hpv hop kcs hgr gr hlc HC
  obtain ⟨A1, c1, A2, c2, A3, c3, rfl, HI, H1, H2, H3⟩ := h.opened
  have HPO := Hd h
  clear h
  obtain ⟨vars, hv⟩ : ∃ n, n = p.vars := ⟨_, rfl⟩
  rw [← hv] at HPO ⊢
  have HV := Hd hv
  clear hv H1 H2 H3 HI
  obtain ⟨X1, xc, rfl, _⟩ := ho.1.slice
  have HIO := Hd ho
  have HRP := Hd hR
  clear ho hR
  go_enter Try.func78, Try.ntmps78
  go_upto_region 1 with (fail)
  have hbn := below_new w (.cells #[.int .i64 vars, .slice A1 p.free.length c1, .slice A2 p.goal.length c2, .slice A3 p.rows.length c3] 26)
  have HBX := Hd (Blk.new w 26 #[.int .i64 vars, .slice A1 p.free.length c1, .slice A2 p.goal.length c2, .slice A3 p.rows.length c3])
  have HPO1 := Hd (PO.below HPO.out hbn)
  have HIO1 := Hd (HIO.out.below hbn)
  have HRP1 := Hd (HRP.out.below hbn)
  have HC0 := Hd (Chg.of_below (base := Wr.heap.size) (t := 97) hbn)
  have HW0 := Hd (below_same hbn)
  obtain ⟨gp, hgp⟩ : ∃ g, g = w.heap.size := ⟨_, rfl⟩
  rw [← hgp] at HBX ⊢
  have HGP : Hid (w.heap.size ≤ gp) := by unfold Hid; omega
  generalize w.alloc (.cells #[.int .i64 vars, .slice A1 p.free.length c1, .slice A2 p.goal.length c2, .slice A3 p.rows.length c3] 26) = W0 at *
  clear hgp hbn HPO HIO
  obtain ⟨r0, r1, r2⟩ := HRP1.out.2.1.c3
  have hltr := HRP1.out.2.1.lt
  obtain ⟨x0, x1, x2, x3⟩ := HBX.out.c4
  have hltp := HBX.out.lt
  have u4 : (rightP (rawP p) != 0) = false := beqI hR0
  have u1 : decide ((k : Int) < 0) = false := dcf
  have u2 : decide (cs.length ≤ k) = false := dcf
  have u2' : ¬ ((cs.length : Int) ≤ (k : Int)) := by omega
  have u3 : (((l + 1 : Nat) : Int) == 0) = false := bneI' (by omega)
  have u3' : ((l : Int) + 1 == 0) = false := bneI' (by omega)
  have p1 : (0 : Int) ≤ (k : Int) := by omega
  have p2 : (k : Int) < (cs.length : Int) := by omega
  have p3 : (k : Int).toNat = k := by omega
  clear hR0
  go_wp2_with fail
  refine (pright_calls _ _ (rawP p) (PO.pr HPO1.out HSP.out)).mono ?_
  rintro e w1 ⟨rfl, hb⟩
  have HRP2 := Hd (HRP1.out.below hb)
  have HPO2 := Hd (PO.below HPO1.out hb)
  have HIO2 := Hd (HIO1.out.below hb)
  have HBX2 := Hd (HBX.out.below hb HBX.out.lt)
  have HC1 := Hd (HC0.out.trans (Chg.of_below hb))
  have HW1 : Hid (w.os = w1.os ∧ w.tape = w1.tape ∧ w.output = w1.output) := ⟨HW0.out.1.trans (below_same hb).1, HW0.out.2.1.trans (below_same hb).2.1, HW0.out.2.2.trans (below_same hb).2.2⟩
  clear hb x0 x1 x2 x3 hltp r0 r1 r2 hltr HRP HRP1 HPO1 HIO1 HBX HC0 HW0
  obtain ⟨r0, r1, r2⟩ := HRP2.out.2.1.c3
  obtain ⟨f0, f1, f2⟩ := HRP2.out.2.1.f3
  have hltr := HRP2.out.2.1.lt
  have hgC1 : gC < w1.heap.size := Nat.lt_trans hgC hltr
  obtain ⟨e0, e1, e2, e3, e4, e5, e6⟩ : _ ∧ _ ∧ _ ∧ _ ∧ _ ∧ _ ∧ _ := HKC.out
  have s0 := ((bcell2 HRP2.out.1.2 gC _ hgC).trans e0)
  have s1 := ((bcell2 HRP2.out.1.2 gC _ hgC).trans e1)
  have s2 := ((bcell2 HRP2.out.1.2 gC _ hgC).trans e2)
  have s3 := ((bcell2 HRP2.out.1.2 gC _ hgC).trans e3)
  have s4 := ((bcell2 HRP2.out.1.2 gC _ hgC).trans e4)
  have s5 := ((bcell2 HRP2.out.1.2 gC _ hgC).trans e5)
  have s6 := ((bcell2 HRP2.out.1.2 gC _ hgC).trans e6)
  clear e0 e1 e2 e3 e4 e5 e6
  have HSM : Hid (w1.heap.size ≤ w1.heap.size) := Nat.le_refl _
  by_cases hv : c.var = -1
  case pos =>
   have u5 : (c.var == -1) = true := beqI' hv
   have HV1 := Hd hv
   clear hv
   go_wp2_with fail
   have hpt := HRP2.out.put l
   have hbn := below_new (w1.setCell ⟨Wr.heap.size, 1, none⟩ (.int .i64 (l : Int))) (.cells #[.int .i64 c.var, .int .i64 c.zero, .int .i64 c.one, .int .i64 c.cert.kind, .slice B1 c.cert.x.length d1, .slice B2 c.cert.y.length d2, .slice B3 c.cert.ray.length d3] 82)
   have hc2 := hpt.2
   have HRP5 := Hd (hpt.1.below hbn)
   have HPO5 := Hd (PO.below (PO.chg HPO2.out hc2 (by decide) (by decide) (by decide)) hbn)
   have HIO5 := Hd ((HIO2.out.chg hc2 (by decide)).below hbn)
   have HBX5 := Hd ((HBX2.out.chg hc2 (by decide)).below hbn (HBX2.out.chg hc2 (by decide)).lt)
   have H95 := Hd (Blk.new (w1.setCell ⟨Wr.heap.size, 1, none⟩ (.int .i64 (l : Int))) 82 #[.int .i64 c.var, .int .i64 c.zero, .int .i64 c.one, .int .i64 c.cert.kind, .slice B1 c.cert.x.length d1, .slice B2 c.cert.y.length d2, .slice B3 c.cert.ray.length d3])
   have HC5 := Hd ((HC1.out.trans hc2).trans (Chg.of_below hbn))
   have HW5 : Hid (w.os = ((w1.setCell ⟨Wr.heap.size, 1, none⟩ (.int .i64 (l : Int))).alloc (.cells #[.int .i64 c.var, .int .i64 c.zero, .int .i64 c.one, .int .i64 c.cert.kind, .slice B1 c.cert.x.length d1, .slice B2 c.cert.y.length d2, .slice B3 c.cert.ray.length d3] 82)).os ∧ w.tape = ((w1.setCell ⟨Wr.heap.size, 1, none⟩ (.int .i64 (l : Int))).alloc (.cells #[.int .i64 c.var, .int .i64 c.zero, .int .i64 c.one, .int .i64 c.cert.kind, .slice B1 c.cert.x.length d1, .slice B2 c.cert.y.length d2, .slice B3 c.cert.ray.length d3] 82)).tape ∧ w.output = ((w1.setCell ⟨Wr.heap.size, 1, none⟩ (.int .i64 (l : Int))).alloc (.cells #[.int .i64 c.var, .int .i64 c.zero, .int .i64 c.one, .int .i64 c.cert.kind, .slice B1 c.cert.x.length d1, .slice B2 c.cert.y.length d2, .slice B3 c.cert.ray.length d3] 82)).output) := HW1.out
   have HCR5 := Hd (HCR.out.of_below HRP5.out.1.2)
   clear hpt hbn hc2 r0 r1 r2 f0 f1 f2 hltr s0 s1 s2 s3 s4 s5 s6 hgC1 hgne HRP2 HPO2 HIO2 HBX2 HC1 HW1
   obtain ⟨g9, hg9⟩ : ∃ g, g = (w1.setCell ⟨Wr.heap.size, 1, none⟩ (.int .i64 (l : Int))).heap.size := ⟨_, rfl⟩
   have hg9' : g9 = w1.heap.size := by rw [hg9]; simp
   rw [← hg9] at H95
   rw [← hg9']
   generalize (w1.setCell ⟨Wr.heap.size, 1, none⟩ (.int .i64 (l : Int))).alloc (.cells #[.int .i64 c.var, .int .i64 c.zero, .int .i64 c.one, .int .i64 c.cert.kind, .slice B1 c.cert.x.length d1, .slice B2 c.cert.y.length d2, .slice B3 c.cert.ray.length d3] 82) = W5 at *
   clear hg9 hg9'
   obtain ⟨x0, x1, x2, x3⟩ := HBX5.out.c4
   have hltp := HBX5.out.lt
   obtain ⟨y0, y1, y2, y3, y4, y5, y6⟩ := H95.out.c7
   have hlt9 := H95.out.lt
   refine wp_chainS (S := Below W5.heap.size W5) [([0, 1, 2], 3), ([4, 5, 6, 7, 8, 9, 10, 11, 12, 13, 14, 15, 16, 17, 18, 19, 20, 21, 22, 23, 24, 25, 27, 28, 29, 30, 31, 32], 26), ([], 33)] [34, 35, 36, 37, 38] (by kernel_rfl) (by kernel_rfl) (by kernel_rfl) rfl Bd ?_
   refine ⟨?_, _, ?_, rfl, ?_⟩
   rotate_left
   ·(iterate 3 ((refine pu ?_); (try simp only [SQ])))
    exact rfl
   have D0 : Hid (Below W5.heap.size W5 W5.drew) := Bd
   go_wp2_with fail
   refine (judge_calls _ _ _ (rawP p) c.cert (PO.pr (PO.below HPO5.out D0.out) HSP.out) (HCR5.out.of_below D0.out) hlen.1 hlen.2.1 hlen.2.2).mono ?_
   rintro e w2 ⟨rfl, hb⟩
   have D2 := Hd (below_next D0.out hb)
   clear hb
   cases hj : judgeB (rawP p) c.cert
   case false =>
    have HE : Hid (provesM cs lim (n + 1) p (k : Int) op (l + 1) = (false, l)) := by unfold Hid; rw [HM.out, if_pos HV1.out]; unfold leafB; rw [hj]; cases lim <;> rfl
    clear hj
    go_wp2_with fail
    refine And.intro D2.out ⟨?_, _, ?_, rfl, ?_⟩
    rotate_left
    ·((refine pu ?_); (try simp only [SQ])); (iterate 27 ((refine pn ?_); (try simp only [SQ])))
     exact rfl
    refine chain_skip (by kernel_rfl) (And.intro D2.out ?_)
    (try simp only [SQ])
    refine ⟨_, _, rfl, rfl, ?_⟩
    refine chain_skip (by kernel_rfl) (And.intro D2.out ?_)
    (try simp only [SQ])
    refine ⟨?_, ?_, ?_⟩
    rotate_left
    ·(iterate 3 ((refine pn ?_); (try simp only [SQ]))); (iterate 2 ((refine pu ?_); (try simp only [SQ])))
     exact rfl
    exact sq31 _
   have HJ := Hd hj
   clear hj
   by_cases k2 : c.cert.kind = 2
   ·have v2 : (c.cert.kind == 2) = true := beqI' k2
    have HE : Hid (provesM cs lim (n + 1) p (k : Int) op (l + 1) = (true, l)) := by unfold Hid; rw [HM.out, if_pos HV1.out]; unfold leafB; rw [HJ.out, k2]; cases lim <;> rfl
    clear k2
    go_wp2_with fail
    refine And.intro D2.out ⟨?_, _, ?_, rfl, ?_⟩
    rotate_left
    ·(iterate 6 ((refine pu ?_); (try simp only [SQ]))); (iterate 22 ((refine pn ?_); (try simp only [SQ])))
     exact rfl
    refine chain_skip (by kernel_rfl) (And.intro D2.out ?_)
    (try simp only [SQ])
    refine ⟨_, _, rfl, rfl, ?_⟩
    refine chain_skip (by kernel_rfl) (And.intro D2.out ?_)
    (try simp only [SQ])
    refine ⟨?_, ?_, ?_⟩
    rotate_left
    ·(iterate 2 ((refine pn ?_); (try simp only [SQ]))); (iterate 3 ((refine pu ?_); (try simp only [SQ])))
     exact rfl
    exact sq31 _
   have v2 : (c.cert.kind == 2) = false := bneI' k2
   by_cases k1 : c.cert.kind = 1
   case neg =>
    have v1 : (c.cert.kind == 1) = false := bneI' k1
    have HE : Hid (provesM cs lim (n + 1) p (k : Int) op (l + 1) = (false, l)) := by unfold Hid; rw [HM.out, if_pos HV1.out]; unfold leafB; rw [HJ.out, decide_eq_false k2, decide_eq_false k1]; cases lim <;> rfl
    clear k1 k2
    go_wp2_with fail
    refine And.intro D2.out ⟨?_, _, ?_, rfl, ?_⟩
    rotate_left
    ·(iterate 11 ((refine pu ?_); (try simp only [SQ]))); (iterate 5 ((refine pn ?_); (try simp only [SQ]))); (iterate 2 ((refine pu ?_); (try simp only [SQ]))); (iterate 10 ((refine pn ?_); (try simp only [SQ])))
     exact rfl
    exact sq50 _
   have v1 : (c.cert.kind == 1) = true := beqI' k1
   have HK1 := Hd k1
   have HK2 := Hd k2
   clear k1 k2
   have HLM := Hd HRP5.out.2.2
   obtain ⟨r0, r1, r2⟩ := HRP5.out.2.1.c3
   have hltr := HRP5.out.2.1.lt
   cases lim with
   | none =>
    obtain rfl : LIM = .pointer none := HLM.out
    have HE : Hid (provesM cs none (n + 1) p (k : Int) op (l + 1) = (false, l)) := by unfold Hid; rw [HM.out, if_pos HV1.out]; unfold leafB; rw [HJ.out, decide_eq_false HK2.out]; rfl
    go_wp2_with fail
    refine And.intro D2.out ⟨?_, _, ?_, rfl, ?_⟩
    rotate_left
    ·(iterate 18 ((refine pu ?_); (try simp only [SQ]))); (iterate 10 ((refine pn ?_); (try simp only [SQ])))
     exact rfl
    exact sq50 _
   | some q =>
    obtain ⟨hsq, gl, G1, m1, f1, G2, m2, f2, rfl, hbl, hfq⟩ : LimOK W5 LIM (some q) := HLM.out
    have HSQ := Hd hsq
    have HBL := Hd hbl
    have HFQ := Hd hfq
    clear hsq hbl hfq
    obtain ⟨z0, z1, z2⟩ := HBL.out.c3
    have hltl := HBL.out.lt
    have HE : Hid (provesM cs (some q) (n + 1) p (k : Int) op (l + 1) = (decide (ordQ (valueP (rawP p) c.cert.x) q ≤ 0), l)) := by unfold Hid; rw [HM.out, if_pos HV1.out]; unfold leafB; rw [HJ.out, decide_eq_false HK2.out, HK1.out]; simp
    go_wp2_with fail
    refine And.intro D2.out ⟨?_, _, ?_, rfl, ?_⟩
    rotate_left
    ·(iterate 28 ((refine pu ?_); (try simp only [SQ])))
     exact rfl
    go_wp2_with fail
    refine (value_calls _ _ _ (rawP p) c.cert.x (PO.pr (PO.below HPO5.out D2.out) HSP.out) (CR.fl (HCR5.out.of_below D2.out))).mono ?_
    rintro e w3 ⟨v, rfl, hv, hb⟩
    obtain ⟨E1, h1, i1, E2, h2, i2, rfl, HV3⟩ := hv.opened
    have D3 := Hd (below_next D2.out hb)
    clear hv hb
    go_wp2_with fail
    refine And.intro D3.out ⟨_, _, rfl, rfl, ?_⟩
    go_wp2_with fail
    refine (fcmp_calls _ _ _ (rawQ (valueP (rawP p) c.cert.x)) (rawQ q) (FR.of_fq HV3.out (value_small _ _)) (FR.of_fq (HFQ.out.of_below D3.out) HSQ.out)).mono ?_
    rintro e w4 ⟨rfl, hb⟩
    rw [fixQ_raw _ (value_small _ _), fixQ_raw _ HSQ.out]
    have D4 := Hd (below_next D3.out hb)
    clear hb
    go_wp2_with fail
    refine And.intro D4.out ?_
    refine ⟨?_, ?_, ?_⟩
    rotate_left
    ·(iterate 5 ((refine pu ?_); (try simp only [SQ])))
     exact rfl
    refine NoPanic.normal ?_
    go_wp2_with fail
    go_ret
    exact ⟨by rw [HE.out]; rfl, by rw [HE.out]; exact HRP5.out.below D4.out, HC5.out.trans (Chg.of_below D4.out), HW5.out.1.trans (below_same D4.out).1, HW5.out.2.1.trans (below_same D4.out).2.1, HW5.out.2.2.trans (below_same D4.out).2.2⟩
  have u5 : (c.var == -1) = false := bneI' hv
  have HV1 := Hd hv
  clear hv
  go_wp2_with fail
  have hpt := HRP2.out.put l
  have hbn := below_new (w1.setCell ⟨Wr.heap.size, 1, none⟩ (.int .i64 (l : Int))) (.cells #[.int .i64 c.var, .int .i64 c.zero, .int .i64 c.one, .int .i64 c.cert.kind, .slice B1 c.cert.x.length d1, .slice B2 c.cert.y.length d2, .slice B3 c.cert.ray.length d3] 82)
  have hc2 := hpt.2
  have HRP5 := Hd (hpt.1.below hbn)
  have HPO5 := Hd (PO.below (PO.chg HPO2.out hc2 (by decide) (by decide) (by decide)) hbn)
  have HIO5 := Hd ((HIO2.out.chg hc2 (by decide)).below hbn)
  have HBX5 := Hd ((HBX2.out.chg hc2 (by decide)).below hbn (HBX2.out.chg hc2 (by decide)).lt)
  have H95 := Hd (Blk.new (w1.setCell ⟨Wr.heap.size, 1, none⟩ (.int .i64 (l : Int))) 82 #[.int .i64 c.var, .int .i64 c.zero, .int .i64 c.one, .int .i64 c.cert.kind, .slice B1 c.cert.x.length d1, .slice B2 c.cert.y.length d2, .slice B3 c.cert.ray.length d3])
  have HC5 := Hd ((HC1.out.trans hc2).trans (Chg.of_below hbn))
  have HW5 : Hid (w.os = ((w1.setCell ⟨Wr.heap.size, 1, none⟩ (.int .i64 (l : Int))).alloc (.cells #[.int .i64 c.var, .int .i64 c.zero, .int .i64 c.one, .int .i64 c.cert.kind, .slice B1 c.cert.x.length d1, .slice B2 c.cert.y.length d2, .slice B3 c.cert.ray.length d3] 82)).os ∧ w.tape = ((w1.setCell ⟨Wr.heap.size, 1, none⟩ (.int .i64 (l : Int))).alloc (.cells #[.int .i64 c.var, .int .i64 c.zero, .int .i64 c.one, .int .i64 c.cert.kind, .slice B1 c.cert.x.length d1, .slice B2 c.cert.y.length d2, .slice B3 c.cert.ray.length d3] 82)).tape ∧ w.output = ((w1.setCell ⟨Wr.heap.size, 1, none⟩ (.int .i64 (l : Int))).alloc (.cells #[.int .i64 c.var, .int .i64 c.zero, .int .i64 c.one, .int .i64 c.cert.kind, .slice B1 c.cert.x.length d1, .slice B2 c.cert.y.length d2, .slice B3 c.cert.ray.length d3] 82)).output) := HW1.out
  have HCR5 := Hd (HCR.out.of_below HRP5.out.1.2)
  clear hpt hbn hc2 r0 r1 r2 f0 f1 f2 hltr s0 s1 s2 s3 s4 s5 s6 hgC1 hgne HRP2 HPO2 HIO2 HBX2 HC1 HW1
  obtain ⟨g9, hg9⟩ : ∃ g, g = (w1.setCell ⟨Wr.heap.size, 1, none⟩ (.int .i64 (l : Int))).heap.size := ⟨_, rfl⟩
  have hg9' : g9 = w1.heap.size := by rw [hg9]; simp
  rw [← hg9] at H95
  rw [← hg9']
  generalize (w1.setCell ⟨Wr.heap.size, 1, none⟩ (.int .i64 (l : Int))).alloc (.cells #[.int .i64 c.var, .int .i64 c.zero, .int .i64 c.one, .int .i64 c.cert.kind, .slice B1 c.cert.x.length d1, .slice B2 c.cert.y.length d2, .slice B3 c.cert.ray.length d3] 82) = W5 at *
  clear hg9 hg9'
  go_loopw [10, 93] (fun v10 vi wr => ∃ i : Nat, i ≤ op.length ∧ vi = .int .i64 (i : Int) ∧ (∃ C1 e1, v10 = .slice C1 (restL (op.take i) c.var).length e1 ∧ OI W5.heap.size wr (.slice C1 (restL (op.take i) c.var).length e1) (restL (op.take i) c.var)) ∧ HS W5 [] wr) (fun _ vi _ => op.length - (intOf vi).toNat)
  case atStart => exact ⟨0, Nat.zero_le _, rfl, ⟨none, 0, rfl, OL.nil _ _ _ _ _⟩, HS.nil _⟩
  case round =>
   obtain ⟨i, hi, rfl, ⟨C1, e1, rfl, hoi⟩, hk⟩ := hrel
   have HOI := Hd hoi
   have HKi := Hd hk
   clear hoi hk
   obtain ⟨y0, y1, y2, y3, y4, y5, y6⟩ := (H95.out.below HKi.out.2 H95.out.lt).c7
   have hlt9 := (H95.out.below HKi.out.2 H95.out.lt).lt
   by_cases hlt : i < op.length
   ·obtain ⟨x, hx⟩ : ∃ x, op[i]? = some x := ⟨op[i], geq hlt⟩
    obtain ⟨gx, ox, rfl, hgx, k0⟩ := IL.at1 (HIO5.out.below HKi.out.2).1 hx
    have HTK := Hd (restL_take (x := c.var) hx)
    have m1 : (i : Int) < (op.length : Int) := by omega
    have m3 : (i : Int).toNat = i := by omega
    have m4 : (0 : Int) ≤ (i : Int) := by omega
    have hol : (restL (op.take i) c.var).length ≤ 1000000000 := by have := restL_le (op.take i) c.var; rw [ltk] at this; omega
    obtain ⟨ol, hol2⟩ : ∃ o, o = restL (op.take i) c.var := ⟨_, rfl⟩
    rw [← hol2] at HOI HTK hol ⊢
    have HOL := Hd hol2
    clear hx hol2
    by_cases q : x = c.var
    ·have u6 : (x != c.var) = false := beqI q
     have HNX : Hid (restL (op.take (i + 1)) c.var = ol) := by unfold Hid; rw [HTK.out, if_pos q, List.append_nil]
     clear q
     go_wp2_with fail
     go_roundw
     case rel => exact ⟨i + 1, by omega, by go_num, ⟨C1, e1, by rw [HNX.out], by rw [HNX.out]; exact HOI.out⟩, HKi.out⟩
     case measure => simp [intOf]; omega
    ·have u6 : (x != c.var) = true := bneI q
     have HNX : Hid (restL (op.take (i + 1)) c.var = ol ++ [x]) := by unfold Hid; rw [HTK.out, if_neg q]
     have HNL : Hid ((restL (op.take (i + 1)) c.var).length = ol.length + 1) := by unfold Hid; rw [HNX.out]; simp
     clear q
     have hbn := below_new wr (.cells #[.int .i64 x] 3)
     have HOI2 := Hd (OL.below EI.stays HOI.out hbn)
     have HKi2 := Hd (HKi.out.step hbn)
     have hbs : W5.heap.size ≤ (wr.alloc (.cells #[.int .i64 x] 3)).heap.size := HKi2.out.2.size
     clear hbn
     go_wp2_with (at_builtin; refine wpl_appendI rfl (.tmp 101) (.tmp 103) rfl (base := W5.heap.size) (.slice C1 ol.length e1) ol rfl HOI2.out x rfl (Blk.new wr 3 #[.int .i64 x]) hol hbs ?_; intro v8 W8 hoi8 hcg8 hw8; rw [← HNX.out] at hoi8; obtain ⟨C8, e8, hv8, _⟩ := OL.slice hoi8; rw [HNL.out] at hv8; subst hv8; have HOI8 := Hd hoi8; have HK8 := Hd (HS.chg HKi2.out hcg8 (by simp) rfl hw8); clear hoi8 hcg8 hw8)
     go_wp2_with fail
     go_roundw
     case rel => exact ⟨i + 1, by omega, by go_num, ⟨C8, e8, by rw [HNL.out], by rw [HNL.out]; exact HOI8.out⟩, HK8.out⟩
     case measure => simp [intOf]; omega
   ·obtain rfl : i = op.length := by omega
    rw [List.take_length] at HOI ⊢
    have HRP6 := Hd (HRP5.out.below HKi.out.2)
    have HPO6 := Hd (PO.below HPO5.out HKi.out.2)
    have HBX6 := Hd (HBX5.out.below HKi.out.2 HBX5.out.lt)
    have H96 := Hd (H95.out.below HKi.out.2 H95.out.lt)
    have HC6 := Hd (HC5.out.trans (Chg.of_below HKi.out.2))
    have HW6 : Hid (w.os = wr.os ∧ w.tape = wr.tape ∧ w.output = wr.output) := ⟨HW5.out.1.trans (below_same HKi.out.2).1, HW5.out.2.1.trans (below_same HKi.out.2).2.1, HW5.out.2.2.trans (below_same HKi.out.2).2.2⟩
    have HI6 : Hid (IO Wr.heap.size wr (.slice C1 (restL op c.var).length e1) (restL op c.var)) := OI.io HOI.out
    have HRS : Hid (∀ x ∈ restL op c.var, x ∈ op) := fun x hx => restL_sub hx
    have HRM : Hid ((restL op c.var).length ≠ op.length → c.var ∈ op) := fun h => restL_mem h
    have hrle := restL_le op c.var
    obtain ⟨rl, hrl⟩ : ∃ l, l = restL op c.var := ⟨_, rfl⟩
    rw [← hrl] at HM HI6 HRS HRM hrle ⊢
    clear HRP5 HPO5 HIO5 HBX5 H95 HC5 HW5 HKi HOI hrl
    by_cases q1 : rl.length = op.length
    ·have u6 : ((rl.length : Int) == (op.length : Int)) = true := beqI' (by omega)
     have HE : Hid (provesM cs lim (n + 1) p (k : Int) op (l + 1) = (false, l)) := by unfold Hid; rw [HM.out, if_neg HV1.out, if_pos (.inl q1)]
     exact sq63 _
    have u6 : ((rl.length : Int) == (op.length : Int)) = false := bneI' (by omega)
    by_cases q2 : c.zero ≤ (k : Int)
    ·have u7 : decide (c.zero ≤ (k : Int)) = true := decide_eq_true q2
     have HE : Hid (provesM cs lim (n + 1) p (k : Int) op (l + 1) = (false, l)) := by unfold Hid; rw [HM.out, if_neg HV1.out, if_pos (.inr (.inl q2))]
     exact sq63 _
    have u7 : decide (c.zero ≤ (k : Int)) = false := decide_eq_false q2
    have u7' : (k : Int) < c.zero := by omega
    by_cases q3 : c.one ≤ (k : Int)
    ·have u8 : decide (c.one ≤ (k : Int)) = true := decide_eq_true q3
     have HE : Hid (provesM cs lim (n + 1) p (k : Int) op (l + 1) = (false, l)) := by unfold Hid; rw [HM.out, if_neg HV1.out, if_pos (.inr (.inr q3))]
     exact sq63 _
    have u8 : decide (c.one ≤ (k : Int)) = false := decide_eq_false q3
    have u8' : (k : Int) < c.one := by omega
    have HM2 : Hid (provesM cs lim (n + 1) p (k : Int) op (l + 1) = if (provesM cs lim n (branchQ p c.var 0) c.zero rl l).1 = true then provesM cs lim n (branchQ p c.var 1) c.one rl (provesM cs lim n (branchQ p c.var 0) c.zero rl l).2 else (false, (provesM cs lim n (branchQ p c.var 0) c.zero rl l).2)) := by
     unfold Hid
     rw [HM.out, if_neg HV1.out, if_neg (by rintro (h | h | h); exact q1 h; exact q2 h; exact q3 h)]
    have hxv := HOP.out _ (HRM.out q1)
    have hrlt : rl.length < op.length := by omega
    have hg0 : Wr.heap.size ≤ wr.heap.size := HRP6.out.1.2.size
    clear q1 q2 q3 HM
    go_wp2_with fail
    refine wp_chainS (S := Chg Wr.heap.size 97 wr) [([0, 1, 2, 3, 5, 6, 7], 4), ([], 8), ([9, 10, 11, 12, 13, 15, 16, 17], 14), ([], 18)] [19, 20] (by kernel_rfl) (by kernel_rfl) (by kernel_rfl) rfl (Chg.of_below Bd) ?_
    refine ⟨?_, _, ?_, rfl, ?_⟩
    rotate_left
    ·(iterate 7 ((refine ⟨_, ?_, rfl, Or.inl ⟨by rfl, ?_⟩, ?_⟩; rotate_left; focus (intro W hW; have kB := HBX6.out.chg hW (by decide); have k9 := H96.out.chg hW (by decide); obtain ⟨x0, x1, x2, x3⟩ := kB.c4; obtain ⟨y0, y1, y2, y3, y4, y5, y6⟩ := k9.c7; have l0 := kB.lt; have l1 := k9.lt; clear kB k9 hW; go_simp; try with_reducible rfl)); (try simp only [SQ])))
     exact rfl
    have hb0 : Below wr.heap.size wr wr.drew := Bd
    have HP1 := Hd (PO.below HPO6.out hb0)
    have HR1 := Hd (HRP6.out.below hb0)
    have HI1 := Hd (HI6.out.below hb0)
    have CH1 := Hd (Chg.of_below (base := Wr.heap.size) (t := 97) hb0)
    have SM1 := Hd (below_same hb0)
    have hg1 : Wr.heap.size ≤ wr.drew.heap.size := HR1.out.1.2.size
    clear hb0
    go_wp2_with fail
    refine (branch_calls Wr.heap.size _ _ p c.var 0 HP1.out hg1 HPV.out.1 HPV.out.2 hxv.1 hxv.2 (Or.inl rfl) (by omega)).mono ?_
    rintro e w2 ⟨v2, rfl, hpo, hb⟩
    have HP2 := Hd hpo
    have HR2 := Hd (HR1.out.below hb)
    have HI2 := Hd (HI1.out.below hb)
    have HPA2 := Hd (PO.below HP1.out hb)
    have CH2 := Hd (CH1.out.trans (Chg.of_below hb))
    have SM2 : Hid (wr.os = w2.os ∧ wr.tape = w2.tape ∧ wr.output = w2.output) := ⟨SM1.out.1.trans (below_same hb).1, SM1.out.2.1.trans (below_same hb).2.1, SM1.out.2.2.trans (below_same hb).2.2⟩
    clear hpo hb
    go_wp2_with fail
    refine And.intro CH2.out ⟨_, _, rfl, rfl, ?_⟩
    go_wp2_with fail
    refine (IH.out w2 v2 _ (branchQ p c.var 0) c.zero rl l HR2.out HP2.out (small_branch HSP.out _ _ (Or.inl rfl)) HI2.out (by omega) (fun x hx => HOP.out x (HRS.out x hx)) (by show (p.rows ++ [_]).length + _ ≤ _; rw [lap]; simp; omega) (by omega)).mono ?_
    rintro e w3 ⟨rfl, hr, hc, hw⟩
    have HLE := Hd (provesM_le cs lim n (branchQ p c.var 0) c.zero rl l)
    obtain ⟨⟨b1, l1⟩, hbl⟩ : ∃ z, z = provesM cs lim n (branchQ p c.var 0) c.zero rl l := ⟨_, rfl⟩
    rw [← hbl] at hr HLE HM2 ⊢
    have HR3 := Hd hr
    have HI3 := Hd (HI2.out.chg hc (by decide))
    have HPA3 := Hd (PO.chg HPA2.out hc (by decide) (by decide) (by decide))
    have CH3 := Hd (CH2.out.trans hc)
    have SM3 : Hid (wr.os = w3.os ∧ wr.tape = w3.tape ∧ wr.output = w3.output) := ⟨SM2.out.1.trans hw.1, SM2.out.2.1.trans hw.2.1, SM2.out.2.2.trans hw.2.2⟩
    have hl1 : l1 ≤ l := HLE.out
    clear hr hc hw hbl HLE
    cases b1
    case false =>
     have HE : Hid (provesM cs lim (n + 1) p (k : Int) op (l + 1) = (false, l1)) := by unfold Hid; rw [HM2.out]; rfl
     go_wp2_with fail
     refine And.intro CH3.out ⟨?_, _, ?_, rfl, ?_⟩
     rotate_left
     ·((refine ⟨_, ?_, rfl, Or.inl ⟨by rfl, ?_⟩, ?_⟩; rotate_left; focus (intro W hW; have kB := HBX6.out.chg hW (by decide); have k9 := H96.out.chg hW (by decide); obtain ⟨x0, x1, x2, x3⟩ := kB.c4; obtain ⟨y0, y1, y2, y3, y4, y5, y6⟩ := k9.c7; have l0 := kB.lt; have l1 := k9.lt; clear kB k9 hW; go_simp; try with_reducible rfl)); (try simp only [SQ])); (iterate 7 ((refine pn ?_); (try simp only [SQ])))
      exact rfl
     refine chain_skip (by kernel_rfl) (And.intro CH3.out ?_)
     (try simp only [SQ])
     refine ⟨_, _, rfl, rfl, ?_⟩
     refine chain_skip (by kernel_rfl) (And.intro CH3.out ?_)
     (try simp only [SQ])
     refine ⟨?_, ?_, ?_⟩
     rotate_left
     ·(iterate 2 ((refine ⟨_, ?_, rfl, Or.inl ⟨by rfl, ?_⟩, ?_⟩; rotate_left; focus (intro W hW; have kB := HBX6.out.chg hW (by decide); have k9 := H96.out.chg hW (by decide); obtain ⟨x0, x1, x2, x3⟩ := kB.c4; obtain ⟨y0, y1, y2, y3, y4, y5, y6⟩ := k9.c7; have l0 := kB.lt; have l1 := k9.lt; clear kB k9 hW; go_simp; try with_reducible rfl)); (try simp only [SQ])))
      exact rfl
     refine NoPanic.normal ?_
     go_wp2_with fail
     go_ret
     exact ⟨by rw [HE.out]; rfl, by rw [HE.out]; exact HR3.out, HC6.out.trans CH3.out, HW6.out.1.trans SM3.out.1, HW6.out.2.1.trans SM3.out.2.1, HW6.out.2.2.trans SM3.out.2.2⟩
    case true =>
     have HE : Hid (provesM cs lim (n + 1) p (k : Int) op (l + 1) = provesM cs lim n (branchQ p c.var 1) c.one rl l1) := by unfold Hid; rw [HM2.out]; rfl
     go_wp2_with fail
     refine And.intro CH3.out ⟨?_, _, ?_, rfl, ?_⟩
     rotate_left
     ·(iterate 8 ((refine ⟨_, ?_, rfl, Or.inl ⟨by rfl, ?_⟩, ?_⟩; rotate_left; focus (intro W hW; have kB := HBX6.out.chg hW (by decide); have k9 := H96.out.chg hW (by decide); obtain ⟨x0, x1, x2, x3⟩ := kB.c4; obtain ⟨y0, y1, y2, y3, y4, y5, y6⟩ := k9.c7; have l0 := kB.lt; have l1 := k9.lt; clear kB k9 hW; go_simp; try with_reducible rfl)); (try simp only [SQ])))
      exact rfl
     have hg3 : Wr.heap.size ≤ w3.heap.size := HR3.out.1.2.size
     go_wp2_with fail
     refine (branch_calls Wr.heap.size _ _ p c.var 1 HPA3.out hg3 HPV.out.1 HPV.out.2 hxv.1 hxv.2 (Or.inr rfl) (by omega)).mono ?_
     rintro e w4 ⟨v4, rfl, hpo, hb⟩
     have HP4 := Hd hpo
     have HR4 := Hd (HR3.out.below hb)
     have HI4 := Hd (HI3.out.below hb)
     have CH4 := Hd (CH3.out.trans (Chg.of_below hb))
     have SM4 : Hid (wr.os = w4.os ∧ wr.tape = w4.tape ∧ wr.output = w4.output) := ⟨SM3.out.1.trans (below_same hb).1, SM3.out.2.1.trans (below_same hb).2.1, SM3.out.2.2.trans (below_same hb).2.2⟩
     clear hpo hb
     go_wp2_with fail
     refine And.intro CH4.out ⟨_, _, rfl, rfl, ?_⟩
     go_wp2_with fail
     refine (IH.out w4 v4 _ (branchQ p c.var 1) c.one rl l1 HR4.out HP4.out (small_branch HSP.out _ _ (Or.inr rfl)) HI4.out (by omega) (fun x hx => HOP.out x (HRS.out x hx)) (by show (p.rows ++ [_]).length + _ ≤ _; rw [lap]; simp; omega) (by omega)).mono ?_
     rintro e w5 ⟨rfl, hr, hc, hw⟩
     have HR5 := Hd hr
     have CH5 := Hd (CH4.out.trans hc)
     have SM5 : Hid (wr.os = w5.os ∧ wr.tape = w5.tape ∧ wr.output = w5.output) := ⟨SM4.out.1.trans hw.1, SM4.out.2.1.trans hw.2.1, SM4.out.2.2.trans hw.2.2⟩
     clear hr hc hw
     go_wp2_with fail
     refine And.intro CH5.out ?_
     refine ⟨?_, ?_, ?_⟩
     rotate_left
     ·(iterate 2 ((refine ⟨_, ?_, rfl, Or.inl ⟨by rfl, ?_⟩, ?_⟩; rotate_left; focus (intro W hW; have kB := HBX6.out.chg hW (by decide); have k9 := H96.out.chg hW (by decide); obtain ⟨x0, x1, x2, x3⟩ := kB.c4; obtain ⟨y0, y1, y2, y3, y4, y5, y6⟩ := k9.c7; have l0 := kB.lt; have l1 := k9.lt; clear kB k9 hW; go_simp; try with_reducible rfl)); (try simp only [SQ])))
      exact rfl
     refine NoPanic.normal ?_
     go_wp2_with fail
     go_ret
     exact ⟨by rw [HE.out]; rfl, by rw [HE.out]; exact HR5.out, HC6.out.trans CH5.out, HW6.out.1.trans SM5.out.1, HW6.out.2.1.trans SM5.out.2.1, HW6.out.2.2.trans SM5.out.2.2⟩
structure TreeF where
 kind : Int
 x : List RawF
 ray : List RawF
 cases : List CaseF
def TR (w : World) (v : Value) (t : TreeF) : Prop := ∃ v1 v2 v3, v = .agg #[.int .i64 t.kind, v1, v2, v3] ∧ I64 t.kind ∧ FL w v1 t.x ∧ FL w v2 t.ray ∧ CL w v3 t.cases
theorem TR.of_below {w w1 : World} {v : Value} {t : TreeF} (h : TR w v t) (hb : Below w.heap.size w w1) : TR w1 v t := by
 obtain ⟨v1, v2, v3, e, hi, h1, h2, h3⟩ := h
 exact ⟨v1, v2, v3, e, hi, h1.below EF.stays hb, h2.below EF.stays hb, SL.below ECase.stays h3 hb⟩
theorem TR.opened {w : World} {v : Value} {t : TreeF} (h : TR w v t) : ∃ A1 c1 A2 c2 A3 c3, v = .agg #[.int .i64 t.kind, .slice A1 t.x.length c1, .slice A2 t.ray.length c2, .slice A3 t.cases.length c3] ∧ Hid (FL w (.slice A1 t.x.length c1) t.x) ∧ Hid (FL w (.slice A2 t.ray.length c2) t.ray) ∧ Hid (CL w (.slice A3 t.cases.length c3) t.cases) := by
 obtain ⟨v1, v2, v3, rfl, hi, h1, h2, h3⟩ := h
 exact sq45 _
noncomputable def atQ (l : List RawF) (v : Int) : Rat := (l.map fixQ).getD v.toNat 0
noncomputable def wholeBad (t : TreeF) (v : Int) : Bool := (decide (signQ (atQ t.x v) ≠ 0) && decide (ordQ (atQ t.x v) 1 ≠ 0)) || (decide (t.kind = 3) && (decide ((t.ray.length : Int) ≤ v) || decide (signQ (atQ t.ray v) ≠ 0)))
noncomputable def treeB (p : ProgF) (whole : List Int) (t : TreeF) : Bool :=
 if wholesP p whole ≠ 0 then false
 else if t.kind = 2 then (provesM t.cases none (t.cases.length + 1) (boundedQ p whole) 0 whole t.cases.length).1
 else if t.kind ≠ 1 ∧ t.kind ≠ 3 then false
 else if fitsB p t.x = false then false
 else if whole.any (wholeBad t) = true then false
 else if t.kind = 3 then goesB p t.ray
 else (provesM t.cases (some (valueP p t.x)) (t.cases.length + 1) (boundedQ p whole) 0 whole t.cases.length).1
theorem Rep.lim {Wr w : World} {AC : Option Addr} {nc cc left : Nat} {LIM : Value} {q : Rat} (h : Rep Wr AC nc cc (.pointer none) none left w) (hl : LimOK w LIM (some q)) : Rep Wr AC nc cc LIM (some q) left (w.setCell ⟨Wr.heap.size, 2, none⟩ LIM) := by
 have hw : ∀ u ∈ #[Value.slice AC nc cc, .int .i64 (left : Int), .pointer none], notWord u = true := by
  intro u hu
  simp only [List.mem_toArray, List.mem_cons, List.not_mem_nil, or_false] at hu
  rcases hu with rfl | rfl | rfl <;> rfl
 have hc := chg_put1 (base := Wr.heap.size) (j := 2) h.2.1 (Nat.le_refl _) hw LIM
 exact ⟨h.1.other1 (g := Wr.heap.size) (Nat.le_refl _) (by simp) 2 _, h.2.1.put 2 _, hl.chg hc (by decide)⟩
theorem wholesP_ok {p : ProgF} {l : List Int} (h : wholesP p l = 0) : rightP p = 0 ∧ distinctB p.vars l = true := by
 unfold wholesP at h
 split at h
 ·rename_i h1; exact absurd h h1
 ·rename_i h1
  split at h
  ·omega
  ·rename_i h2
   exact ⟨by omega, by simpa using h2⟩
theorem small_bounded (p : ProgF) (l : List Int) : SmallP (boundedQ p l) := by
 refine ⟨(small_clean p).1, fun r hr => ?_⟩
 rcases List.mem_append.1 hr with hr | hr
 ·exact (small_clean p).2 r hr
 ·obtain ⟨v, _, rfl⟩ := List.mem_map.1 hr
  exact small_unit _ _ _ _ (.inr rfl)
theorem PO.ofC {b0 b : Nat} {w : World} {v1 v2 v3 : Value} {p : ProgQ} (hf : FrO 0 w v1 p.free) (hq : QO b w v2 p.goal) (hr : RO b w v3 p.rows) (hi : I64 p.vars) (hb : b0 ≤ b) : PO b0 w (.agg #[.int .i64 p.vars, v1, v2, v3]) p :=
 ⟨v1, v2, v3, rfl, hi, hf.raise (Nat.zero_le _), hq.lower hb, RO.lower hr hb⟩
theorem I64.of_bounded {p : ProgF} {q : Prop} {r : Prop} {s : Prop} (h : q ∧ r ∧ 1 ≤ p.vars ∧ p.vars ≤ 160 ∧ s) : I64 p.vars := by unfold I64; have := h.2.2.1; have := h.2.2.2.1; omega
theorem IO.old {Wr w : World} {v : Value} {l : List Int} (h : IL Wr v l) (hb : Below Wr.heap.size Wr w) : IO Wr.heap.size w v l := by
 refine ⟨SL.below EI.stays h hb, fun g hg hl => .inl ?_⟩
 obtain ⟨A, c, rfl, _, hr⟩ := h
 obtain ⟨g', o, rfl, hg', _⟩ := hr hl
 simp only [Value.ownBlock] at hg
 by_cases ho : o = 0
 ·subst ho
  simp at hg
  omega
 ·simp [ho] at hg
  omega
theorem distinct_in {p : ProgF} {l : List Int} (h : distinctB p.vars l = true) : ∀ x ∈ l, 0 ≤ x ∧ x < (boundedQ p l).vars := by
 unfold distinctB at h
 exact (of_decide_eq_true h).1
theorem len_bounded (p : ProgF) (l : List Int) : (boundedQ p l).rows.length = p.rows.length + l.length := by
 show (_ ++ _ : List RowQ).length = _
 rw [lap, lmp, lmp]
theorem good_next {t : TreeF} {xs : List Int} {i : Nat} {y : Int} (h : ∀ (j : Nat) (x : Int), j < i → xs[j]? = some x → wholeBad t x = false) (hy : xs[i]? = some y) (hb : wholeBad t y = false) : ∀ (j : Nat) (x : Int), j < i + 1 → xs[j]? = some x → wholeBad t x = false := fun j x hj hx => by
 by_cases hji : j = i
 ·rw [hji, hy] at hx
  injection hx with e
  rw [← e]
  exact hb
 ·exact h j x (by omega) hx
theorem all_good {t : TreeF} {xs : List Int} (h : ∀ (j : Nat) (x : Int), j < xs.length → xs[j]? = some x → wholeBad t x = false) : xs.any (wholeBad t) = false := by
 rw [List.any_eq_false]
 intro x hx
 obtain ⟨j, hj⟩ := List.getElem?_of_mem hx
 rw [h j x (List.getElem?_eq_some_iff.1 hj).1 hj]
 simp
theorem atQ_at {l : List RawF} {n : Nat} {f : RawF} (h : l[n]? = some f) : atQ l (n : Int) = fixQ f := by
 unfold atQ
 rw [Int.toNat_natCast, gdd, List.getElem?_map, h]
 rfl
theorem sq14 (P : Prop) (h : P := by
 clear j0 j1 j2 k0 hgf hgx x0 x1 x2 x3 hlt1 y0 y1 y2 y3 hlt0
 obtain ⟨x0, x1, x2, x3⟩ := ((K1.out.step HR4.out.1.2).blk 1 rfl).c4
 have hlt1 := ((K1.out.step HR4.out.1.2).blk 1 rfl).lt
 obtain ⟨y0, y1, y2, y3⟩ := ((K1.out.step HR4.out.1.2).blk 0 rfl).c4
 have hlt0 := ((K1.out.step HR4.out.1.2).blk 0 rfl).lt
 have HBF : Hid (wholeBad t (n : Int) = (decide ((t.ray.length : Int) ≤ (n : Int)) || decide (signQ (atQ t.ray (n : Int)) ≠ 0))) := by unfold Hid wholeBad; rw [atQ_at HF1.out, HFI.out, ← HKD.out, HKI.out]; rfl
 by_cases r1 : t.ray.length ≤ n
 ·have r2 : decide (t.ray.length ≤ n) = true := decide_eq_true r1
  have r3 : (t.ray.length : Int) ≤ (n : Int) := by omega
  have HBD : Hid (wholeBad t (n : Int) = true) := by unfold Hid; rw [HBF.out, decide_eq_true r3]; rfl
  have HE3 : Hid (treeB p xs t = false) := by unfold Hid; rw [HE2.out, if_pos (List.any_eq_true.2 ⟨_, mog HX1.out, HBD.out⟩)]
  go_wp2_with fail
  go_ret
  exact ⟨by rw [HE3.out]; rfl, (below_next K1.out.2 HR4.out.1.2)⟩
 have r2 : decide (t.ray.length ≤ n) = false := decide_eq_false r1
 have r3 : (n : Int) < (t.ray.length : Int) := by omega
 have r4 : ¬ ((t.ray.length : Int) ≤ (n : Int)) := by omega
 obtain ⟨fr, hfr⟩ : ∃ f, t.ray[n]? = some f := ⟨t.ray[n]'(by omega), geq _⟩
 obtain ⟨gy, oy, D1, n1, e1, D2, n2, e2, rfl, hgy, j0, j1, j2, HFR⟩ := FL.at3 (HTR.out.below EF.stays (below_next K1.out.2 HR4.out.1.2)) hfr
 have HRA := Hd (atQ_at hfr)
 clear hfr
 go_wp2_with fail
 refine (sgn_calls _ _ fr HFR.out).mono ?_
 rintro e w9 ⟨rfl, hb⟩
 have HR9 := Hd (HR4.out.below hb)
 clear hb j0 j1 j2 x0 x1 x2 x3 hlt1 y0 y1 y2 y3 hlt0
 by_cases r5 : signQ (fixQ fr) = 0
 ·have r6 : (signQ (fixQ fr) != 0) = false := beqI r5
  have HNX : Hid (∀ (j : Nat) (x : Int), j < i + 1 → xs[j]? = some x → wholeBad t x = false) := good_next HA.out HX1.out (by rw [HBF.out, HRA.out, decide_eq_false (by omega), r5]; rfl)
  clear r5
  go_wp2_with fail
  go_roundw
  case rel => exact ⟨i + 1, by omega, by go_num, HNX.out, HR9.out⟩
  case measure => simp [intOf]; omega
 ·have r6 : (signQ (fixQ fr) != 0) = true := bneI r5
  have HBD : Hid (wholeBad t (n : Int) = true) := by unfold Hid; rw [HBF.out, HRA.out, decide_eq_true r5]; simp
  clear r5
  have HE3 : Hid (treeB p xs t = false) := by unfold Hid; rw [HE2.out, if_pos (List.any_eq_true.2 ⟨_, mog HX1.out, HBD.out⟩)]
  go_wp2_with fail
  go_ret
  exact ⟨by rw [HE3.out]; rfl, (below_next K1.out.2 HR9.out.1.2)⟩) : P := h
theorem sq33 (P : Prop) (h : P := by
 clear j0 j1 j2 k0 hgf hgx x0 x1 x2 x3 hlt1 y0 y1 y2 y3 hlt0
 have HNX : Hid (∀ (j : Nat) (x : Int), j < i + 1 → xs[j]? = some x → wholeBad t x = false) := good_next HA.out HX1.out (by unfold wholeBad; rw [atQ_at HF1.out, HFI.out, ← HKD.out, HKI.out]; rfl)
 obtain ⟨x0, x1, x2, x3⟩ := ((K1.out.step HR4.out.1.2).blk 1 rfl).c4
 have hlt1 := ((K1.out.step HR4.out.1.2).blk 1 rfl).lt
 obtain ⟨y0, y1, y2, y3⟩ := ((K1.out.step HR4.out.1.2).blk 0 rfl).c4
 have hlt0 := ((K1.out.step HR4.out.1.2).blk 0 rfl).lt
 go_wp2_with fail
 go_roundw
 case rel => exact ⟨i + 1, by omega, by go_num, HNX.out, HR4.out⟩
 case measure => simp [intOf]; omega) : P := h
theorem sq38 (P : Prop) (h : P := by
 have z4 : (ordQ (fixQ f) 1 != 0) = true := bneI z3
 have HBD : Hid (wholeBad t (n : Int) = true) := by unfold Hid wholeBad; rw [atQ_at HF1.out, decide_eq_true HZ1.out, decide_eq_true z3]; rfl
 clear z3
 go_wp2_with fail
 refine And.intro D4.out ?_
 refine ⟨?_, ?_, ?_⟩
 rotate_left
 ·(iterate 2 ((refine pu ?_); (try simp only [SQ])))
  exact rfl
 refine NoPanic.normal ?_
 have HE3 : Hid (treeB p xs t = false) := by unfold Hid; rw [HE2.out, if_pos (List.any_eq_true.2 ⟨_, mog HX1.out, HBD.out⟩)]
 go_wp2_with fail
 go_ret
 exact ⟨by rw [HE3.out]; rfl, (below_next K1.out.2 HR4.out.1.2)⟩) : P := h
theorem tree_calls (w : World) (v vx v2 : Value) (p : ProgF) (xs : List Int) (t : TreeF) (h : PR w v p) (hx : IL w vx xs) (h2 : TR w v2 t) (hxl : xs.length ≤ 10000) (hxi : ∀ x ∈ xs, I64 x) (hrl : p.rows.length ≤ 10000) (hcl : t.cases.length ≤ 1000000) (hxx : t.x.length ≤ 100000) (hry : t.ray.length ≤ 100000)
  (hlc : ∀ c ∈ t.cases, c.cert.x.length ≤ 100000 ∧ c.cert.y.length ≤ 100000 ∧ c.cert.ray.length ≤ 100000) : Calls Try.prog 38 #[v, vx, v2] w fun e w' => BPost w (treeB p xs t) e w' := by
 have HP := Hd h
 have HX := Hd hx
 have HT := Hd h2
 have HXI := Hd hxi
 have HLC := Hd hlc
 obtain ⟨X1, xc, rfl, _⟩ := hx.slice
 obtain ⟨A1, c1, A2, c2, A3, c3, rfl, HI, H1, H2, H3⟩ := h.opened
 obtain ⟨B1, d1, B2, d2, B3, d3, rfl, HTX, HTR, HTC⟩ := h2.opened
 clear h hx h2 hxi hlc
 obtain ⟨vars, hv⟩ : ∃ n, n = p.vars := ⟨_, rfl⟩
 rw [← hv] at HP ⊢
 have HV := Hd hv
 obtain ⟨kd, hkd⟩ : ∃ n, n = t.kind := ⟨_, rfl⟩
 rw [← hkd] at HT ⊢
 have HKD := Hd hkd
 clear hv hkd
 go_enter Try.func38, Try.ntmps38
 go_wp2_with fail
 have K0 := Hd (HS.two (w := w) #[.int .i64 vars, .slice A1 p.free.length c1, .slice A2 p.goal.length c2, .slice A3 p.rows.length c3] #[.int .i64 kd, .slice B1 t.x.length d1, .slice B2 t.ray.length d2, .slice B3 t.cases.length d3] 26 56)
 generalize (w.alloc (.cells #[.int .i64 vars, .slice A1 p.free.length c1, .slice A2 p.goal.length c2, .slice A3 p.rows.length c3] 26)).alloc (.cells #[.int .i64 kd, .slice B1 t.x.length d1, .slice B2 t.ray.length d2, .slice B3 t.cases.length d3] 56) = W0 at *
 refine (wholes_calls W0 _ _ p xs (HP.out.of_below K0.out.2) (HX.out.below EI.stays K0.out.2) (by omega) HXI.out).mono ?_
 rintro e w1 ⟨rfl, hb⟩
 have K1 := Hd (K0.out.step hb)
 clear hb K0
 obtain ⟨x0, x1, x2, x3⟩ := (K1.out.blk 1 rfl).c4
 have hlt1 := (K1.out.blk 1 rfl).lt
 obtain ⟨y0, y1, y2, y3⟩ := (K1.out.blk 0 rfl).c4
 have hlt0 := (K1.out.blk 0 rfl).lt
 by_cases q1 : wholesP p xs = 0
 case neg =>
  have u1 : (wholesP p xs != 0) = true := bneI q1
  have HE : Hid (treeB p xs t = false) := by unfold Hid treeB; rw [if_pos q1]
  clear q1
  go_wp2_with fail
  go_ret
  exact ⟨by rw [HE.out]; rfl, K1.out.2⟩
 have u1 : (wholesP p xs != 0) = false := beqI q1
 have HR0 := Hd (wholesP_ok q1).1
 have HD := Hd (wholesP_ok q1).2
 have HPV := Hd (rightP_len (wholesP_ok q1).1)
 have HE0 : Hid (treeB p xs t = if t.kind = 2 then (provesM t.cases none (t.cases.length + 1) (boundedQ p xs) 0 xs t.cases.length).1 else if t.kind ≠ 1 ∧ t.kind ≠ 3 then false else if fitsB p t.x = false then false else if xs.any (wholeBad t) = true then false else if t.kind = 3 then goesB p t.ray else (provesM t.cases (some (valueP p t.x)) (t.cases.length + 1) (boundedQ p xs) 0 xs t.cases.length).1) := by
  unfold Hid treeB; rw [if_neg (by simp [q1])]
 rw [← HKD.out] at HE0
 clear q1
 by_cases k2 : kd = 2
 case pos =>
  have v2 : (kd == 2) = true := beqI' k2
  have HE1 : Hid (treeB p xs t = (provesM t.cases none (t.cases.length + 1) (boundedQ p xs) 0 xs t.cases.length).1) := by unfold Hid; rw [HE0.out, if_pos k2]
  clear k2
  go_wp2_with fail
  have hbn := below_new w1 (.cells #[.slice B3 t.cases.length d3, .int .i64 (t.cases.length : Int), .pointer none] 97)
  have HRP := Hd (show Rep w1 B3 t.cases.length d3 (.pointer none) none t.cases.length (w1.alloc (.cells #[.slice B3 t.cases.length d3, .int .i64 (t.cases.length : Int), .pointer none] 97)) from ⟨(HS.nil w1).step hbn, Blk.new w1 97 #[.slice B3 t.cases.length d3, .int .i64 (t.cases.length : Int), .pointer none], rfl⟩)
  have K2 := Hd (K1.out.step hbn)
  clear hbn x0 x1 x2 x3 y0 y1 y2 y3 hlt1 hlt0
  refine (bounded_calls _ _ _ p xs (HP.out.of_below K2.out.2) (HX.out.below EI.stays K2.out.2) (by omega) HR0.out HD.out).mono ?_
  rintro e w2 ⟨v4, v5, v6, rfl, hfo, hqo, hro, hb⟩
  have HRP2 := Hd (HRP.out.below hb)
  have HPB := Hd (PO.ofC hfo hqo hro (I64.of_bounded HPV.out) HRP.out.1.2.size)
  have HXB := Hd (HX.out.below EI.stays (K2.out.step hb).2)
  have HXO := Hd (IO.old (HX.out.below EI.stays K1.out.2) HRP2.out.1.2)
  clear hfo hqo hro hb
  go_wp2_with fail
  refine (proves_calls (SL.below ECase.stays HTC.out K1.out.2) HLC.out hcl (t.cases.length + 1) _ _ _ (boundedQ p xs) 0 xs t.cases.length HRP2.out HPB.out (small_bounded p xs) HXO.out (by omega) (distinct_in HD.out) (by rw [len_bounded]; omega) hcl).mono ?_
  rintro e w3 ⟨rfl, hrz, _, _⟩
  have HRZ := Hd hrz
  clear hrz
  go_wp2_with fail
  go_ret
  exact ⟨by rw [HE1.out]; rfl, below_next K1.out.2 HRZ.out.1.2⟩
 have v2 : (kd == 2) = false := bneI' k2
 have hbn := below_new w1 (.cells #[.slice B3 t.cases.length d3, .int .i64 (t.cases.length : Int), .pointer none] 97)
 have HRP := Hd (show Rep w1 B3 t.cases.length d3 (.pointer none) none t.cases.length (w1.alloc (.cells #[.slice B3 t.cases.length d3, .int .i64 (t.cases.length : Int), .pointer none] 97)) from ⟨(HS.nil w1).step hbn, Blk.new w1 97 #[.slice B3 t.cases.length d3, .int .i64 (t.cases.length : Int), .pointer none], rfl⟩)
 have K2 := Hd (K1.out.step hbn)
 have HZ1 := Hd (rfl : w1.heap.size = w1.heap.size)
 clear hbn
 by_cases k13 : kd ≠ 1 ∧ kd ≠ 3
 case pos =>
  have v1 : (kd != 1) = true := bneI k13.1
  have v3 : (kd != 3) = true := bneI k13.2
  have HE1 : Hid (treeB p xs t = false) := by unfold Hid; rw [HE0.out, if_neg k2, if_pos k13]
  clear k2 k13
  go_wp2_with fail
  go_ret
  exact ⟨by rw [HE1.out]; rfl, K2.out.2⟩
 have HE1 : Hid (treeB p xs t = if fitsB p t.x = false then false else if xs.any (wholeBad t) = true then false else if kd = 3 then goesB p t.ray else (provesM t.cases (some (valueP p t.x)) (t.cases.length + 1) (boundedQ p xs) 0 xs t.cases.length).1) := by unfold Hid; rw [HE0.out, if_neg k2, if_neg k13]
 have HK13 : Hid ((kd = 1 ∧ (kd == 3) = false) ∨ (kd = 3 ∧ (kd == 3) = true)) := by
  by_cases h3 : kd = 3
  ·exact .inr ⟨h3, beqI' h3⟩
  ·exact .inl ⟨Classical.byContradiction fun h1 => k13 ⟨h1, h3⟩, bneI' h3⟩
 have HK3 : Hid (((kd != 1) && (kd != 3)) = false) := by
  rcases HK13.out with ⟨h, _⟩ | ⟨h, _⟩ <;> rw [h] <;> rfl
 clear k2 k13 HE0
 have HX2 := Hd (HX.out.below EI.stays K1.out.2)
 rcases HK13.out with ⟨k1, w3⟩ | ⟨k1, w3⟩
 ·have v1 : (kd != 1) = false := beqI k1
  have HKI := Hd k1
  clear k1
  go_wp2_with fail
  clear x0 x1 x2 x3 hlt1 y0 y1 y2 y3 hlt0
  refine (fits_calls _ _ _ p t.x (HP.out.of_below K2.out.2) (HTX.out.below EF.stays K2.out.2) HR0.out).mono ?_
  rintro e w2 ⟨rfl, hb⟩
  have HRP3 := Hd (HRP.out.below hb)
  clear hb
  obtain ⟨x0, x1, x2, x3⟩ := ((K1.out.step HRP3.out.1.2).blk 1 rfl).c4
  have hlt1 := ((K1.out.step HRP3.out.1.2).blk 1 rfl).lt
  obtain ⟨y0, y1, y2, y3⟩ := ((K1.out.step HRP3.out.1.2).blk 0 rfl).c4
  have hlt0 := ((K1.out.step HRP3.out.1.2).blk 0 rfl).lt
  cases hf : fitsB p t.x
  case false =>
   have HE : Hid (treeB p xs t = false) := by unfold Hid; rw [HE1.out, if_pos hf]
   clear hf
   go_wp2_with fail
   go_ret
   exact ⟨by rw [HE.out]; rfl, (below_next K1.out.2 HRP3.out.1.2)⟩
  have HE2 : Hid (treeB p xs t = if xs.any (wholeBad t) = true then false else if kd = 3 then goesB p t.ray else (provesM t.cases (some (valueP p t.x)) (t.cases.length + 1) (boundedQ p xs) 0 xs t.cases.length).1) := by unfold Hid; rw [HE1.out, if_neg (by rw [hf]; simp)]
  have HXLN : Hid ((t.x.length : Int) = p.vars) := by
   unfold fitsB at hf
   simp only [Bool.and_eq_true, decide_eq_true_eq] at hf
   exact hf.1.1
  clear hf
  go_wp2_with fail
  clear x0 x1 x2 x3 hlt1 y0 y1 y2 y3 hlt0
  go_loopw [48] (fun vi wr => ∃ i : Nat, i ≤ xs.length ∧ vi = .int .i64 (i : Int) ∧ (∀ (j : Nat) (x : Int), j < i → xs[j]? = some x → wholeBad t x = false) ∧ Rep w1 B3 t.cases.length d3 (.pointer none) none t.cases.length wr) (fun vi _ => xs.length - (intOf vi).toNat)
  case atStart => exact ⟨0, Nat.zero_le _, rfl, fun j _ h => absurd h (Nat.not_lt_zero _), HRP3.out⟩
  case round =>
   obtain ⟨i, hi, rfl, hall, hrw⟩ := hrel
   have HA := Hd hall
   have HRw := Hd hrw
   clear hall hrw HRP3
   obtain ⟨x0, x1, x2, x3⟩ := ((K1.out.step HRw.out.1.2).blk 1 rfl).c4
   have hlt1 := ((K1.out.step HRw.out.1.2).blk 1 rfl).lt
   obtain ⟨y0, y1, y2, y3⟩ := ((K1.out.step HRw.out.1.2).blk 0 rfl).c4
   have hlt0 := ((K1.out.step HRw.out.1.2).blk 0 rfl).lt
   by_cases hlt : i < xs.length
   ·obtain ⟨x, hx⟩ : ∃ x, xs[i]? = some x := ⟨xs[i], geq hlt⟩
    obtain ⟨gx, ox, rfl, hgx, k0⟩ := IL.at1 (HX2.out.below EI.stays HRw.out.1.2) hx
    have HX1 := Hd hx
    have hxr : 0 ≤ x ∧ x < p.vars := by
     have := HD.out
     unfold distinctB at this
     exact (of_decide_eq_true this).1 x (mog hx)
    obtain ⟨n, rfl⟩ : ∃ n : Nat, x = n := ⟨x.toNat, by omega⟩
    have hnl : n < t.x.length := by have := HXLN.out; omega
    obtain ⟨f, hf⟩ : ∃ f, t.x[n]? = some f := ⟨t.x[n], geq hnl⟩
    obtain ⟨gf, of, C1, n1, e1, C2, n2, e2, rfl, hgf, j0, j1, j2, HFF⟩ := FL.at3 (HTX.out.below EF.stays (below_next K1.out.2 HRw.out.1.2)) hf
    have HF1 := Hd hf
    have m1 : (i : Int) < (xs.length : Int) := by omega
    have m2 : (n : Int) < (t.x.length : Int) := by omega
    have m3 : (i : Int).toNat = i := by omega
    have m5 : (n : Int).toNat = n := by omega
    have m4 : (0 : Int) ≤ (i : Int) := by omega
    have m6 : (0 : Int) ≤ (n : Int) := by omega
    clear hx hf hxr
    go_wp2_with fail
    refine wp_chainS (S := Below wr.heap.size wr) [([0, 1, 2, 3, 4], 5), ([6, 7, 8, 9, 10, 11, 12], 13), ([], 14)] [15, 16] (by kernel_rfl) (by kernel_rfl) (by kernel_rfl) rfl Bd ?_
    refine ⟨?_, _, ?_, rfl, ?_⟩
    rotate_left
    ·(iterate 5 ((refine pu ?_); (try simp only [SQ])))
     exact rfl
    have D0 : Hid (Below wr.heap.size wr wr.drew) := Bd
    go_wp2_with fail
    refine (sgn_calls _ _ f (HFF.out.of_below D0.out)).mono ?_
    rintro e w4 ⟨rfl, hb⟩
    have D2 := Hd (below_next D0.out hb)
    clear hb
    by_cases z1 : signQ (fixQ f) = 0
    ·have z2 : (signQ (fixQ f) != 0) = false := beqI z1
     have HFI : Hid ((decide (signQ (fixQ f) ≠ 0) && decide (ordQ (fixQ f) 1 ≠ 0)) = false) := by unfold Hid; rw [z1]; rfl
     clear z1
     go_wp2_with fail
     refine And.intro D2.out ⟨?_, _, ?_, rfl, ?_⟩
     rotate_left
     ·(iterate 2 ((refine pu ?_); (try simp only [SQ]))); (iterate 5 ((refine pn ?_); (try simp only [SQ])))
      exact rfl
     refine chain_skip (by kernel_rfl) (And.intro D2.out ?_)
     (try simp only [SQ])
     refine ⟨_, _, rfl, rfl, ?_⟩
     refine chain_skip (by kernel_rfl) (And.intro D2.out ?_)
     (try simp only [SQ])
     refine ⟨?_, ?_, ?_⟩
     rotate_left
     ·((refine pn ?_); (try simp only [SQ])); ((refine pu ?_); (try simp only [SQ]))
      exact rfl
     refine NoPanic.normal ?_
     have HR4 := Hd (HRw.out.below D2.out)
     exact sq33 _
    have z2 : (signQ (fixQ f) != 0) = true := bneI z1
    have HZ1 := Hd z1
    clear z1
    go_wp2_with fail
    refine And.intro D2.out ⟨?_, _, ?_, rfl, ?_⟩
    rotate_left
    ·(iterate 7 ((refine pu ?_); (try simp only [SQ])))
     exact rfl
    go_wp2_with fail
    refine (number_calls _ 1 (by omega) (by omega)).mono ?_
    rintro e w5 ⟨v, rfl, hv, hb⟩
    obtain ⟨E1, h1, i1, E2, h2, i2, rfl, HV5⟩ := hv.opened
    have D3 := Hd (below_next D2.out hb)
    clear hv hb
    go_wp2_with fail
    refine And.intro D3.out ⟨_, _, rfl, rfl, ?_⟩
    go_wp2_with fail
    refine (fcmp_calls _ _ _ f (rawQ 1) (HFF.out.of_below D3.out) (FR.of_fq HV5.out small_one)).mono ?_
    rintro e w6 ⟨rfl, hb⟩
    rw [fixQ_raw _ small_one]
    have D4 := Hd (below_next D3.out hb)
    have HR4 := Hd (HRw.out.below D4.out)
    clear hb
    by_cases z3 : ordQ (fixQ f) 1 = 0
    ·have z4 : (ordQ (fixQ f) 1 != 0) = false := beqI z3
     have HFI : Hid ((decide (signQ (fixQ f) ≠ 0) && decide (ordQ (fixQ f) 1 ≠ 0)) = false) := by unfold Hid; rw [z3]; simp
     clear z3
     go_wp2_with fail
     refine And.intro D4.out ?_
     refine ⟨?_, ?_, ?_⟩
     rotate_left
     ·(iterate 2 ((refine pu ?_); (try simp only [SQ])))
      exact rfl
     refine NoPanic.normal ?_
     exact sq33 _
    exact sq38 _
   ·obtain rfl : i = xs.length := by omega
    have HAF : Hid (xs.any (wholeBad t) = false) := all_good HA.out
    go_wp2_with fail
    refine (value_calls _ _ _ p t.x (HP.out.of_below (below_next K1.out.2 HRw.out.1.2)) (HTX.out.below EF.stays (below_next K1.out.2 HRw.out.1.2))).mono ?_
    rintro e w5 ⟨v, rfl, hv, hb⟩
    obtain ⟨E1, h1, i1, E2, h2, i2, rfl, HV5⟩ := hv.opened
    have HR5 := Hd (HRw.out.below hb)
    clear hv hb x0 x1 x2 x3 hlt1 y0 y1 y2 y3 hlt0
    obtain ⟨x0, x1, x2, x3⟩ := ((K1.out.step HR5.out.1.2).blk 1 rfl).c4
    have hlt1 := ((K1.out.step HR5.out.1.2).blk 1 rfl).lt
    obtain ⟨y0, y1, y2, y3⟩ := ((K1.out.step HR5.out.1.2).blk 0 rfl).c4
    have hlt0 := ((K1.out.step HR5.out.1.2).blk 0 rfl).lt
    obtain ⟨r0, r1, r2⟩ := HR5.out.2.1.c3
    obtain ⟨f0, f1, f2⟩ := HR5.out.2.1.f3
    have hltr := HR5.out.2.1.lt
    have hne1 : w.heap.size ≠ w1.heap.size := Nat.ne_of_lt (K1.out.blk 1 rfl).lt
    have hne0 : w.heap.size + 1 ≠ w1.heap.size := Nat.ne_of_lt (K1.out.blk 0 rfl).lt
    go_wp2_with fail
    have hww : ∀ u ∈ #[Value.slice B3 t.cases.length d3, .int .i64 (t.cases.length : Int), .pointer none], notWord u = true := by
     intro u hu
     simp only [List.mem_toArray, List.mem_cons, List.not_mem_nil, or_false] at hu
     rcases hu with rfl | rfl | rfl <;> rfl
    have hcp := chg_put1 (base := w1.heap.size) (j := 2) HR5.out.2.1 (Nat.le_refl _) hww (.pointer (some ⟨w5.heap.size, 0, none⟩))
    have hbn := below_new (w5.setCell ⟨w1.heap.size, 2, none⟩ (.pointer (some ⟨w5.heap.size, 0, none⟩))) (.cells #[.bool (negQ (valueP p t.x)), .slice E1 h1 i1, .slice E2 h2 i2] 40)
    have HRP2 := Hd (show Rep w1 B3 t.cases.length d3 (.pointer (some ⟨w5.heap.size, 0, none⟩)) (some (valueP p t.x)) t.cases.length ((w5.setCell ⟨w1.heap.size, 2, none⟩ (.pointer (some ⟨w5.heap.size, 0, none⟩))).alloc (.cells #[.bool (negQ (valueP p t.x)), .slice E1 h1 i1, .slice E2 h2 i2] 40)) from ⟨(HR5.out.1.other1 (g := w1.heap.size) (Nat.le_refl _) (by simp) 2 _).step hbn, (HR5.out.2.1.put 2 _).below hbn (HR5.out.2.1.put 2 _).lt, value_small p t.x, w5.heap.size, E1, h1, i1, E2, h2, i2, rfl, Blk.newAt (by simp), (HV5.out.keeps hcp.1).of_below hbn⟩)
    clear hww hcp hbn r0 r1 r2 f0 f1 f2 hltr hne1 hne0 x0 x1 x2 x3 hlt1 y0 y1 y2 y3 hlt0
    generalize (w5.setCell ⟨w1.heap.size, 2, none⟩ (.pointer (some ⟨w5.heap.size, 0, none⟩))).alloc (.cells #[.bool (negQ (valueP p t.x)), .slice E1 h1 i1, .slice E2 h2 i2] 40) = W6 at *
    refine (bounded_calls _ _ _ p xs (HP.out.of_below (below_next K1.out.2 HRP2.out.1.2)) (HX2.out.below EI.stays HRP2.out.1.2) (by omega) HR0.out HD.out).mono ?_
    rintro e w8 ⟨v4, v5, v6, rfl, hfo, hqo, hro, hb⟩
    have HRP4 := Hd (HRP2.out.below hb)
    have HPB := Hd (PO.ofC hfo hqo hro (I64.of_bounded HPV.out) HRP2.out.1.2.size)
    have HXO := Hd (IO.old HX2.out HRP4.out.1.2)
    clear hfo hqo hro hb
    go_wp2_with fail
    refine (proves_calls (SL.below ECase.stays HTC.out K1.out.2) HLC.out hcl (t.cases.length + 1) _ _ _ (boundedQ p xs) 0 xs t.cases.length HRP4.out HPB.out (small_bounded p xs) HXO.out (by omega) (distinct_in HD.out) (by rw [len_bounded]; omega) hcl).mono ?_
    rintro e w9 ⟨rfl, hrz, _, _⟩
    have HRZ := Hd hrz
    clear hrz
    have HE3 : Hid (treeB p xs t = (provesM t.cases (some (valueP p t.x)) (t.cases.length + 1) (boundedQ p xs) 0 xs t.cases.length).1) := by unfold Hid; rw [HE2.out, if_neg (by rw [HAF.out]; simp), if_neg (by rw [HKI.out]; decide)]
    go_wp2_with fail
    go_ret
    exact ⟨by rw [HE3.out]; rfl, (below_next K1.out.2 HRZ.out.1.2)⟩
 ·have v1 : (kd != 1) = true := bneI (by omega)
  have v3 : (kd != 3) = false := beqI k1
  have HKI := Hd k1
  clear k1
  go_wp2_with fail
  clear x0 x1 x2 x3 hlt1 y0 y1 y2 y3 hlt0
  refine (fits_calls _ _ _ p t.x (HP.out.of_below K2.out.2) (HTX.out.below EF.stays K2.out.2) HR0.out).mono ?_
  rintro e w2 ⟨rfl, hb⟩
  have HRP3 := Hd (HRP.out.below hb)
  clear hb
  obtain ⟨x0, x1, x2, x3⟩ := ((K1.out.step HRP3.out.1.2).blk 1 rfl).c4
  have hlt1 := ((K1.out.step HRP3.out.1.2).blk 1 rfl).lt
  obtain ⟨y0, y1, y2, y3⟩ := ((K1.out.step HRP3.out.1.2).blk 0 rfl).c4
  have hlt0 := ((K1.out.step HRP3.out.1.2).blk 0 rfl).lt
  cases hf : fitsB p t.x
  case false =>
   have HE : Hid (treeB p xs t = false) := by unfold Hid; rw [HE1.out, if_pos hf]
   clear hf
   go_wp2_with fail
   go_ret
   exact ⟨by rw [HE.out]; rfl, (below_next K1.out.2 HRP3.out.1.2)⟩
  have HE2 : Hid (treeB p xs t = if xs.any (wholeBad t) = true then false else if kd = 3 then goesB p t.ray else (provesM t.cases (some (valueP p t.x)) (t.cases.length + 1) (boundedQ p xs) 0 xs t.cases.length).1) := by unfold Hid; rw [HE1.out, if_neg (by rw [hf]; simp)]
  have HXLN : Hid ((t.x.length : Int) = p.vars) := by
   unfold fitsB at hf
   simp only [Bool.and_eq_true, decide_eq_true_eq] at hf
   exact hf.1.1
  clear hf
  go_wp2_with fail
  clear x0 x1 x2 x3 hlt1 y0 y1 y2 y3 hlt0
  go_loopw [48] (fun vi wr => ∃ i : Nat, i ≤ xs.length ∧ vi = .int .i64 (i : Int) ∧ (∀ (j : Nat) (x : Int), j < i → xs[j]? = some x → wholeBad t x = false) ∧ Rep w1 B3 t.cases.length d3 (.pointer none) none t.cases.length wr) (fun vi _ => xs.length - (intOf vi).toNat)
  case atStart => exact ⟨0, Nat.zero_le _, rfl, fun j _ h => absurd h (Nat.not_lt_zero _), HRP3.out⟩
  case round =>
   obtain ⟨i, hi, rfl, hall, hrw⟩ := hrel
   have HA := Hd hall
   have HRw := Hd hrw
   clear hall hrw HRP3
   obtain ⟨x0, x1, x2, x3⟩ := ((K1.out.step HRw.out.1.2).blk 1 rfl).c4
   have hlt1 := ((K1.out.step HRw.out.1.2).blk 1 rfl).lt
   obtain ⟨y0, y1, y2, y3⟩ := ((K1.out.step HRw.out.1.2).blk 0 rfl).c4
   have hlt0 := ((K1.out.step HRw.out.1.2).blk 0 rfl).lt
   by_cases hlt : i < xs.length
   ·obtain ⟨x, hx⟩ : ∃ x, xs[i]? = some x := ⟨xs[i], geq hlt⟩
    obtain ⟨gx, ox, rfl, hgx, k0⟩ := IL.at1 (HX2.out.below EI.stays HRw.out.1.2) hx
    have HX1 := Hd hx
    have hxr : 0 ≤ x ∧ x < p.vars := by
     have := HD.out
     unfold distinctB at this
     exact (of_decide_eq_true this).1 x (mog hx)
    obtain ⟨n, rfl⟩ : ∃ n : Nat, x = n := ⟨x.toNat, by omega⟩
    have hnl : n < t.x.length := by have := HXLN.out; omega
    obtain ⟨f, hf⟩ : ∃ f, t.x[n]? = some f := ⟨t.x[n], geq hnl⟩
    obtain ⟨gf, of, C1, n1, e1, C2, n2, e2, rfl, hgf, j0, j1, j2, HFF⟩ := FL.at3 (HTX.out.below EF.stays (below_next K1.out.2 HRw.out.1.2)) hf
    have HF1 := Hd hf
    have m1 : (i : Int) < (xs.length : Int) := by omega
    have m2 : (n : Int) < (t.x.length : Int) := by omega
    have m3 : (i : Int).toNat = i := by omega
    have m5 : (n : Int).toNat = n := by omega
    have m4 : (0 : Int) ≤ (i : Int) := by omega
    have m6 : (0 : Int) ≤ (n : Int) := by omega
    clear hx hf hxr
    go_wp2_with fail
    refine wp_chainS (S := Below wr.heap.size wr) [([0, 1, 2, 3, 4], 5), ([6, 7, 8, 9, 10, 11, 12], 13), ([], 14)] [15, 16] (by kernel_rfl) (by kernel_rfl) (by kernel_rfl) rfl Bd ?_
    refine ⟨?_, _, ?_, rfl, ?_⟩
    rotate_left
    ·(iterate 5 ((refine pu ?_); (try simp only [SQ])))
     exact rfl
    have D0 : Hid (Below wr.heap.size wr wr.drew) := Bd
    go_wp2_with fail
    refine (sgn_calls _ _ f (HFF.out.of_below D0.out)).mono ?_
    rintro e w4 ⟨rfl, hb⟩
    have D2 := Hd (below_next D0.out hb)
    clear hb
    by_cases z1 : signQ (fixQ f) = 0
    ·have z2 : (signQ (fixQ f) != 0) = false := beqI z1
     have HFI : Hid ((decide (signQ (fixQ f) ≠ 0) && decide (ordQ (fixQ f) 1 ≠ 0)) = false) := by unfold Hid; rw [z1]; rfl
     clear z1
     go_wp2_with fail
     refine And.intro D2.out ⟨?_, _, ?_, rfl, ?_⟩
     rotate_left
     ·(iterate 2 ((refine pu ?_); (try simp only [SQ]))); (iterate 5 ((refine pn ?_); (try simp only [SQ])))
      exact rfl
     refine chain_skip (by kernel_rfl) (And.intro D2.out ?_)
     (try simp only [SQ])
     refine ⟨_, _, rfl, rfl, ?_⟩
     refine chain_skip (by kernel_rfl) (And.intro D2.out ?_)
     (try simp only [SQ])
     refine ⟨?_, ?_, ?_⟩
     rotate_left
     ·((refine pn ?_); (try simp only [SQ])); ((refine pu ?_); (try simp only [SQ]))
      exact rfl
     refine NoPanic.normal ?_
     have HR4 := Hd (HRw.out.below D2.out)
     exact sq14 _
    have z2 : (signQ (fixQ f) != 0) = true := bneI z1
    have HZ1 := Hd z1
    clear z1
    go_wp2_with fail
    refine And.intro D2.out ⟨?_, _, ?_, rfl, ?_⟩
    rotate_left
    ·(iterate 7 ((refine pu ?_); (try simp only [SQ])))
     exact rfl
    go_wp2_with fail
    refine (number_calls _ 1 (by omega) (by omega)).mono ?_
    rintro e w5 ⟨v, rfl, hv, hb⟩
    obtain ⟨E1, h1, i1, E2, h2, i2, rfl, HV5⟩ := hv.opened
    have D3 := Hd (below_next D2.out hb)
    clear hv hb
    go_wp2_with fail
    refine And.intro D3.out ⟨_, _, rfl, rfl, ?_⟩
    go_wp2_with fail
    refine (fcmp_calls _ _ _ f (rawQ 1) (HFF.out.of_below D3.out) (FR.of_fq HV5.out small_one)).mono ?_
    rintro e w6 ⟨rfl, hb⟩
    rw [fixQ_raw _ small_one]
    have D4 := Hd (below_next D3.out hb)
    have HR4 := Hd (HRw.out.below D4.out)
    clear hb
    by_cases z3 : ordQ (fixQ f) 1 = 0
    ·have z4 : (ordQ (fixQ f) 1 != 0) = false := beqI z3
     have HFI : Hid ((decide (signQ (fixQ f) ≠ 0) && decide (ordQ (fixQ f) 1 ≠ 0)) = false) := by unfold Hid; rw [z3]; simp
     clear z3
     go_wp2_with fail
     refine And.intro D4.out ?_
     refine ⟨?_, ?_, ?_⟩
     rotate_left
     ·(iterate 2 ((refine pu ?_); (try simp only [SQ])))
      exact rfl
     refine NoPanic.normal ?_
     exact sq14 _
    exact sq38 _
   ·obtain rfl : i = xs.length := by omega
    have HAF : Hid (xs.any (wholeBad t) = false) := all_good HA.out
    go_wp2_with fail
    refine (goes_calls _ _ _ p t.ray (HP.out.of_below (below_next K1.out.2 HRw.out.1.2)) (HTR.out.below EF.stays (below_next K1.out.2 HRw.out.1.2)) HR0.out).mono ?_
    rintro e w9 ⟨rfl, hb⟩
    have HR9 := Hd (HRw.out.below hb)
    clear hb
    have HE3 : Hid (treeB p xs t = goesB p t.ray) := by unfold Hid; rw [HE2.out, if_neg (by rw [HAF.out]; simp), if_pos HKI.out]
    go_wp2_with fail
    go_ret
    exact ⟨by rw [HE3.out]; rfl, (below_next K1.out.2 HR9.out.1.2)⟩
def ER0 (w : World) (vs : Array Value) (r : RowF) : Prop := r.a.length ≤ 9223372036854775807 ∧ ∃ v A1 n1 c1 A2 n2 c2, vs = #[v, .int .i64 r.s, .bool r.b.neg, .slice A1 n1 c1, .slice A2 n2 c2] ∧ I64 r.s ∧ FL0 w v r.a ∧ FR0 w (.agg #[.bool r.b.neg, .slice A1 n1 c1, .slice A2 n2 c2]) r.b
abbrev RL0 (w : World) (v : Value) (rs : List RowF) : Prop := SL 5 ER0 w v rs
def PG0 (w : World) (v : Value) (p : ProgF) : Prop := (p.free.length ≤ 9223372036854775807 ∧ p.goal.length ≤ 9223372036854775807 ∧ p.rows.length ≤ 9223372036854775807) ∧ ∃ v1 v2 v3, v = .agg #[.int .i64 p.vars, v1, v2, v3] ∧ I64 p.vars ∧ BL w v1 p.free ∧ FL0 w v2 p.goal ∧ RL0 w v3 p.rows
theorem ER0.stays : Stays ER0 := fun _ _ _ _ h hb => by
 obtain ⟨hl, v, A1, n1, c1, A2, n2, c2, e, hs, h1, h2⟩ := h
 exact ⟨hl, v, A1, n1, c1, A2, n2, c2, e, hs, h1.below EF0.stays hb, h2.of_below hb⟩
theorem PG0.of_below {w w1 : World} {v : Value} {p : ProgF} (h : PG0 w v p) (hb : Below w.heap.size w w1) : PG0 w1 v p := by
 obtain ⟨hl, v1, v2, v3, e, hv, h1, h2, h3⟩ := h
 exact ⟨hl, v1, v2, v3, e, hv, h1.below EB.stays hb, h2.below EF0.stays hb, h3.below ER0.stays hb⟩
theorem PG0.opened {w : World} {v : Value} {p : ProgF} (h : PG0 w v p) : ∃ A1 c1 A2 c2 A3 c3, v = .agg #[.int .i64 p.vars, .slice A1 p.free.length c1, .slice A2 p.goal.length c2, .slice A3 p.rows.length c3] ∧ Hid (I64 p.vars) ∧ Hid (BL w (.slice A1 p.free.length c1) p.free) ∧ Hid (FL0 w (.slice A2 p.goal.length c2) p.goal) ∧ Hid (RL0 w (.slice A3 p.rows.length c3) p.rows) := by
 obtain ⟨_, v1, v2, v3, rfl, hv, h1, h2, h3⟩ := h
 obtain ⟨A1, c1, rfl, _⟩ := h1.slice
 obtain ⟨A2, c2, rfl, _⟩ := h2.slice
 obtain ⟨A3, c3, rfl, _⟩ := h3.slice
 exact ⟨A1, c1, A2, c2, A3, c3, rfl, hv, h1, h2, h3⟩
theorem RL0.at5 {w : World} {A : Option Addr} {n c : Nat} {rs : List RowF} (h : RL0 w (.slice A n c) rs) {j : Nat} {r : RowF} (hj : rs[j]? = some r) :
  ∃ g o A1 c1 A2 c2 A3 c3, A = some ⟨g, o, none⟩ ∧ g < w.heap.size ∧ w.cell? ⟨g, o + j * 5, none⟩ = some (.slice A1 r.a.length c1) ∧ w.cell? ⟨g, o + j * 5 + 1, none⟩ = some (.int .i64 r.s) ∧ w.cell? ⟨g, o + j * 5 + 2, none⟩ = some (.bool r.b.neg) ∧
   w.cell? ⟨g, o + j * 5 + 3, none⟩ = some (.slice A2 r.b.num.length c2) ∧ w.cell? ⟨g, o + j * 5 + 4, none⟩ = some (.slice A3 r.b.den.length c3) ∧ Hid (r.a.length ≤ 9223372036854775807) ∧ Hid (I64 r.s) ∧ Hid (FL0 w (.slice A1 r.a.length c1) r.a) ∧ Hid (FR0 w (.agg #[.bool r.b.neg, .slice A2 r.b.num.length c2, .slice A3 r.b.den.length c3]) r.b) := by
 obtain ⟨g, o, vs, hA, hg, hs, hc, hl, v, A2, n2, c2, A3, n3, c3, rfl, hI, h1, h2⟩ := h.at_ hj
 obtain ⟨A1, c1, rfl, _⟩ := h1.slice
 obtain ⟨B1, d1, B2, d2, e, h2'⟩ := h2.opened
 have e' : (A2 = B1 ∧ n2 = r.b.num.length ∧ c2 = d1) ∧ A3 = B2 ∧ n3 = r.b.den.length ∧ c3 = d2 := by simpa using e
 obtain ⟨⟨rfl, rfl, rfl⟩, rfl, rfl, rfl⟩ := e'
 exact ⟨g, o, A1, c1, A2, c2, A3, c3, hA, hg, hc 0 _ rfl, hc 1 _ rfl, hc 2 _ rfl, hc 3 _ rfl, hc 4 _ rfl, hl, hI, h1, h2⟩
def rowIn (vars : Nat) (r : RowF) : Bool := decide (r.a.length ≤ vars) && (wordsB r.a 6 && wordsB [r.b] 6)
def withinB (p : ProgF) (vars rows : Nat) : Bool := decide (p.vars ≤ (vars : Int)) && (decide (p.rows.length ≤ rows) && (decide (p.free.length ≤ vars) && (decide (p.goal.length ≤ vars) && (wordsB p.goal 6 && p.rows.all (rowIn vars)))))
theorem withinB_ok {p : ProgF} {vars rows : Nat} (h : withinB p vars rows = true) : p.vars ≤ vars ∧ p.rows.length ≤ rows ∧ p.free.length ≤ vars ∧ p.goal.length ≤ vars ∧ wordsB p.goal 6 = true ∧ ∀ r ∈ p.rows, r.a.length ≤ vars ∧ wordsB r.a 6 = true ∧ wordF 6 r.b = true := by
 unfold withinB at h
 simp only [Bool.and_eq_true, decide_eq_true_eq] at h
 obtain ⟨h1, h2, h3, h4, h5, h6⟩ := h
 refine ⟨h1, h2, h3, h4, h5, fun r hr => ?_⟩
 have := List.all_eq_true.1 h6 r hr
 unfold rowIn at this
 simp only [Bool.and_eq_true, decide_eq_true_eq] at this
 obtain ⟨a, b, c⟩ := this
 refine ⟨a, b, ?_⟩
 unfold wordsB at c
 simpa using c
theorem PG0.full {w : World} {v : Value} {p : ProgF} (h : PG0 w v p) {vars rows : Nat} (hw : withinB p vars rows = true) : PR w v p := by
 obtain ⟨_, v1, v2, v3, e, hv, h1, h2, h3⟩ := h
 obtain ⟨_, _, _, _, h5, h6⟩ := withinB_ok hw
 refine ⟨v1, v2, v3, e, hv, h1, h2.full (by decide) h5, ?_⟩
 obtain ⟨A, c, e, hc, hr⟩ := h3
 refine ⟨A, c, e, hc, fun hp => ?_⟩
 obtain ⟨g, o, hA, hg, he⟩ := hr hp
 refine ⟨g, o, hA, hg, fun j x hx => ?_⟩
 obtain ⟨vs, g1, g2, _, v, A1, n1, c1, A2, n2, c2, e, hI, g3, g4⟩ := he j x hx
 obtain ⟨_, b, c⟩ := h6 x (mog hx)
 have := wordF_ok c
 exact ⟨vs, g1, g2, v, A1, n1, c1, A2, n2, c2, e, hI, g3.full (by decide) b, g4.full ⟨by omega, by omega⟩⟩
theorem FL0.one {w : World} {x y z : Value} {f : RawF} (h : FR0 w (.agg #[x, y, z]) f) (t : Nat) : FL0 (w.alloc (.cells #[x, y, z] t)) (.slice (some ⟨w.heap.size, 0, none⟩) 1 1) [f] := by
 refine ⟨_, _, rfl, Nat.le_refl _, fun _ => ⟨w.heap.size, 0, rfl, (Blk.new w t #[x, y, z]).lt, fun j f' hj => ?_⟩⟩
 obtain ⟨hlt, e⟩ := List.getElem?_eq_some_iff.1 hj
 obtain rfl : j = 0 := by simpa using hlt
 obtain rfl : f = f' := by simpa using e
 refine ⟨#[x, y, z], rfl, fun i v hv => ?_, h.of_below (below_new w _)⟩
 have := (Blk.new w t #[x, y, z]).cell hv
 simpa using this
theorem within_calls (w : World) (v : Value) (p : ProgF) (vars rows : Nat) (h : PG0 w v p) (hv1 : vars ≤ 1000) (hr1 : rows ≤ 1000) : Calls Try.prog 11 #[v, .int .i64 (vars : Int), .int .i64 (rows : Int)] w fun e w' => BPost w (withinB p vars rows) e w' := by
 have hl := h.1
 obtain ⟨A1, c1, A2, c2, A3, c3, rfl, HI, H1, H2, H3⟩ := h.opened
 have hl1 := hl.1
 have hl2 := hl.2.1
 have hl3 := hl.2.2
 clear h hl
 obtain ⟨pv, hv⟩ : ∃ n, n = p.vars := ⟨_, rfl⟩
 rw [← hv]
 have HV := Hd hv
 clear hv
 go_enter Try.func11, Try.ntmps11
 by_cases a1 : pv > (vars : Int)
 ·have t1 : decide (pv > (vars : Int)) = true := decide_eq_true a1
  have HR : Hid (withinB p vars rows = false) := by unfold Hid withinB; rw [← HV.out, decide_eq_false (by omega)]; rfl
  clear a1
  go_wp2_with fail
  go_ret
  exact ⟨by rw [HR.out]; rfl, below_new w _⟩
 have t1 : decide (pv > (vars : Int)) = false := decide_eq_false a1
 by_cases a2 : p.rows.length > rows
 ·have t2 : decide (rows < p.rows.length) = true := dct
  have HR : Hid (withinB p vars rows = false) := by unfold Hid withinB; rw [decide_eq_false (show ¬ p.rows.length ≤ rows by omega), Bool.false_and, Bool.and_false]
  clear a1 a2
  go_wp2_with fail
  go_ret
  exact ⟨by rw [HR.out]; rfl, below_new w _⟩
 have t2 : decide (rows < p.rows.length) = false := dcf
 by_cases a3 : p.free.length > vars
 ·have t3 : decide (vars < p.free.length) = true := dct
  have HR : Hid (withinB p vars rows = false) := by unfold Hid withinB; rw [decide_eq_false (show ¬ p.free.length ≤ vars by omega), Bool.false_and, Bool.and_false, Bool.and_false]
  clear a1 a2 a3
  go_wp2_with fail
  go_ret
  exact ⟨by rw [HR.out]; rfl, below_new w _⟩
 have t3 : decide (vars < p.free.length) = false := dcf
 by_cases a4 : p.goal.length > vars
 ·have t4 : decide (vars < p.goal.length) = true := dct
  have HR : Hid (withinB p vars rows = false) := by unfold Hid withinB; rw [decide_eq_false (show ¬ p.goal.length ≤ vars by omega), Bool.false_and, Bool.and_false, Bool.and_false, Bool.and_false]
  clear a1 a2 a3 a4
  go_wp2_with fail
  go_ret
  exact ⟨by rw [HR.out]; rfl, below_new w _⟩
 have t4 : decide (vars < p.goal.length) = false := dcf
 have HHEAD : Hid (withinB p vars rows = (wordsB p.goal 6 && p.rows.all (rowIn vars))) := by
  unfold Hid withinB
  rw [← HV.out, decide_eq_true (show pv ≤ (vars : Int) by omega), decide_eq_true (show p.rows.length ≤ rows by omega), decide_eq_true (show p.free.length ≤ vars by omega), decide_eq_true (show p.goal.length ≤ vars by omega)]
  rfl
 clear a1 a2 a3 a4
 go_wp2_with fail
 have H0 := Hd (HS.one (w := w) #[.int .i64 pv, .slice A1 p.free.length c1, .slice A2 p.goal.length c2, .slice A3 p.rows.length c3] 26)
 generalize w.alloc (.cells #[.int .i64 pv, .slice A1 p.free.length c1, .slice A2 p.goal.length c2, .slice A3 p.rows.length c3] 26) = W0 at *
 refine (words_calls W0 _ p.goal 6 (H2.out.below EF0.stays H0.out.2) hl2 (by decide)).mono ?_
 rintro e w1 ⟨rfl, hb⟩
 have H1' := Hd (H0.out.step hb)
 obtain ⟨x0, x1, x2, x3⟩ := H1'.out.c4 0 rfl
 clear hb
 cases hg : wordsB p.goal 6 with
 | false =>
  have HR : Hid (withinB p vars rows = false) := by unfold Hid; rw [HHEAD.out, hg]; rfl
  clear hg
  go_wp2_with fail
  go_ret
  exact ⟨by rw [HR.out]; rfl, H1'.out.2⟩
 | true =>
  have HE : Hid (withinB p vars rows = p.rows.all (rowIn vars)) := by unfold Hid; rw [HHEAD.out, hg]; rfl
  clear hg
  go_wp2_with fail
  clear x0 x1 x2 x3
  go_loopw [43] (fun vi wr => ∃ i : Nat, i ≤ p.rows.length ∧ vi = .int .i64 (i : Int) ∧ (∀ (j : Nat) (r : RowF), j < i → p.rows[j]? = some r → rowIn vars r = true) ∧ HS w [(w.heap.size, 26, #[.int .i64 pv, .slice A1 p.free.length c1, .slice A2 p.goal.length c2, .slice A3 p.rows.length c3])] wr) (fun vi _ => p.rows.length - (intOf vi).toNat)
  case atStart => exact ⟨0, Nat.zero_le _, rfl, fun j _ h => absurd h (Nat.not_lt_zero _), H1'.out⟩
  case round =>
   obtain ⟨i, hi, rfl, hall, hk⟩ := hrel
   have HA := Hd hall
   have HK := Hd hk
   clear hall hk
   by_cases hlt : i < p.rows.length
   ·obtain ⟨r, hr⟩ : ∃ r, p.rows[i]? = some r := ⟨p.rows[i], geq hlt⟩
    obtain ⟨g, o, B1, d1, B2, d2, B3, d3, rfl, hg, k0, k1, k2, k3, k4, hla, HI', HA', HB'⟩ := RL0.at5 (H3.out.below ER0.stays HK.out.2) hr
    have hrl := hla.out
    have HRR := Hd hr
    clear hr hla
    have m1 : (i : Int) < (p.rows.length : Int) := by omega
    have m3 : (i : Int).toNat = i := by omega
    have m4 : (0 : Int) ≤ (i : Int) := by omega
    obtain ⟨s, hs⟩ : ∃ s, s = r.s := ⟨_, rfl⟩
    rw [← hs] at k1
    obtain ⟨la, hla⟩ : ∃ l, l = r.a.length := ⟨_, rfl⟩
    rw [← hla] at hrl HA' k0
    have HLA := Hd hla
    obtain ⟨lb1, hlb1⟩ : ∃ l, l = r.b.num.length := ⟨_, rfl⟩
    obtain ⟨lb2, hlb2⟩ : ∃ l, l = r.b.den.length := ⟨_, rfl⟩
    rw [← hlb1] at HB' k3
    rw [← hlb2] at HB' k4
    clear hs hla hlb1 hlb2
    by_cases q1 : la > vars
    ·have u1 : decide (vars < la) = true := dct
     have HR : Hid (withinB p vars rows = false) := by
      unfold Hid
      rw [HE.out]
      refine all_false HRR.out ?_
      unfold rowIn
      rw [← HLA.out, decide_eq_false (by omega)]
      rfl
     clear q1
     go_wp2_with fail
     go_ret
     exact ⟨by rw [HR.out]; rfl, (HK.out.step (below_new _ _)).2⟩
    have u1 : decide (vars < la) = false := dcf
    have HLE : Hid (la ≤ vars) := Nat.le_of_not_lt q1
    clear q1
    go_wp2_with fail
    have HB1 := Hd (below_new wr (.cells #[.slice B1 la d1, .int .i64 s, .bool r.b.neg, .slice B2 lb1 d2, .slice B3 lb2 d3] 65))
    have HKB1 := Hd (Blk.new wr 65 #[.slice B1 la d1, .int .i64 s, .bool r.b.neg, .slice B2 lb1 d2, .slice B3 lb2 d3])
    generalize wr.alloc (.cells #[.slice B1 la d1, .int .i64 s, .bool r.b.neg, .slice B2 lb1 d2, .slice B3 lb2 d3] 65) = W1 at *
    refine (words_calls W1 _ r.a 6 (HA'.out.below EF0.stays HB1.out) (by rw [← HLA.out]; exact hrl) (by decide)).mono ?_
    rintro e w2 ⟨rfl, hb⟩
    have HB2 := Hd (below_next HB1.out hb)
    have HKB2 := Hd (HKB1.out.below hb HKB1.out.lt)
    have z2 := HKB2.out.cell (j := 2) rfl
    have z3 := HKB2.out.cell (j := 3) rfl
    have z4 := HKB2.out.cell (j := 4) rfl
    have hz := HKB2.out.lt
    clear hb
    cases hwa : wordsB r.a 6 with
    | false =>
     have HR : Hid (withinB p vars rows = false) := by
      unfold Hid
      rw [HE.out]
      refine all_false HRR.out ?_
      unfold rowIn
      rw [hwa, Bool.false_and, Bool.and_false]
     clear hwa
     go_wp2_with fail
     go_ret
     exact ⟨by rw [HR.out]; rfl, (HK.out.step HB2.out).2⟩
    | true =>
     have HWA := Hd hwa
     clear hwa
     go_wp2_with fail
     refine (words_calls _ _ [r.b] 6 (FL0.one (HB'.out.of_below HB2.out) 40) (by simp) (by decide)).mono ?_
     rintro e w3 ⟨rfl, hb⟩
     have HB3 := Hd (below_next (below_next HB2.out (below_new w2 _)) hb)
     clear hb
     cases hwb : wordsB [r.b] 6 with
     | false =>
      have HR : Hid (withinB p vars rows = false) := by
       unfold Hid
       rw [HE.out]
       refine all_false HRR.out ?_
       unfold rowIn
       rw [hwb, Bool.and_false, Bool.and_false]
      clear hwb
      go_wp2_with fail
      go_ret
      exact ⟨by rw [HR.out]; rfl, (HK.out.step HB3.out).2⟩
     | true =>
      have HG : Hid (rowIn vars r = true) := by
       unfold Hid rowIn
       rw [← HLA.out, HWA.out, hwb, decide_eq_true HLE.out]
       rfl
      clear hwb
      go_wp2_with fail
      go_roundw
      case rel =>
       refine ⟨i + 1, by omega, by go_num, fun j r' hj hr' => ?_, HK.out.step HB3.out⟩
       exact sq60 _
      case measure => simp [intOf]; omega
   ·obtain rfl : i = p.rows.length := by omega
    have HE2 : Hid (withinB p vars rows = true) := by unfold Hid; rw [HE.out]; exact all_true fun j r hr => HA.out j r (List.getElem?_eq_some_iff.1 hr).1 hr
    go_wp2_with fail
    go_ret
    exact ⟨by rw [HE2.out]; rfl, HK.out.2⟩
theorem fit_words {n : Nat} {f : RawF} (h : wordF n f = true) (hn : 1 ≤ n) : FitQ n (fixQ f) := by
 obtain ⟨h1, h2⟩ := wordF_ok h
 by_cases hr : RightF f
 ·have h3 := right_raw hr
  have e1 : f.num = dg (fixQ f).num.natAbs := congrArg RawF.num h3
  have e2 : f.den = dg (fixQ f).den := congrArg RawF.den h3
  exact ⟨by unfold wlen; rw [← e1]; exact h1, by unfold wlen; rw [← e2]; exact h2⟩
 ·rw [fixQ_wrong hr]
  exact fit_mono fit_zero hn
theorem fold_fits (k : Nat) : ∀ (l : List Rat) (c : Nat) (a : Rat), FitQ c a → (∀ q ∈ l, FitQ k q) → 2 * (l.length * (k + 1) + c) ≤ 4096 → l.foldl dotStep a = l.foldl (· + ·) a
 | [], _, _, _, _, _ => rfl
 | q :: l, c, a, ha, h, hk => by
  rw [List.length_cons, Nat.add_mul] at hk
  have hq := h q (by simp)
  have hs := fit_add ha hq (Nat.le_refl _)
  have e : dotStep a q = a + q := by
   unfold dotStep
   rw [capQ_fits (Nat.le_trans hq.size (by omega)), capQ_fits (Nat.le_trans hs.size (by omega))]
  rw [List.foldl_cons, List.foldl_cons, e]
  exact fold_fits k l _ _ hs (fun x hx => h x (List.mem_cons_of_mem _ hx)) (by omega)
theorem fit_zip {k1 k2 : Nat} : ∀ (a b : List Rat), (∀ q ∈ a, FitQ k1 q) → (∀ q ∈ b, FitQ k2 q) → ∀ q ∈ List.zipWith (· * ·) a b, FitQ (k1 + k2) q
 | [], _, _, _, q, hq => by simp at hq
 | _ :: _, [], _, _, q, hq => by simp at hq
 | x :: a, y :: b, ha, hb, q, hq => by
  rw [List.zipWith_cons_cons, List.mem_cons] at hq
  rcases hq with rfl | hq
  ·exact fit_mul (ha x (by simp)) (hb y (by simp)) (Nat.le_refl _)
  ·exact fit_zip a b (fun z hz => ha z (List.mem_cons_of_mem _ hz)) (fun z hz => hb z (List.mem_cons_of_mem _ hz)) q hq
theorem dotQ_fits {k1 k2 n : Nat} {a b : List Rat} (ha : ∀ q ∈ a, FitQ k1 q) (hb : ∀ q ∈ b, FitQ k2 q) (hn : a.length ≤ n) : FitQ (n * (k1 + k2 + 1) + 1) (dotQ a b) := by
 have h1 : (List.zipWith (· * ·) a b).length ≤ n := by rw [List.length_zipWith]; omega
 have h2 := Nat.mul_le_mul_right (k1 + k2 + 1) h1
 exact fit_mono (fit_sum (List.zipWith (· * ·) a b) (k1 + k2) (fit_zip a b ha hb)) (by omega)
theorem cap_dotQ {k1 k2 n : Nat} {a b : List Rat} (ha : ∀ q ∈ a, FitQ k1 q) (hb : ∀ q ∈ b, FitQ k2 q) (hn : a.length ≤ n) (hk : 2 * (n * (k1 + k2 + 1) + 1) ≤ 4096) : capQ (dotQ a b) = dotQ a b :=
 capQ_fits (Nat.le_trans (dotQ_fits ha hb hn).size hk)
theorem fit_list {n : Nat} {fs : List RawF} (h : wordsB fs n = true) (hn : 1 ≤ n) : ∀ q ∈ fs.map fixQ, FitQ n q := fun q hq => by
 obtain ⟨f, hf, rfl⟩ := List.mem_map.1 hq
 exact fit_words (List.all_eq_true.1 h f hf) hn
theorem signQ_ord (q : Rat) : signQ q = ordQ q 0 := by
 unfold signQ ordQ
 by_cases h : q = 0
 ·subst h; rfl
 ·rw [if_neg (fun h0 => h (Rat.num_eq_zero.1 h0)), if_neg h]
  have e : q.num < 0 ↔ q < 0 := by
   have := @Rat.num_nonneg q
   constructor
   ·intro h1; exact Rat.not_le.1 (fun h2 => by have := this.2 h2; omega)
   ·intro h1; exact Int.not_le.1 (fun h2 => Rat.not_le.2 h1 (this.1 h2))
  by_cases h1 : q < 0
  ·rw [if_pos h1, if_pos (e.2 h1)]
  ·rw [if_neg h1, if_neg (fun h2 => h1 (e.1 h2))]
theorem fit_nth {n : Nat} {fs : List RawF} (h : wordsB fs n = true) (hn : 1 ≤ n) (v : Nat) : FitQ n (fixQ (nthF fs v)) := by
 unfold nthF
 rw [gdd]
 cases hx : fs[v]? with
 | none => exact fit_words (f := ⟨false, [], []⟩) (by simp [wordF]) hn
 | some f => exact fit_words (List.all_eq_true.1 h f (mog hx)) hn
theorem fit_zipf {α : Type} {k1 k2 : Nat} {f : α → Rat} : ∀ (rows : List α) (ys : List Rat), (∀ r ∈ rows, FitQ k1 (f r)) → (∀ q ∈ ys, FitQ k2 q) → ∀ q ∈ List.zipWith (fun r q => q * f r) rows ys, FitQ (k1 + k2) q
 | [], _, _, _, q, hq => by simp at hq
 | _ :: _, [], _, _, q, hq => by simp at hq
 | x :: a, y :: b, ha, hb, q, hq => by
  rw [List.zipWith_cons_cons, List.mem_cons] at hq
  rcases hq with rfl | hq
  ·exact fit_mul (hb y (by simp)) (ha x (by simp)) (by omega)
  ·exact fit_zipf a b (fun z hz => ha z (List.mem_cons_of_mem _ hz)) (fun z hz => hb z (List.mem_cons_of_mem _ hz)) q hq
theorem fold_sum {k n : Nat} {l : List Rat} (h : ∀ q ∈ l, FitQ k q) (hn : l.length ≤ n) (hk : 2 * (n * (k + 1) + 1) ≤ 4096) : l.foldl dotStep 0 = sumQ l ∧ FitQ (n * (k + 1) + 1) (sumQ l) := by
 have h2 := Nat.mul_le_mul_right (k + 1) hn
 exact ⟨fold_fits k l 1 0 fit_zero h (by omega), fit_mono (fit_sum l k h) (by omega)⟩
section
variable {cm : Nat} {p : ProgF} {c : CertF}
theorem col_fit (hp : withinB p 20 30 = true) (hc : certB c cm = true) (v : Nat) : FitQ 571 (colQ p.rows (c.y.map fixQ) v) := by
 obtain ⟨_, h2, _, _, _, h6⟩ := withinB_ok hp
 obtain ⟨_, _, hy, _⟩ := certB_ok hc
 have := fold_sum (k := 18) (n := 30) (l := colL p.rows (c.y.map fixQ) v) (fit_zipf (k1 := 6) (k2 := 12) (f := fun (r : RowF) => fixQ (nthF r.a v)) p.rows (c.y.map fixQ) (fun r hr => fit_nth (h6 r hr).2.1 (by decide) v) (fit_list hy (by decide))) (by unfold colL; rw [List.length_zipWith]; omega) (by decide)
 unfold colQ
 rw [this.1]
 exact this.2
end
def sumN (f : Nat → Rat) : Nat → Rat
 | 0 => 0
 | n + 1 => sumN f n + f n
theorem sumN_congr {f g : Nat → Rat} : ∀ {n : Nat}, (∀ i, i < n → f i = g i) → sumN f n = sumN g n
 | 0, _ => rfl
 | n + 1, h => by rw [sumN, sumN, sumN_congr fun i hi => h i (Nat.lt_succ_of_lt hi), h n (Nat.lt_succ_self n)]
theorem sumN_zero {f : Nat → Rat} : ∀ {n : Nat}, (∀ i, i < n → f i = 0) → sumN f n = 0
 | 0, _ => rfl
 | n + 1, h => by rw [sumN, sumN_zero fun i hi => h i (Nat.lt_succ_of_lt hi), h n (Nat.lt_succ_self n)]; grind
theorem sumN_add (f g : Nat → Rat) : ∀ n, sumN (fun i => f i + g i) n = sumN f n + sumN g n
 | 0 => by simp only [sumN]; grind
 | n + 1 => by rw [sumN, sumN, sumN, sumN_add f g n]; grind
theorem sumN_mul (c : Rat) (f : Nat → Rat) : ∀ n, sumN (fun i => c * f i) n = c * sumN f n
 | 0 => by rw [sumN, sumN]; grind
 | n + 1 => by rw [sumN, sumN, sumN_mul c f n]; grind
theorem sumN_comm (f : Nat → Nat → Rat) (m : Nat) : ∀ n, sumN (fun i => sumN (fun j => f i j) m) n = sumN (fun j => sumN (fun i => f i j) n) m
 | 0 => by rw [sumN]; exact (sumN_zero fun _ _ => rfl).symm
 | n + 1 => by rw [sumN, sumN_comm f m n, ← sumN_add]; exact sumN_congr fun _ _ => rfl
theorem sumN_le {f g : Nat → Rat} : ∀ {n : Nat}, (∀ i, i < n → f i ≤ g i) → sumN f n ≤ sumN g n
 | 0, _ => Rat.le_refl
 | n + 1, h => by
  have h1 := sumN_le fun i hi => h i (Nat.lt_succ_of_lt hi)
  have h2 := h n (Nat.lt_succ_self n)
  rw [sumN, sumN]; grind
theorem sumN_single {f : Nat → Rat} {k : Nat} : ∀ {n : Nat}, k < n → (∀ i, i < n → i ≠ k → f i = 0) → sumN f n = f k
 | 0, h, _ => by omega
 | n + 1, h, h0 => by
  rw [sumN]
  by_cases e : k = n
  ·subst e
   rw [sumN_zero fun i hi => h0 i (by omega) (by omega)]; grind
  ·rw [sumN_single (k := k) (by omega) fun i hi hk => h0 i (by omega) hk, h0 n (by omega) (fun x => e x.symm)]; grind
theorem sumN_succ' (f : Nat → Rat) : ∀ n, sumN f (n + 1) = f 0 + sumN (fun i => f (i + 1)) n
 | 0 => by simp only [sumN]; grind
 | n + 1 => by rw [sumN, sumN_succ' f n, sumN]; grind
theorem foldl_sumN : ∀ (l : List Rat) (a : Rat), l.foldl (· + ·) a = a + sumN (fun i => l.getD i 0) l.length
 | [], a => by simp only [List.foldl_nil, List.length_nil, sumN]; grind
 | x :: l, a => by
  rw [List.foldl_cons, foldl_sumN l, List.length_cons, sumN_succ']
  simp only [List.getD_cons_zero, List.getD_cons_succ]
  grind
theorem zip_sumN (a b : List Rat) (n : Nat) (ha : a.length = n) (hb : b.length = n) : (List.zipWith (· * ·) a b).foldl (· + ·) 0 = sumN (fun i => a.getD i 0 * b.getD i 0) n := by
 rw [foldl_sumN, List.length_zipWith, ha, hb, Nat.min_self, Rat.zero_add]
 refine sumN_congr fun i hi => ?_
 rw [gdd, List.getElem?_zipWith, gdd, gdd, geq (by omega : i < a.length), geq (by omega : i < b.length)]
 rfl
theorem weak_dual {m n : Nat} {A : Nat → Nat → Rat} {b y x g : Nat → Rat} (hy : ∀ i, i < m → y i * sumN (fun v => A i v * x v) n ≤ y i * b i)
  (hx : ∀ v, v < n → g v * x v ≤ sumN (fun i => y i * A i v) m * x v) : sumN (fun v => g v * x v) n ≤ sumN (fun i => y i * b i) m := by
 refine Rat.le_trans (sumN_le hx) (Rat.le_trans ?_ (sumN_le hy))
 rw [show sumN (fun i => sumN (fun i_1 => y i_1 * A i_1 i) m * x i) n = sumN (fun i => y i * sumN (fun v => A i v * x v) n) m from ?_]
 ·exact Rat.le_refl
 ·rw [show sumN (fun i => sumN (fun j => y j * A j i) m * x i) n = sumN (fun i => sumN (fun j => y j * A j i * x i) m) n from sumN_congr fun i _ => by
   rw [Rat.mul_comm, ← sumN_mul]; exact sumN_congr fun j _ => Rat.mul_comm _ _]
  rw [sumN_comm]
  refine sumN_congr fun j _ => ?_
  rw [← sumN_mul]
  exact sumN_congr fun v _ => Rat.mul_assoc _ _ _
theorem nth_map {fs : List RawF} {v : Nat} (hv : v < fs.length) : (fs.map fixQ).getD v 0 = fixQ (nthF fs v) := by
 unfold nthF
 simp only [gdd, List.getElem?_map, geq hv]
 rfl
theorem dot_sumN {a : List RawF} {x : List Rat} {n : Nat} (ha : a.length = n) (hx : x.length = n) : dotQ (a.map fixQ) x = sumN (fun v => fixQ (nthF a v) * x.getD v 0) n := by
 unfold dotQ sumQ
 rw [zip_sumN _ _ n (by rw [lmp]; exact ha) hx]
 exact sumN_congr fun i hi => by rw [nth_map (by omega)]
theorem zipf_sumN {α : Type} (f : α → Rat) (rows : List α) (ys : List Rat) (h : ys.length = rows.length) : sumQ (List.zipWith (fun r q => q * f r) rows ys) = sumN (fun i => ys.getD i 0 * (rows.map f).getD i 0) rows.length := by
 unfold sumQ
 rw [foldl_sumN, List.length_zipWith, h, Nat.min_self, Rat.zero_add]
 refine sumN_congr fun i hi => ?_
 simp only [gdd, List.getElem?_zipWith, List.getElem?_map, geq hi, geq (show i < ys.length by omega)]
 rfl
theorem ord_zero {a b : Rat} : ordQ a b = 0 ↔ a = b := by
 unfold ordQ
 by_cases h : a = b
 ·simp [h]
 ·rw [if_neg h]; split <;> simp [h]
theorem ord_neg {a b : Rat} : ordQ a b < 0 ↔ a < b := by
 unfold ordQ
 by_cases h : a = b
 ·subst h; simp [Rat.lt_irrefl]
 ·rw [if_neg h]; split <;> rename_i h2 <;> simp [h2]
theorem ord_m1 {a b : Rat} : ordQ a b = -1 ↔ a < b := by
 unfold ordQ
 by_cases h : a = b
 ·subst h; simp [Rat.lt_irrefl]
 ·rw [if_neg h]; split <;> rename_i h2 <;> simp [h2]
theorem ord_pos {a b : Rat} : 0 < ordQ a b ↔ b < a := by
 unfold ordQ
 by_cases h : a = b
 ·subst h; simp [Rat.lt_irrefl]
 ·rw [if_neg h]
  split <;> rename_i h2
  ·simp; grind
  ·simp; grind
theorem ord_p1 {a b : Rat} : ordQ a b = 1 ↔ b < a := by
 rw [← ord_pos]
 unfold ordQ
 split
 ·simp
 ·split <;> simp
theorem ord_le {a b : Rat} : ordQ a b ≤ 0 ↔ a ≤ b := by
 have := @ord_pos a b
 have h2 := @Rat.not_lt b a
 constructor
 ·intro h; exact h2.1 fun h3 => by have := this.2 h3; omega
 ·intro h; have := mt this.1 (h2.2 h); omega
structure FitsN (p : ProgF) (n : Nat) (X : Nat → Rat) : Prop where
 sg : ∀ v, v < n → freeAt p v = false → 0 ≤ X v
 rows : ∀ r, r ∈ p.rows → (r.s = 0 → sumN (fun v => fixQ (nthF r.a v) * X v) n = fixQ r.b) ∧ (r.s = -1 → sumN (fun v => fixQ (nthF r.a v) * X v) n ≤ fixQ r.b) ∧ (r.s = 1 → fixQ r.b ≤ sumN (fun v => fixQ (nthF r.a v) * X v) n)
noncomputable def vecA (x : List RawF) (v : Nat) : Rat := (x.map fixQ).getD v 0
theorem holds_n {s : Int} {a b : Rat} (h : holdsB s a b = true) : (s = 0 → a = b) ∧ (s = -1 → a ≤ b) ∧ (s = 1 → b ≤ a) := by
 unfold holdsB at h
 simp only [Bool.or_eq_true, Bool.and_eq_true, decide_eq_true_eq] at h
 rcases h with h | ⟨h1, h2⟩
 ·have e := ord_zero.1 h
  subst e
  exact ⟨fun _ => rfl, fun _ => Rat.le_refl, fun _ => Rat.le_refl⟩
 ·refine ⟨fun h3 => absurd h3 h1, fun h3 => ?_, fun h3 => ?_⟩
  ·rw [h3] at h2; exact Rat.le_of_lt (ord_m1.1 h2)
  ·rw [h3] at h2; exact Rat.le_of_lt (ord_p1.1 h2)
section
variable {p : ProgF} {c : CertF} {x : List RawF} {cm k : Nat}
theorem signed_n {n : Nat} (hf : (p.free.length : Int) = p.vars) (hl : x.length = n) (hn : n = p.vars.toNat) (h : signedB p.free (x.map fixQ) = true) : ∀ v, v < n → freeAt p v = false → 0 ≤ vecA x v := fun v hv hfr => by
 unfold signedB at h
 rw [List.all_eq_true] at h
 have h1 : v < p.free.length := by omega
 have h2 : v < (x.map fixQ).length := by rw [lmp]; omega
 have h3 := h (p.free[v], (x.map fixQ)[v]) (mog (i := v) (by rw [List.getElem?_zip_eq_some]; exact ⟨geq h1, geq h2⟩))
 have h4 : p.free[v] = false := by
  unfold freeAt at hfr
  rw [gdd, geq h1] at hfr
  exact hfr
 rw [h4] at h3
 simp only [Bool.false_or, Bool.not_eq_true', decide_eq_false_iff_not, signQ_ord, ord_neg] at h3
 unfold vecA
 rw [gdd, geq h2]
 exact Rat.not_lt.1 h3
theorem cap_row (hp : withinB p 20 30 = true) (hx : wordsB x k = true) (hk1 : 1 ≤ k) (hk : k ≤ 31) (hr : rightP p = 0) (hl : (x.length : Int) = p.vars) {a : List RawF} (ha : (a.length : Int) = p.vars) (hw : wordsB a 6 = true) : capQ (dotQ (a.map fixQ) (x.map fixQ)) = sumN (fun v => fixQ (nthF a v) * vecA x v) p.vars.toNat := by
 have hv := withinB_ok hp
 rw [cap_dotQ (fit_list hw (by decide)) (fit_list hx hk1) (n := 20) (by rw [lmp]; have := hv.1; omega) (by omega), dot_sumN (n := p.vars.toNat) (by omega) (by rw [lmp]; omega)]
 rfl
theorem fits_n (hp : withinB p 20 30 = true) (hx : wordsB x k = true) (hk1 : 1 ≤ k) (hk : k ≤ 31) (hr : rightP p = 0) (h : fitsB p x = true) : (x.length : Int) = p.vars ∧ FitsN p p.vars.toNat (vecA x) := by
 obtain ⟨_, _, _, _, _, h6⟩ := withinB_ok hp
 have hrl := rightP_len hr
 unfold fitsB at h
 simp only [Bool.and_eq_true, decide_eq_true_eq] at h
 obtain ⟨⟨hl, hs⟩, hrows⟩ := h
 refine ⟨hl, signed_n hrl.1 (by omega) rfl hs, fun r hm => ?_⟩
 have h1 := List.all_eq_true.1 hrows r hm
 unfold rowHolds at h1
 rw [cap_row hp hx hk1 hk hr hl (hrl.2.2.2.2.2 r hm).1 (h6 r hm).2.1] at h1
 exact holds_n h1
theorem value_n (hp : withinB p 20 30 = true) (hx : wordsB x k = true) (hk1 : 1 ≤ k) (hk : k ≤ 31) (hr : rightP p = 0) (hl : (x.length : Int) = p.vars) : capQ (dotQ (p.goal.map fixQ) (x.map fixQ)) = sumN (fun v => fixQ (nthF p.goal v) * vecA x v) p.vars.toNat := by
 obtain ⟨_, _, _, _, h5, _⟩ := withinB_ok hp
 exact cap_row hp hx hk1 hk hr hl (rightP_len hr).2.1 h5
noncomputable def colA (p : ProgF) (i v : Nat) : Rat := (p.rows.map fun r => fixQ (nthF r.a v)).getD i 0
noncomputable def rhsA (p : ProgF) (i : Nat) : Rat := (p.rows.map fun r => fixQ r.b).getD i 0
structure BoundN (p : ProgF) (n : Nat) (G : Nat → Rat) (Y : Nat → Rat) : Prop where
 sg : ∀ i r, p.rows[i]? = some r → (r.s = -1 → 0 ≤ Y i) ∧ (r.s = 1 → Y i ≤ 0)
 col : ∀ v, v < n → G v ≤ sumN (fun i => Y i * colA p i v) p.rows.length ∧ (freeAt p v = true → sumN (fun i => Y i * colA p i v) p.rows.length = G v)
theorem bounds_n (hp : withinB p 20 30 = true) (hc : certB c cm = true) (g : Option (List RawF)) (G : Nat → Rat) (hG : ∀ v, v < p.vars.toNat → colV p.rows (c.y.map fixQ) g v = colQ p.rows (c.y.map fixQ) v - G v) (h : boundsB p c.y g = true) : c.y.length = p.rows.length ∧ BoundN p p.vars.toNat G (vecA c.y) := by
 obtain ⟨_, h2, _, _, _, h6⟩ := withinB_ok hp
 obtain ⟨_, _, hy, _⟩ := certB_ok hc
 unfold boundsB at h
 simp only [Bool.and_eq_true, decide_eq_true_eq] at h
 obtain ⟨hl, hs, hcol⟩ := h
 refine ⟨hl, fun i r hi => ?_, fun v hv => ?_⟩
 ·unfold signsB at hs
  rw [List.all_eq_true] at hs
  have hil := (List.getElem?_eq_some_iff.1 hi).1
  have h2 : i < (c.y.map fixQ).length := by rw [lmp]; omega
  have h3 := hs (r, (c.y.map fixQ)[i]) (mog (i := i) (by rw [List.getElem?_zip_eq_some]; exact ⟨hi, geq h2⟩))
  have e : vecA c.y i = (c.y.map fixQ)[i] := by unfold vecA; rw [gdd, geq h2]; rfl
  unfold badSign at h3
  simp only [Bool.not_eq_true', Bool.or_eq_false_iff, Bool.and_eq_false_iff, decide_eq_false_iff_not, signQ_ord, ord_neg, gt_iff_lt, ord_pos] at h3
  rw [e]
  exact ⟨fun h4 => Rat.not_lt.1 (h3.1.resolve_left fun h5 => h5 h4), fun h4 => Rat.not_lt.1 (h3.2.resolve_left fun h5 => h5 h4)⟩
 ·have h1 := List.all_eq_true.1 hcol v (List.mem_range.2 hv)
  unfold colOk at h1
  rw [hG v hv] at h1
  have e : colQ p.rows (c.y.map fixQ) v = sumN (fun i => vecA c.y i * colA p i v) p.rows.length := by
   unfold colQ
   rw [(fold_sum (k := 18) (n := 30) (l := colL p.rows (c.y.map fixQ) v) (fit_zipf (k1 := 6) (k2 := 12) (f := fun (r : RowF) => fixQ (nthF r.a v)) p.rows (c.y.map fixQ) (fun r hr => fit_nth (h6 r hr).2.1 (by decide) v) (fit_list hy (by decide))) (by unfold colL; rw [List.length_zipWith]; omega) (by decide)).1]
   exact zipf_sumN (fun r : RowF => fixQ (nthF r.a v)) p.rows _ (by rw [lmp]; exact hl)
  rw [e] at h1
  simp only [Bool.not_eq_true', Bool.or_eq_false_iff, Bool.and_eq_false_iff, decide_eq_false_iff_not, signQ_ord, ord_neg, gt_iff_lt, ord_pos] at h1
  have h7 : G v ≤ sumN (fun i => vecA c.y i * colA p i v) p.rows.length := by have := Rat.not_lt.1 h1.1; grind
  refine ⟨h7, fun hf => ?_⟩
  rw [hf] at h1
  have := Rat.not_lt.1 (h1.2.resolve_right (by decide))
  grind
theorem rights_n (hp : withinB p 20 30 = true) (hc : certB c cm = true) (hl : c.y.length = p.rows.length) : rightsQ p c.y = sumN (fun i => vecA c.y i * rhsA p i) p.rows.length := by
 obtain ⟨_, h2, _, _, _, h6⟩ := withinB_ok hp
 obtain ⟨_, _, hy, _⟩ := certB_ok hc
 unfold rightsQ
 rw [cap_dotQ (k1 := 12) (k2 := 6) (n := 30) (fit_list hy (by decide)) (fun q hq => by
  obtain ⟨r, hr, rfl⟩ := List.mem_map.1 hq
  exact fit_words (h6 r hr).2.2 (by decide)) (by rw [lmp]; omega) (by decide)]
 unfold dotQ sumQ
 rw [zip_sumN _ _ p.rows.length (by rw [lmp]; exact hl) (by rw [lmp])]
 rfl
theorem weak_n {n : Nat} {X Y G : Nat → Rat} (hs : ∀ r, r ∈ p.rows → -1 ≤ r.s ∧ r.s ≤ 1) (hf : FitsN p n X) (hb : BoundN p n G Y) : sumN (fun v => G v * X v) n ≤ sumN (fun i => Y i * rhsA p i) p.rows.length := by
 refine weak_dual (A := colA p) (fun i hi => ?_) (fun v hv => ?_)
 ·obtain ⟨r, hr⟩ : ∃ r, p.rows[i]? = some r := ⟨_, geq hi⟩
  have e1 : ∀ v, colA p i v = fixQ (nthF r.a v) := fun v => by unfold colA; rw [gdd, List.getElem?_map, hr]; rfl
  have e2 : rhsA p i = fixQ r.b := by unfold rhsA; rw [gdd, List.getElem?_map, hr]; rfl
  rw [e2, sumN_congr fun v _ => by rw [e1 v]]
  obtain ⟨h0, hm, h1⟩ := hf.rows r (mog hr)
  obtain ⟨g0, g1⟩ := hb.sg i r hr
  generalize sumN (fun v => fixQ (nthF r.a v) * X v) n = d at *
  have hss := hs r (mog hr)
  rcases (show r.s = 0 ∨ r.s = -1 ∨ r.s = 1 by omega) with h | h | h
  ·rw [h0 h]; exact Rat.le_refl
  ·exact Rat.mul_le_mul_of_nonneg_left (hm h) (g0 h)
  ·have := Rat.mul_nonneg (a := -(Y i)) (b := d - fixQ r.b) (by have := g1 h; grind) (by have := h1 h; grind)
   grind
 ·obtain ⟨c1, c2⟩ := hb.col v hv
  cases hfr : freeAt p v with
  | true => rw [c2 hfr]; exact Rat.le_refl
  | false => exact Rat.mul_le_mul_of_nonneg_right c1 (hf.sg v hv hfr)
theorem judge_best (hp : withinB p 20 30 = true) (hc : certB c cm = true) (hk : c.kind = 1) (h : judgeB p c = true) : rightP p = 0 ∧ (c.x.length : Int) = p.vars ∧ FitsN p p.vars.toNat (vecA c.x) ∧ ∀ X, FitsN p p.vars.toNat X → sumN (fun v => fixQ (nthF p.goal v) * X v) p.vars.toNat ≤ sumN (fun v => fixQ (nthF p.goal v) * vecA c.x v) p.vars.toNat := by
 unfold judgeB at h
 by_cases hr : rightP p = 0
 case neg => rw [if_pos hr] at h; cases h
 rw [if_neg (show ¬ rightP p ≠ 0 from fun h => h hr), if_pos hk] at h
 simp only [Bool.and_eq_true, decide_eq_true_eq] at h
 obtain ⟨h1, h2, h3⟩ := h
 obtain ⟨hl, hf⟩ := fits_n hp (certB_ok hc).2.1 (by decide) (by decide) hr h1
 obtain ⟨_, _, _, _, h5, _⟩ := withinB_ok hp
 obtain ⟨hyl, hb⟩ := bounds_n hp hc (some p.goal) (fun v => fixQ (nthF p.goal v)) (fun v _ => by
  have h1 := col_fit hp hc v
  have h3 := fit_add h1 (fit_neg (fit_nth h5 (by decide) v)) (Nat.le_refl _)
  unfold colV
  simp only
  rw [capQ_fits (Nat.le_trans h3.size (by decide))]
  grind) h2
 refine ⟨hr, hl, hf, fun X hX => ?_⟩
 have h4 := weak_n (fun r hm => ((rightP_len hr).2.2.2.2.2 r hm).2) hX hb
 rw [← rights_n hp hc hyl, ord_zero.1 h3, value_n hp (certB_ok hc).2.1 (by decide) (by decide) hr hl] at h4
 exact h4
theorem judge_none (hp : withinB p 20 30 = true) (hc : certB c cm = true) (hk : c.kind = 2) (h : judgeB p c = true) (X : Nat → Rat) (hX : FitsN p p.vars.toNat X) : False := by
 unfold judgeB at h
 by_cases hr : rightP p = 0
 case neg => rw [if_pos hr] at h; cases h
 rw [if_neg (show ¬ rightP p ≠ 0 from fun h => h hr), if_neg (by omega), if_pos hk] at h
 simp only [Bool.and_eq_true, decide_eq_true_eq] at h
 obtain ⟨h2, h3⟩ := h
 obtain ⟨hyl, hb⟩ := bounds_n hp hc none (fun _ => 0) (fun v _ => by unfold colV; simp only; grind) h2
 have h4 := weak_n (fun r hm => ((rightP_len hr).2.2.2.2.2 r hm).2) hX hb
 rw [← rights_n hp hc hyl] at h4
 rw [signQ_ord, ord_neg] at h3
 rw [sumN_zero fun i _ => by grind] at h4
 exact absurd h3 (Rat.not_lt.2 h4)
end
theorem raw_words {n : Nat} {q : Rat} (h : FitQ n q) : wordF n (rawQ q) = true := by
 unfold wordF rawQ
 simp only [Bool.and_eq_true, decide_eq_true_eq]
 exact h
section
variable {p : ProgF} {c : CertF} {x : List RawF} {cm k : Nat}
end
theorem words1 {n : Nat} {f : RawF} (h : wordF n f = true) : wordsB [f] n = true := by unfold wordsB; simp [h]
theorem within_mono {p : ProgF} {a b a' b' : Nat} (h : withinB p a b = true) (h1 : a ≤ a') (h2 : b ≤ b') : withinB p a' b' = true := by
 obtain ⟨k1, k2, k3, k4, k5, k6⟩ := withinB_ok h
 unfold withinB rowIn
 simp only [Bool.and_eq_true, decide_eq_true_eq, List.all_eq_true]
 exact ⟨by omega, by omega, by omega, by omega, k5, fun r hr => by obtain ⟨u1, u2, u3⟩ := k6 r hr; exact ⟨by omega, u2, words1 u3⟩⟩
theorem fix_fix (f : RawF) : fixQ (rawQ (fixQ f)) = fixQ f := fixQ_raw _ (sizeQ_fix f)
theorem nth_clean {l : List RawF} {n v : Nat} (h : l.length = n) (hv : v < n) : fixQ (nthF ((l.map fixQ).map rawQ) v) = fixQ (nthF l v) := by
 unfold nthF
 simp only [gdd, List.getElem?_map, geq (show v < l.length by omega), Option.map_some, Option.getD_some, fix_fix]
theorem nth_unit {n v : Nat} {x : Int} (hv : v < n) : fixQ (nthF ((unitL n x).map rawQ) v) = if (v : Int) = x then 1 else 0 := by
 unfold nthF unitL
 simp only [gdd, List.getElem?_map, List.getElem?_range hv, Option.map_some, Option.getD_some]
 split
 ·exact fixQ_raw _ (by decide +kernel)
 ·exact fixQ_raw _ (by decide +kernel)
theorem unit_sum {n : Nat} {x s b : Int} {X : Nat → Rat} (h0 : 0 ≤ x) (h1 : x < n) : sumN (fun v => fixQ (nthF (rawR (unitQ n x s b)).a v) * X v) n = X x.toNat := by
 rw [sumN_single (k := x.toNat) (by omega) fun i hi hne => by
  show fixQ (nthF ((unitL n x).map rawQ) i) * X i = 0
  rw [nth_unit hi, if_neg (by omega)]; grind]
 show fixQ (nthF ((unitL n x).map rawQ) x.toNat) * X x.toNat = X x.toNat
 rw [nth_unit (by omega), if_pos (by omega)]
 grind
theorem fix_bit {b : Int} (h : b = 0 ∨ b = 1) : fixQ (rawQ (b : Rat)) = (b : Rat) := by
 rcases h with rfl | rfl
 ·exact fixQ_raw _ (by decide +kernel)
 ·exact fixQ_raw _ (by decide +kernel)
theorem fit_bit {b : Int} (h : b = 0 ∨ b = 1) : FitQ 6 (b : Rat) := by
 rcases h with rfl | rfl
 ·unfold FitQ; decide +kernel
 ·unfold FitQ; decide +kernel
theorem unit_in {n vars : Nat} {x s b : Int} (h : n ≤ vars) (hb : b = 0 ∨ b = 1) : rowIn vars (rawR (unitQ n x s b)) = true := by
 unfold rowIn rawR unitQ
 simp only [Bool.and_eq_true, decide_eq_true_eq, lmp, unitL_length]
 refine ⟨h, ?_, words1 (raw_words (fit_bit hb))⟩
 unfold wordsB unitL
 rw [List.all_eq_true]
 intro f hf
 obtain ⟨q, hq, rfl⟩ := List.mem_map.1 hf
 obtain ⟨i, _, rfl⟩ := List.mem_map.1 hq
 refine raw_words ?_
 split
 ·unfold FitQ; decide +kernel
 ·unfold FitQ; decide +kernel
theorem branch_in {p : ProgQ} {x b : Int} {k : Nat} (h : withinB (rawP p) 20 k = true) (hb : b = 0 ∨ b = 1) : withinB (rawP (branchQ p x b)) 20 (k + 1) = true := by
 have k0 := withinB_ok h
 unfold withinB at h ⊢
 simp only [Bool.and_eq_true, decide_eq_true_eq, List.all_eq_true] at h ⊢
 obtain ⟨k1, k2, k3, k4, k5, k6⟩ := h
 refine ⟨k1, ?_, k3, k4, k5, fun r hr => ?_⟩
 ·have e : (rawP (branchQ p x b)).rows.length = (rawP p).rows.length + 1 := by simp [rawP, branchQ]
  omega
 ·have hr' : r ∈ (p.rows ++ [unitQ p.vars.toNat x 0 b]).map rawR := hr
  rw [List.map_append, List.mem_append] at hr'
  rcases hr' with hr' | hr'
  ·exact k6 r hr'
  ·simp only [List.map_cons, List.map_nil, List.mem_singleton] at hr'
   subst hr'
   exact unit_in (by have : p.vars ≤ 20 := k1; omega) hb
theorem branch_fits {p : ProgQ} {x b : Int} {X : Nat → Rat} (h0 : 0 ≤ x) (h1 : x < p.vars) (hb : b = 0 ∨ b = 1) (hX : X x.toNat = (b : Rat)) (hF : FitsN (rawP p) p.vars.toNat X) : FitsN (rawP (branchQ p x b)) p.vars.toNat X := by
 refine ⟨hF.sg, fun r hr => ?_⟩
 have hr' : r ∈ (p.rows ++ [unitQ p.vars.toNat x 0 b]).map rawR := hr
 rw [List.map_append, List.mem_append] at hr'
 rcases hr' with hr' | hr'
 ·exact hF.rows r hr'
 ·simp only [List.map_cons, List.map_nil, List.mem_singleton] at hr'
  subst hr'
  rw [unit_sum h0 (by omega)]
  show (_ → X x.toNat = fixQ (rawQ (b : Rat))) ∧ ((0 : Int) = -1 → _) ∧ ((0 : Int) = 1 → _)
  rw [fix_bit hb]
  exact ⟨fun _ => hX, fun h => absurd h (by decide), fun h => absurd h (by decide)⟩
theorem bounded_fits {p : ProgF} {l : List Int} {X : Nat → Rat} (hr : rightP p = 0) (hl : ∀ v ∈ l, 0 ≤ v ∧ v < p.vars) (hX : ∀ v ∈ l, X v.toNat ≤ 1) (hF : FitsN p p.vars.toNat X) : FitsN (rawP (boundedQ p l)) p.vars.toNat X := by
 have hrl := rightP_len hr
 refine ⟨hF.sg, fun r hm => ?_⟩
 have hm' : r ∈ (p.rows.map cleanR ++ l.map fun v => unitQ p.vars.toNat v (-1) 1).map rawR := hm
 rw [List.map_append, List.mem_append] at hm'
 rcases hm' with hm' | hm'
 ·rw [List.map_map] at hm'
  obtain ⟨r0, h0, rfl⟩ := List.mem_map.1 hm'
  have e : sumN (fun v => fixQ (nthF ((rawR ∘ cleanR) r0).a v) * X v) p.vars.toNat = sumN (fun v => fixQ (nthF r0.a v) * X v) p.vars.toNat := sumN_congr fun v hv => by
   show fixQ (nthF ((r0.a.map fixQ).map rawQ) v) * X v = _
   rw [nth_clean (n := p.vars.toNat) (by have := (hrl.2.2.2.2.2 r0 h0).1; omega) hv]
  rw [e]
  show (r0.s = 0 → _ = fixQ (rawQ (fixQ r0.b))) ∧ (r0.s = -1 → _ ≤ fixQ (rawQ (fixQ r0.b))) ∧ (r0.s = 1 → fixQ (rawQ (fixQ r0.b)) ≤ _)
  rw [fix_fix]
  exact hF.rows r0 h0
 ·rw [List.map_map] at hm'
  obtain ⟨v, h0, rfl⟩ := List.mem_map.1 hm'
  show (_ → sumN (fun u => fixQ (nthF (rawR (unitQ p.vars.toNat v (-1) 1)).a u) * X u) p.vars.toNat = _) ∧ (_ → sumN (fun u => fixQ (nthF (rawR (unitQ p.vars.toNat v (-1) 1)).a u) * X u) p.vars.toNat ≤ fixQ (rawQ ((1 : Int) : Rat))) ∧ (_ → _ ≤ sumN (fun u => fixQ (nthF (rawR (unitQ p.vars.toNat v (-1) 1)).a u) * X u) p.vars.toNat)
  rw [unit_sum (hl v h0).1 (by have := (hl v h0).2; omega), fix_bit (Or.inr rfl)]
  refine ⟨fun h => absurd (show (-1 : Int) = 0 from h) (by decide), fun _ => ?_, fun h => absurd (show (-1 : Int) = 1 from h) (by decide)⟩
  have := hX v h0
  grind
theorem bounded_in {p : ProgF} {l : List Int} {k j : Nat} (h : withinB p 20 k = true) (hl : k + l.length ≤ j) : withinB (rawP (boundedQ p l)) 20 j = true := by
 obtain ⟨k1, k2, k3, k4, k5, k6⟩ := withinB_ok h
 unfold withinB
 simp only [Bool.and_eq_true, decide_eq_true_eq, List.all_eq_true]
 have hw : ∀ fs : List RawF, wordsB fs 6 = true → wordsB ((fs.map fixQ).map rawQ) 6 = true := fun fs hf => by
  unfold wordsB
  rw [List.all_eq_true]
  intro f hm
  rw [List.map_map] at hm
  obtain ⟨g, hg, rfl⟩ := List.mem_map.1 hm
  exact raw_words (fit_words (List.all_eq_true.1 hf g hg) (by decide))
 refine ⟨k1, ?_, k3, ?_, hw _ k5, fun r hm => ?_⟩
 ·show ((p.rows.map cleanR ++ l.map fun v => unitQ p.vars.toNat v (-1) 1).map rawR).length ≤ j
  simp only [lmp, lap]
  omega
 ·show ((p.goal.map fixQ).map rawQ).length ≤ 20
  rw [lmp, lmp]; exact k4
 ·have hm' : r ∈ (p.rows.map cleanR ++ l.map fun v => unitQ p.vars.toNat v (-1) 1).map rawR := hm
  rw [List.map_append, List.mem_append] at hm'
  rcases hm' with hm' | hm'
  ·rw [List.map_map] at hm'
   obtain ⟨r0, h0, rfl⟩ := List.mem_map.1 hm'
   obtain ⟨u1, u2, u3⟩ := k6 r0 h0
   unfold rowIn
   simp only [Bool.and_eq_true, decide_eq_true_eq]
   refine ⟨?_, hw _ u2, words1 (raw_words (fit_words u3 (by decide)))⟩
   show ((r0.a.map fixQ).map rawQ).length ≤ 20
   rw [lmp, lmp]; exact u1
  ·rw [List.map_map] at hm'
   obtain ⟨v, h0, rfl⟩ := List.mem_map.1 hm'
   exact unit_in (by omega) (Or.inr rfl)
noncomputable def goalA (p : ProgF) (X : Nat → Rat) : Rat := sumN (fun v => fixQ (nthF p.goal v) * X v) p.vars.toNat
theorem rest_mem {l : List Int} {x : Int} (h : (restL l x).length ≠ l.length) : x ∈ l := by
 refine Classical.byContradiction fun hn => h ?_
 unfold restL
 rw [List.filter_eq_self.2]
 intro y hy
 exact decide_eq_true fun e => hn (e ▸ hy)
theorem rest_sub {l : List Int} {x y : Int} (h : y ∈ restL l x) : y ∈ l := (List.mem_filter.1 h).1
theorem rest_lt {l : List Int} {x : Int} (h : (restL l x).length ≠ l.length) : (restL l x).length < l.length := by
 have := List.length_filter_le (fun y => decide (y ≠ x)) l
 unfold restL at *
 omega
theorem proves_sound {cs : List CaseF} {lim : Option Rat} {cm : Nat} (hcs : ∀ c ∈ cs, certB c.cert cm = true) : ∀ (n : Nat) (p : ProgQ) (at_ : Int) (op : List Int) (left k : Nat) (X : Nat → Rat), withinB (rawP p) 20 k = true → k + op.length ≤ 30 →
  (∀ v ∈ op, 0 ≤ v ∧ v < p.vars) → (∀ v ∈ op, X v.toNat = 0 ∨ X v.toNat = 1) → FitsN (rawP p) p.vars.toNat X → (provesM cs lim n p at_ op left).1 = true → ∃ q, lim = some q ∧ goalA (rawP p) X ≤ q
 | 0, p, at_, op, left, k, X, _, _, _, _, _, h => by cases h
 | n + 1, p, at_, op, left, k, X, hw, hk, hop, hX, hF, h => by
  have hw' := within_mono hw (Nat.le_refl 20) (show k ≤ 30 by omega)
  rw [provesM] at h
  split at h
  ·cases h
  ·split at h
   ·cases h
   ·rename_i c hc
    have hcm := hcs c (mog hc)
    split at h
    ·have best : ∀ q, judgeB (rawP p) c.cert = true → c.cert.kind = 1 → ordQ (valueP (rawP p) c.cert.x) q ≤ 0 → goalA (rawP p) X ≤ q := fun q h1 h2 h3 => by
      obtain ⟨hr, hl, _, hall⟩ := judge_best hw' hcm h2 h1
      have h4 := hall X hF
      unfold valueP at h3
      rw [if_neg (by simp [hr, hl]), value_n hw' (certB_ok hcm).2.1 (by decide) (by decide) hr hl, ord_le] at h3
      exact Rat.le_trans h4 h3
     have h' : leafB p c.cert lim = true := h
     cases lim with
     | none =>
      unfold leafB at h'
      simp only [Bool.and_eq_true, decide_eq_true_eq] at h'
      exact (judge_none hw' hcm h'.2 h'.1 X hF).elim
     | some q =>
      unfold leafB at h'
      simp only [Bool.and_eq_true, Bool.or_eq_true, decide_eq_true_eq] at h'
      obtain ⟨h1, h2 | ⟨h2, h3⟩⟩ := h'
      ·exact (judge_none hw' hcm h2 h1 X hF).elim
      ·exact ⟨q, rfl, best q h1 h2 h3⟩
    ·split at h
     ·cases h
     ·rename_i hno
      have hne : (restL op c.var).length ≠ op.length := fun e => hno (Or.inl e)
      have hm := rest_mem hne
      have hlt := rest_lt hne
      obtain ⟨h0, h1⟩ := hop _ hm
      split at h
      ·rename_i hz
       rcases hX _ hm with e | e
       ·exact proves_sound hcs n (branchQ p c.var 0) c.zero (restL op c.var) _ (k + 1) X (branch_in hw (Or.inl rfl)) (by omega) (fun v hv => hop v (rest_sub hv)) (fun v hv => hX v (rest_sub hv)) (branch_fits h0 h1 (Or.inl rfl) e hF) hz
       ·exact proves_sound hcs n (branchQ p c.var 1) c.one (restL op c.var) _ (k + 1) X (branch_in hw (Or.inr rfl)) (by omega) (fun v hv => hop v (rest_sub hv)) (fun v hv => hX v (rest_sub hv)) (branch_fits h0 h1 (Or.inr rfl) e hF) h
      ·cases h
theorem goal_bounded {p : ProgF} {l : List Int} {X : Nat → Rat} (hr : rightP p = 0) : goalA (rawP (boundedQ p l)) X = goalA p X := by
 have hrl := rightP_len hr
 unfold goalA
 exact sumN_congr fun v hv => by
  show fixQ (nthF ((p.goal.map fixQ).map rawQ) v) * X v = _
  rw [nth_clean (n := p.vars.toNat) (by omega) hv]
theorem wholes_ok {p : ProgF} {l : List Int} (h : wholesP p l = 0) : rightP p = 0 ∧ ∀ v ∈ l, 0 ≤ v ∧ v < p.vars := by
 unfold wholesP at h
 split at h
 ·rename_i h1; exact absurd h h1
 ·rename_i h1
  split at h
  ·cases h
  ·rename_i h2
   unfold distinctB at h2
   simp only [decide_eq_false_iff_not, Classical.not_not] at h2
   exact ⟨Classical.byContradiction h1, h2.1⟩
theorem trees_plain {p : ProgF} {l : List Int} {t : TreeF} {x : List RawF} {cm : Nat} (hp : withinB p 8 12 = true) (hl : l.length ≤ 6) (htx : wordsB t.x 12 = true) (hcs : ∀ c ∈ t.cases, certB c.cert cm = true) (hx : wordsB x 6 = true) (h : treeB p l t = true) (hf : fitsP p x = true)
  (hX : ∀ v ∈ l, vecA x v.toNat = 0 ∨ vecA x v.toNat = 1) : t.kind = 3 ∨ t.kind = 1 ∧ ordQ (valueP p x) (valueP p t.x) ≤ 0 := by
 have hp' := within_mono hp (show 8 ≤ 20 by decide) (show 12 ≤ 30 by decide)
 unfold fitsP at hf
 simp only [Bool.and_eq_true, decide_eq_true_eq] at hf
 obtain ⟨hr, hf⟩ := hf
 obtain ⟨hxl, hF⟩ := fits_n hp' hx (by decide) (by decide) hr hf
 unfold treeB at h
 split at h
 ·cases h
 ·rename_i hw
  obtain ⟨_, hlv⟩ := wholes_ok (Classical.byContradiction hw)
  have hB := bounded_fits (l := l) hr hlv (fun v hv => by rcases hX v hv with e | e <;> rw [e] <;> decide) hF
  have hS := fun lim hh => proves_sound (lim := lim) hcs (t.cases.length + 1) (boundedQ p l) 0 l t.cases.length 18 (vecA x) (bounded_in (k := 12) (within_mono hp (by decide) (Nat.le_refl _)) (by omega)) (by omega) hlv hX hB hh
  split at h
  ·obtain ⟨q, e, _⟩ := hS none h
   cases e
  ·split at h
   ·cases h
   ·rename_i hk2 hk
    by_cases h3 : t.kind = 3
    ·exact Or.inl h3
    ·right
     have h1 : t.kind = 1 := by omega
     refine ⟨h1, ?_⟩
     split at h
     ·cases h
     ·split at h
      ·cases h
      ·obtain ⟨q, e, hle⟩ := hS _ h
       cases e
       rw [goal_bounded hr] at hle
       rw [ord_le]
       unfold valueP at hle ⊢
       rw [if_neg (by simp [hr, hxl]), value_n hp' hx (by decide) (by decide) hr hxl]
       exact hle
def ECase0 (w : World) (vs : Array Value) (c : CaseF) : Prop := ∃ v1 v2 v3, vs = #[.int .i64 c.var, .int .i64 c.zero, .int .i64 c.one, .int .i64 c.cert.kind, v1, v2, v3] ∧ (I64 c.var ∧ I64 c.zero ∧ I64 c.one) ∧ CG0 w (.agg #[.int .i64 c.cert.kind, v1, v2, v3]) c.cert
theorem ECase0.stays : Stays ECase0 := fun w w1 vs c h hb => by
 obtain ⟨v1, v2, v3, e, hi, hc⟩ := h
 exact ⟨v1, v2, v3, e, hi, hc.of_below hb⟩
abbrev CL0 (w : World) (v : Value) (cs : List CaseF) : Prop := SL 7 ECase0 w v cs
theorem CL0.at7 {w : World} {A : Option Addr} {n c : Nat} {cs : List CaseF} (h : CL0 w (.slice A n c) cs) {j : Nat} {x : CaseF} (hj : cs[j]? = some x) :
  ∃ g o B1 d1 B2 d2 B3 d3, A = some ⟨g, o, none⟩ ∧ g < w.heap.size ∧ (w.cell? ⟨g, o + j * 7, none⟩ = some (.int .i64 x.var) ∧ w.cell? ⟨g, o + j * 7 + 1, none⟩ = some (.int .i64 x.zero) ∧ w.cell? ⟨g, o + j * 7 + 2, none⟩ = some (.int .i64 x.one) ∧ w.cell? ⟨g, o + j * 7 + 3, none⟩ = some (.int .i64 x.cert.kind) ∧
   w.cell? ⟨g, o + j * 7 + 4, none⟩ = some (.slice B1 x.cert.x.length d1) ∧ w.cell? ⟨g, o + j * 7 + 5, none⟩ = some (.slice B2 x.cert.y.length d2) ∧ w.cell? ⟨g, o + j * 7 + 6, none⟩ = some (.slice B3 x.cert.ray.length d3)) ∧ Hid (CG0 w (.agg #[.int .i64 x.cert.kind, .slice B1 x.cert.x.length d1, .slice B2 x.cert.y.length d2, .slice B3 x.cert.ray.length d3]) x.cert) := by
 obtain ⟨g, o, vs, hA, hg, hs, hc, v1, v2, v3, rfl, hi, hcr⟩ := h.at_ hj
 obtain ⟨B1, d1, B2, d2, B3, d3, e, _, _, _⟩ := hcr.opened
 injection e with e
 injection e with e
 injection e with e0 e
 injection e with e1 e
 injection e with e2 e
 injection e with e3 e
 subst e1 e2 e3
 exact ⟨g, o, B1, d1, B2, d2, B3, d3, hA, hg, ⟨hc 0 _ rfl, hc 1 _ rfl, hc 2 _ rfl, hc 3 _ rfl, hc 4 _ rfl, hc 5 _ rfl, hc 6 _ rfl⟩, hcr⟩
def TG0 (w : World) (v : Value) (t : TreeF) : Prop := (t.x.length ≤ 9223372036854775807 ∧ t.ray.length ≤ 9223372036854775807 ∧ t.cases.length ≤ 9223372036854775807) ∧ ∃ v1 v2 v3, v = .agg #[.int .i64 t.kind, v1, v2, v3] ∧ I64 t.kind ∧ FL0 w v1 t.x ∧ FL0 w v2 t.ray ∧ CL0 w v3 t.cases
theorem TG0.of_below {w w1 : World} {v : Value} {t : TreeF} (h : TG0 w v t) (hb : Below w.heap.size w w1) : TG0 w1 v t := by
 obtain ⟨hl, v1, v2, v3, e, hi, h1, h2, h3⟩ := h
 exact ⟨hl, v1, v2, v3, e, hi, h1.below EF0.stays hb, h2.below EF0.stays hb, SL.below ECase0.stays h3 hb⟩
theorem TG0.opened {w : World} {v : Value} {t : TreeF} (h : TG0 w v t) : ∃ A1 c1 A2 c2 A3 c3, v = .agg #[.int .i64 t.kind, .slice A1 t.x.length c1, .slice A2 t.ray.length c2, .slice A3 t.cases.length c3] ∧ Hid (FL0 w (.slice A1 t.x.length c1) t.x) ∧ Hid (FL0 w (.slice A2 t.ray.length c2) t.ray) ∧ Hid (CL0 w (.slice A3 t.cases.length c3) t.cases) := by
 obtain ⟨_, v1, v2, v3, rfl, hi, h1, h2, h3⟩ := h
 exact sq45 _
def treeIn (t : TreeF) : Bool := decide (t.cases.length ≤ 800) && (certB ⟨0, t.x, [], t.ray⟩ 41 && t.cases.all fun c => certB c.cert 41)
theorem treeIn_ok {t : TreeF} (h : treeIn t = true) : t.cases.length ≤ 800 ∧ certB ⟨0, t.x, [], t.ray⟩ 41 = true ∧ ∀ c ∈ t.cases, certB c.cert 41 = true := by
 unfold treeIn at h
 simp only [Bool.and_eq_true, decide_eq_true_eq, List.all_eq_true] at h
 exact h
theorem TG0.full {w : World} {v : Value} {t : TreeF} (h : TG0 w v t) (ht : treeIn t = true) : TR w v t := by
 obtain ⟨_, h1, h2⟩ := treeIn_ok ht
 obtain ⟨_, hx, _, hr⟩ := certB_ok h1
 obtain ⟨hl, v1, v2, v3, e, hi, f1, f2, f3⟩ := h
 have f4 := SL.mapE (F := ECase) id f3 fun vs c hm he => by
  obtain ⟨u1, u2, u3, e, hi, hc⟩ := he
  exact ⟨u1, u2, u3, e, hi, hc.full (h2 c hm)⟩
 rw [List.map_id] at f4
 exact ⟨v1, v2, v3, e, hi, f1.full (by decide) hx, f2.full (by decide) hr, f4⟩
theorem nil_fl0 (w : World) : FL0 w (.slice none 0 0) [] := ⟨none, 0, rfl, Nat.le_refl _, fun h => absurd h (by simp)⟩
theorem treein_calls (w : World) (v : Value) (t : TreeF) (h : TG0 w v t) : Calls Try.prog 37 #[v] w fun e w' => BPost w (treeIn t) e w' := by
 have hl := h.1
 have hl3 := hl.2.2
 have HLX : Hid (t.x.length ≤ 9223372036854775807 ∧ t.ray.length ≤ 9223372036854775807) := ⟨hl.1, hl.2.1⟩
 obtain ⟨B1, d1, B2, d2, B3, d3, rfl, HX, HR, HC⟩ := h.opened
 clear h hl
 obtain ⟨kd, hkd⟩ : ∃ n, n = t.kind := ⟨_, rfl⟩
 rw [← hkd]
 clear hkd
 go_enter Try.func37, Try.ntmps37
 by_cases a1 : 800 < t.cases.length
 ·have b1 : (800 : Int) < (t.cases.length : Int) := by omega
  have b2 : decide ((800 : Int) < (t.cases.length : Int)) = true := decide_eq_true b1
  have HE : Hid (treeIn t = false) := by unfold Hid treeIn; rw [decide_eq_false (by omega)]; rfl
  clear a1
  go_wp2_with fail
  go_ret
  exact ⟨by rw [HE.out]; rfl, below_new w _⟩
 have b1 : ¬ ((800 : Int) < (t.cases.length : Int)) := by omega
 have b2 : decide ((800 : Int) < (t.cases.length : Int)) = false := decide_eq_false b1
 have HA1 := Hd a1
 clear a1
 go_wp2_with fail
 have K0 := Hd (HS.one (w := w) #[.int .i64 kd, .slice B1 t.x.length d1, .slice B2 t.ray.length d2, .slice B3 t.cases.length d3] 56)
 generalize w.alloc (.cells #[.int .i64 kd, .slice B1 t.x.length d1, .slice B2 t.ray.length d2, .slice B3 t.cases.length d3] 56) = W0 at *
 refine (cert_calls W0 _ ⟨0, t.x, [], t.ray⟩ 41 ⟨⟨HLX.out.1, by simp, HLX.out.2⟩, _, _, _, rfl, ⟨by show (-9223372036854775808 : Int) ≤ 0; decide, by show (0 : Int) ≤ 9223372036854775807; decide⟩, HX.out.below EF0.stays K0.out.2, nil_fl0 _, HR.out.below EF0.stays K0.out.2⟩ (by decide)).mono ?_
 rintro e w1 ⟨rfl, hb⟩
 have K1 := Hd (K0.out.step hb)
 clear hb K0
 obtain ⟨y0, y1, y2, y3⟩ := (K1.out.blk 0 rfl).c4
 have hltt := (K1.out.blk 0 rfl).lt
 cases h1 : certB ⟨0, t.x, [], t.ray⟩ 41
 case false =>
  have HE : Hid (treeIn t = false) := by unfold Hid treeIn; rw [h1]; simp
  clear h1
  go_wp2_with fail
  go_ret
  exact ⟨by rw [HE.out]; rfl, K1.out.2⟩
 have HE0 : Hid (treeIn t = t.cases.all fun c => certB c.cert 41) := by unfold Hid treeIn; rw [h1, decide_eq_true (by have := HA1.out; omega)]; rfl
 clear h1
 go_wp2_with fail
 clear y0 y1 y2 y3 hltt
 go_loopw [21] (fun vi wr => ∃ i : Nat, i ≤ t.cases.length ∧ vi = .int .i64 (i : Int) ∧ (∀ (j : Nat) (c : CaseF), j < i → t.cases[j]? = some c → certB c.cert 41 = true) ∧ HS w [(w.heap.size, 56, #[.int .i64 kd, .slice B1 t.x.length d1, .slice B2 t.ray.length d2, .slice B3 t.cases.length d3])] wr) (fun vi _ => t.cases.length - (intOf vi).toNat)
 case atStart => exact ⟨0, Nat.zero_le _, rfl, fun j _ h => absurd h (Nat.not_lt_zero _), K1.out⟩
 case round =>
  obtain ⟨i, hi, rfl, hall, hs⟩ := hrel
  have HA := Hd hall
  have KK := Hd hs
  clear hall hs K1
  by_cases hlt : i < t.cases.length
  ·obtain ⟨c, hc⟩ : ∃ c, t.cases[i]? = some c := ⟨t.cases[i], geq hlt⟩
   obtain ⟨gC, oC, D1, e1, D2, e2, D3, e3, rfl, hgC, ⟨k0, k1, k2, k3, k4, k5, k6⟩, HCR⟩ := CL0.at7 (SL.below ECase0.stays HC.out KK.out.2) hc
   have HC1 := Hd hc
   have m1 : (i : Int) < (t.cases.length : Int) := by omega
   have m3 : (i : Int).toNat = i := by omega
   have m4 : (0 : Int) ≤ (i : Int) := by omega
   clear hc
   go_wp2_with fail
   have hbn := below_new wr (.cells #[.int .i64 c.var, .int .i64 c.zero, .int .i64 c.one, .int .i64 c.cert.kind, .slice D1 c.cert.x.length e1, .slice D2 c.cert.y.length e2, .slice D3 c.cert.ray.length e3] 82)
   have K2 := Hd (KK.out.step hbn)
   refine (cert_calls _ _ c.cert 41 (HCR.out.of_below hbn) (by decide)).mono ?_
   rintro e w5 ⟨rfl, hb⟩
   have K5 := Hd (K2.out.step hb)
   clear hb hbn K2 k0 k1 k2 k3 k4 k5 k6 hgC
   cases h2 : certB c.cert 41
   case false =>
    have HE : Hid (treeIn t = false) := by
     unfold Hid
     rw [HE0.out, List.all_eq_false]
     exact ⟨c, mog HC1.out, by simp [h2]⟩
    clear h2
    go_wp2_with fail
    go_ret
    exact ⟨by rw [HE.out]; rfl, K5.out.2⟩
   have HNX : Hid (∀ (j : Nat) (c : CaseF), j < i + 1 → t.cases[j]? = some c → certB c.cert 41 = true) := fun j y hj hy => by
    by_cases hji : j = i
    ·rw [hji, HC1.out] at hy
     injection hy with e
     rw [← e]
     exact h2
    ·exact HA.out j y (by omega) hy
   clear h2
   go_wp2_with fail
   go_roundw
   case rel => exact ⟨i + 1, by omega, by go_num, HNX.out, K5.out⟩
   case measure => simp [intOf]; omega
  ·obtain rfl : i = t.cases.length := by omega
   have HE : Hid (treeIn t = true) := by
    unfold Hid
    rw [HE0.out, List.all_eq_true]
    intro c hc
    obtain ⟨j, hj⟩ := List.getElem?_of_mem hc
    exact HA.out j c (List.getElem?_eq_some_iff.1 hj).1 hj
   go_wp2_with fail
   go_ret
   exact ⟨by rw [HE.out]; rfl, KK.out.2⟩
def QG0 (w : World) (v : Value) (p : ProgF) (xs : List Int) (t : TreeF) : Prop := ∃ a b c d e f g h i, v = .agg #[a, b, c, d, e, f, g, h, i] ∧ PG0 w (.agg #[a, b, c, d]) p ∧ IL w e xs ∧ xs.length ≤ 9223372036854775807 ∧ (∀ x ∈ xs, I64 x) ∧ TG0 w (.agg #[f, g, h, i]) t
theorem tree1_calls (w : World) (v v2 : Value) (p : ProgF) (t : TreeF) (c : CaseF) (h : PR w v p) (h2 : TR w v2 t) (hcs : t.cases = [c]) (hkd0 : t.kind = 1) (hcv : c.var = -1) (hck : c.cert.kind = 1) (hr : rightP p = 0) (hr2 : rightP (rawP (boundedQ p [])) = 0) (hft : fitsB p t.x = true) (hj : judgeB (rawP (boundedQ p [])) c.cert = true)
  (hle : ordQ (valueP (rawP (boundedQ p [])) c.cert.x) (valueP p t.x) ≤ 0) (hlc : c.cert.x.length ≤ 100000 ∧ c.cert.y.length ≤ 100000 ∧ c.cert.ray.length ≤ 100000) (hxx : t.x.length ≤ 100000 ∧ t.ray.length ≤ 100000) : Calls Try.prog 38 #[v, .slice none 0 0, v2] w fun e w' => BPost w true e w' := by
 have hb : treeB p [] t = true := by
  have hw : wholesP p [] = 0 := by
   unfold wholesP
   rw [if_neg (fun h => h hr)]
   rfl
  unfold treeB
  rw [if_neg (fun h => h hw), if_neg (by omega), if_neg (by omega), hft, if_neg (by decide), if_neg (by simp), if_neg (by omega), hcs]
  have h0 := provesM_step (lim := some (valueP p t.x)) (n := 1) (k := 0) (l := 0) (op := []) (cs := [c]) (c := c) (p := boundedQ p []) rfl hr2
  show (provesM [c] (some (valueP p t.x)) (1 + 1) (boundedQ p []) ((0 : Nat) : Int) [] (0 + 1)).1 = true
  rw [h0, if_pos hcv]
  unfold leafB
  rw [hj]
  simp [hck, hle]
 have hrl := rightP_len hr
 rw [← hb]
 exact tree_calls w v _ v2 p [] t h ⟨none, 0, rfl, Nat.le_refl _, fun h => absurd h (by simp)⟩ h2 (by decide) (fun x hx => absurd hx (by simp)) (by omega) (by rw [hcs]; show 1 ≤ 1000000; decide) hxx.1 hxx.2 (fun c' hc' => by rw [hcs] at hc'; rw [List.mem_singleton.1 hc']; exact hlc)
def QuoPost (w : World) (q : Rat) (e : Ending) (w' : World) : Prop := ∃ v, e = .returned (.tuple #[v, .int .i64 0]) ∧ FQ w' v q ∧ Below w.heap.size w w'
theorem size_quot (f g : RawF) (h : fixQ g ≠ 0) : sizeQ (fixQ f * (fixQ g)⁻¹) ≤ 4000000000 := by
 have h1 := (fit_mul (fit_fix f) (c := 8192) (b := 4096) (q := (fixQ g)⁻¹) (by
  have := sizeQ_fix g
  rw [← size_inv h] at this
  unfold sizeQ at this
  exact ⟨by omega, by omega⟩) (by omega)).size
 omega
theorem fdiv_calls (w : World) (v v2 : Value) (f g : RawF) (h : FR w v f) (h2 : FR w v2 g) (hg : fixQ g ≠ 0) : Calls Try.prog 125 #[v, v2] w fun e w' => QuoPost w (capQ (fixQ f * (fixQ g)⁻¹)) e w' := by
 obtain ⟨A1, k1, c1, A2, k2, c2, rfl, HF⟩ := h.opened
 obtain ⟨A3, k3, c3, A4, k4, c4, rfl, HG⟩ := h2.opened
 have HNZ := Hd hg
 have us : (signQ (fixQ g) == 0) = false := bneI' fun e => hg (signQ_zero_iff.1 e)
 clear h h2 hg
 go_enter Try.func125, Try.ntmps125
 go_wp2_with fail
 have H0 := Hd (HS.three (w := w) #[.bool f.neg, .slice A1 k1 c1, .slice A2 k2 c2] #[.bool g.neg, .slice A3 k3 c3, .slice A4 k4 c4] #[.bool false, .slice none 0 0, .slice none 0 0] 40 40 40)
 generalize ((w.alloc (.cells #[.bool f.neg, .slice A1 k1 c1, .slice A2 k2 c2] 40)).alloc (.cells #[.bool g.neg, .slice A3 k3 c3, .slice A4 k4 c4] 40)).alloc (.cells #[.bool false, .slice none 0 0, .slice none 0 0] 40) = W0 at *
 refine (taken_calls _ _ g (HG.out.of_below H0.out.2)).mono ?_
 rintro e w1 ⟨v, rfl, hv, hb⟩
 obtain ⟨A5, n5, c5, A6, n6, c6, rfl, HV⟩ := hv.opened'
 have H1 := Hd (H0.out.step hb)
 clear hv hb
 go_wp2_with fail
 have hbn := below_new w1 (.cells #[.slice A5 n5 c5, .slice A6 n6 c6, .bool (negQ (fixQ g))] 85)
 have HB := Hd (Blk.new w1 85 #[.slice A5 n5 c5, .slice A6 n6 c6, .bool (negQ (fixQ g))])
 have H2 := Hd (H1.out.step hbn)
 have HV2 := Hd (HV.out.of_below hbn)
 obtain ⟨gr, hgr⟩ : ∃ x, x = w1.heap.size := ⟨_, rfl⟩
 rw [← hgr] at HB ⊢
 generalize w1.alloc (.cells #[.slice A5 n5 c5, .slice A6 n6 c6, .bool (negQ (fixQ g))] 85) = W2 at *
 clear hgr hbn
 refine (sign_calls _ _ (fixQ g) HV2.out).mono ?_
 rintro e w3 ⟨rfl, hb⟩
 have H3 := Hd (H2.out.step hb)
 have HB3 := Hd (HB.out.below hb HB.out.lt)
 have HV3 := Hd (HV2.out.of_below hb)
 clear hb
 go_wp2_with fail
 obtain ⟨x0, x1, x2⟩ := (H3.out.blk 2 rfl).c3
 obtain ⟨y0, y1, y2⟩ := HB3.out.c3
 have l0 := (H3.out.blk 2 rfl).lt
 have l1 := HB3.out.lt
 refine wp_chainF (l := [_, _, _, _, _, _, _, _]) (S := Below w3.heap.size w3) 6 [([0, 2], 1), ([], 3), ([], 4), ([], 5)] [] (by kernel_rfl) (by kernel_rfl) (by kernel_rfl) rfl Bd ?_
 refine ⟨?_, _, ?_, rfl, ?_⟩
 rotate_left
 ·repeat (refine pu ?_; (try simp only [SQ]))
  exact rfl
 have D0 : Hid (Below w3.heap.size w3 w3.drew) := Bd
 have B0 := Hd (below_next H3.out.2 D0.out)
 go_wp2_with fail
 refine (taken_calls _ _ f (HF.out.of_below B0.out)).mono ?_
 rintro e w4 ⟨v, rfl, hv, hb⟩
 obtain ⟨A7, n7, c7, A8, n8, c8, rfl, HV4⟩ := hv.opened'
 have D4 := Hd (below_next D0.out hb)
 clear hv hb
 go_wp2_with fail
 refine And.intro D4.out ⟨_, _, rfl, rfl, ?_⟩
 go_wp2_with fail
 refine (over_calls _ _ (fixQ g) (HV3.out.of_below D4.out) HNZ.out).mono ?_
 rintro e w5 ⟨v, rfl, hv, hb⟩
 obtain ⟨A9, n9, c9, A10, n10, c10, rfl, HV5⟩ := hv.opened'
 have D5 := Hd (below_next D4.out hb)
 have HV45 := Hd (HV4.out.of_below hb)
 clear hv hb
 go_wp2_with fail
 refine And.intro D5.out ⟨_, _, rfl, rfl, ?_⟩
 go_wp2_with fail
 refine (times_calls _ _ _ _ _ HV45.out HV5.out (by have := sizeQ_fix f; omega) (by rw [size_inv HNZ.out]; have := sizeQ_fix g; omega)).mono ?_
 rintro e w6 ⟨v, rfl, hv, hb⟩
 obtain ⟨A11, n11, c11, A12, n12, c12, rfl, HV6⟩ := hv.opened'
 have D6 := Hd (below_next D5.out hb)
 clear hv hb
 go_wp2_with fail
 refine And.intro D6.out ⟨_, _, rfl, rfl, ?_⟩
 go_wp2_with fail
 refine (told_calls _ _ _ HV6.out (size_quot f g HNZ.out)).mono ?_
 rintro e w7 ⟨v, rfl, hv, hb⟩
 obtain ⟨A13, n13, c13, A14, n14, c14, rfl, HV7⟩ := hv.opened
 have D7 := Hd (below_next D6.out hb)
 have H7 := Hd (H3.out.step D7.out)
 clear hv hb x0 x1 x2 y0 y1 y2 l0 l1
 go_wp2_with fail
 refine And.intro D7.out ⟨_, rfl, ?_⟩
 obtain ⟨e0, e1, e2⟩ := (H7.out.blk 0 rfl).c3
 obtain ⟨f0, f1, f2⟩ := (H7.out.blk 0 rfl).f3
 have l2 := (H7.out.blk 0 rfl).lt
 go_wp2_with fail
 refine NoPanic.normal ?_
 go_wp2_with fail
 exact ret40i Try.results125 rfl rfl ((H7.out.blk 0 rfl).put3 _ _ _) ⟨_, rfl, HV7.out.put3 (H7.out.blk 0 rfl) ni40 _ _ _, below_put3 H7.out.2 (by omega) _ _ _⟩
def Only (g : Nat) (w w1 : World) : Prop := Keeps w w1 ∧ (∀ k, k < w.heap.size → k ≠ g → w1.heap[k]? = w.heap[k]?) ∧ (w.os = w1.os ∧ w.tape = w1.tape ∧ w.output = w1.output)
theorem Only.of_below {g : Nat} {w w1 : World} (h : Below w.heap.size w w1) : Only g w w1 := ⟨Keeps.of_below h, fun k hk _ => h.block k hk, h.os.symm, h.tape.symm, h.output.symm⟩
theorem Only.trans {g : Nat} {a b c : World} (h : Only g a b) (h2 : Only g b c) : Only g a c :=
 ⟨h.1.trans h2.1, fun k hk hne => (h2.2.1 k (Nat.lt_of_lt_of_le hk h.1.1) hne).trans (h.2.1 k hk hne), h.2.2.1.trans h2.2.2.1, h.2.2.2.1.trans h2.2.2.2.1, h.2.2.2.2.trans h2.2.2.2.2⟩
theorem Only.blk {g k t : Nat} {w w1 : World} {cs : Array Value} (h : Only g w w1) (hb : Blk w k t cs) (hne : k ≠ g) : Blk w1 k t cs := (h.2.1 k hb.lt hne).trans hb
def ChgS (base : Nat) (w w1 : World) : Prop := Keeps w w1 ∧ (∀ k, k < w.heap.size → (k < base ∨ ((∀ cs, ¬ Blk w k 40 cs) ∧ ∀ cs, ¬ Blk w k 3 cs)) → w1.heap[k]? = w.heap[k]?) ∧ (w.os = w1.os ∧ w.tape = w1.tape ∧ w.output = w1.output)
theorem ChgS.of_below {base : Nat} {w w1 : World} (h : Below w.heap.size w w1) : ChgS base w w1 := ⟨Keeps.of_below h, fun k hk _ => h.block k hk, h.os.symm, h.tape.symm, h.output.symm⟩
theorem ChgS.trans {base : Nat} {a b c : World} (h : ChgS base a b) (h2 : ChgS base b c) : ChgS base a c := by
 refine ⟨h.1.trans h2.1, fun k hk hh => ?_, h.2.2.1.trans h2.2.2.1, h.2.2.2.1.trans h2.2.2.2.1, h.2.2.2.2.trans h2.2.2.2.2⟩
 have h3 := h.2.1 k hk hh
 refine (h2.2.1 k (Nat.lt_of_lt_of_le hk h.1.1) ?_).trans h3
 rcases hh with hh | hh
 ·exact .inl hh
 ·exact .inr ⟨fun cs hb => hh.1 cs (h3.symm.trans hb), fun cs hb => hh.2 cs (h3.symm.trans hb)⟩
theorem ChgS.of_only {base g t : Nat} {w w1 : World} {cs : Array Value} (h : Only g w w1) (hb : Blk w g t cs) (hg : base ≤ g) (ht : t = 40 ∨ t = 3) : ChgS base w w1 := by
 refine ⟨h.1, fun k hk hh => h.2.1 k hk fun e => ?_, h.2.2⟩
 subst e
 rcases hh with hh | hh
 ·omega
 ·rcases ht with rfl | rfl
  ·exact hh.1 cs hb
  ·exact hh.2 cs hb
theorem Blk.chgS {base g t : Nat} {w w1 : World} {cs : Array Value} (h : Blk w g t cs) (hc : ChgS base w w1) (h40 : t ≠ 40) (h3 : t ≠ 3) : Blk w1 g t cs := by
 refine (hc.2.1 g h.lt (.inr ⟨fun cs' hb => h40 ?_, fun cs' hb => h3 ?_⟩)).trans h
 ·have := h.symm.trans hb
  injection this with this
  injection this
 ·have := h.symm.trans hb
  injection this with this
  injection this
theorem ChgS.below {base : Nat} {w w1 : World} (h : ChgS base w w1) (hb : base ≤ w.heap.size) : Below base w w1 :=
 ⟨h.2.2.1.symm, h.2.2.2.1.symm, h.2.2.2.2.symm, h.1.1, fun k hk => h.2.1 k (Nat.lt_of_lt_of_le hk hb) (.inl hk)⟩
def RowV (w : World) (g : Nat) (qs : List Rat) : Prop := ∃ cs : Array Value, Blk w g 40 cs ∧ (∀ u ∈ cs, notWord u = true) ∧ ∀ (j : Nat) (x : Rat), qs[j]? = some x → ∃ a b c, cs[j * 3]? = some a ∧ cs[j * 3 + 1]? = some b ∧ cs[j * 3 + 2]? = some c ∧ FQ w (.agg #[a, b, c]) x
theorem RowV.same {w w1 : World} {g : Nat} {qs : List Rat} (h : RowV w g qs) (he : w1.heap[g]? = w.heap[g]?) (hk : Keeps w w1) : RowV w1 g qs := by
 obtain ⟨cs, hb, hn, hx⟩ := h
 refine ⟨cs, he.trans hb, hn, fun j x hj => ?_⟩
 obtain ⟨a, b, c, e0, e1, e2, hE⟩ := hx j x hj
 exact ⟨a, b, c, e0, e1, e2, FQ.keeps hE hk⟩
theorem QO.v {base : Nat} {w : World} {g n c : Nat} {qs : List Rat} (h : QO base w (.slice (some ⟨g, 0, none⟩) n c) qs) : RowV w g qs ∧ base ≤ g := by
 obtain ⟨xs, h1, h2⟩ := h
 rcases h1.2 with ⟨e, _⟩ | ⟨g', cap, cur, e, hbg, hb, hnc, _, hcs, htake, hw⟩
 ·cases e
 ·injection e with e _ _
  injection e with e
  injection e with e
  subst e
  refine ⟨⟨cur, hb, hw, fun j x hj => ?_⟩, hbg⟩
  obtain ⟨vs, hv, hc, hE⟩ := h2 j x hj
  have hjl := (List.getElem?_eq_some_iff.1 hj).1
  have get : ∀ i u, vs[i]? = some u → cur[j * 3 + i]? = some u := fun i u hi => by
   have h3 := hc i u hi
   rw [← htake, List.getElem?_take] at h3
   split at h3
   ·simpa using h3
   ·cases h3
  have e0 : ∃ a, vs[0]? = some a := ⟨vs[0], Array.getElem?_eq_getElem (by omega)⟩
  have e1 : ∃ a, vs[1]? = some a := ⟨vs[1], Array.getElem?_eq_getElem (by omega)⟩
  have e2 : ∃ a, vs[2]? = some a := ⟨vs[2], Array.getElem?_eq_getElem (by omega)⟩
  obtain ⟨a, e0⟩ := e0
  obtain ⟨b, e1⟩ := e1
  obtain ⟨d, e2⟩ := e2
  have hvs : vs = #[a, b, d] := by
   refine Array.ext_getElem? fun i => ?_
   match i with
   | 0 => exact e0
   | 1 => exact e1
   | 2 => exact e2
   | k + 3 => rw [Array.getElem?_eq_none (by omega), Array.getElem?_eq_none (by simp)]
  subst hvs
  exact ⟨a, b, d, by have := get 0 a e0; simpa using this, get 1 b e1, get 2 d e2, hE⟩
theorem RowV.set {w w1 : World} {g i : Nat} {qs : List Rat} {q : Rat} {a b c : Value} (h : RowV w g qs) (hi : i < qs.length) (hw : w1 = ((w.setCell ⟨g, i * 3, none⟩ a).setCell ⟨g, i * 3 + 1, none⟩ b).setCell ⟨g, i * 3 + 2, none⟩ c) (hk : Keeps w w1) (hq : FQ w (.agg #[a, b, c]) q) (hn : ∀ u ∈ #[a, b, c], notWord u = true) : RowV w1 g (qs.set i q) := by
 subst hw
 obtain ⟨cs, hb, hcn, he⟩ := h
 have hset : ∀ {xs : Array Value} {i : Nat} {v : Value}, (∀ x ∈ xs, notWord x = true) → notWord v = true → ∀ x ∈ xs.setIfInBounds i v, notWord x = true := fun {xs i v} h1 h2 x hx => by
  rcases Array.mem_or_eq_of_mem_setIfInBounds hx with h | h
  ·exact h1 x h
  ·rw [h]; exact h2
 have hil : i * 3 + 2 < cs.size := by
  obtain ⟨_, _, _, _, _, e2, _⟩ := he i _ (geq hi)
  exact (Array.getElem?_eq_some_iff.1 e2).1
 refine ⟨_, ((hb.put (i * 3) a).put (i * 3 + 1) b).put (i * 3 + 2) c, hset (hset (hset hcn (hn _ (by simp))) (hn _ (by simp))) (hn _ (by simp)), fun j y hy => ?_⟩
 by_cases hj : j = i
 ·subst hj
  rw [List.getElem?_set_self hi] at hy
  injection hy with hxy
  subst hxy
  refine ⟨a, b, c, ?_, ?_, ?_, FQ.keeps hq hk⟩
  ·exact sq48 _
  ·exact sq64 _
  ·rw [Array.getElem?_setIfInBounds_self]; rw [if_pos (by simp; omega)]
 ·rw [List.getElem?_set_ne (by omega)] at hy
  obtain ⟨a', b', c', h0, h1, h2, h3⟩ := he j y hy
  refine ⟨a', b', c', ?_, ?_, ?_, FQ.keeps h3 hk⟩
  ·exact sq67 _
  ·exact sq68 _
  ·rw [Array.getElem?_setIfInBounds_ne (by omega), Array.getElem?_setIfInBounds_ne (by omega), Array.getElem?_setIfInBounds_ne (by omega)]; exact h2
def IRow (w : World) (g : Nat) (l : List Int) : Prop := ∃ cs : Array Value, Blk w g 3 cs ∧ (∀ u ∈ cs, notWord u = true) ∧ ∀ (j : Nat) (x : Int), l[j]? = some x → cs[j]? = some (Value.int .i64 x)
structure View (base : Nat) (H : Nat → Option (List Rat)) (I : Nat → Option (List Int)) (w : World) : Prop where
 size : base ≤ w.heap.size
 frac : ∀ g qs, H g = some qs → base ≤ g ∧ (∀ q ∈ qs, Small q) ∧ RowV w g qs
 int : ∀ g l, I g = some l → base ≤ g ∧ IRow w g l
def upd {α : Type} (H : Nat → Option α) (g : Nat) (x : α) : Nat → Option α := fun k => if k = g then some x else H k
theorem upd_self {α : Type} (H : Nat → Option α) (g : Nat) (x : α) : upd H g x g = some x := if_pos rfl
theorem upd_ne {α : Type} {H : Nat → Option α} {g k : Nat} {x : α} (h : k ≠ g) : upd H g x k = H k := if_neg h
theorem upd_upd {α : Type} (H : Nat → Option α) (g : Nat) (x y : α) : upd (upd H g x) g y = upd H g y := by
 funext k
 unfold upd
 split <;> rfl
theorem upd_same {α : Type} {H : Nat → Option α} {g : Nat} {x : α} (h : H g = some x) : upd H g x = H := by
 funext k
 unfold upd
 split
 ·rename_i e; rw [e, h]
 ·rfl
section
variable {base : Nat} {H : Nat → Option (List Rat)} {I : Nat → Option (List Int)} {w w1 : World}
theorem View.below (h : View base H I w) (hb : Below w.heap.size w w1) : View base H I w1 := by
 refine ⟨Nat.le_trans h.size hb.size, fun g qs hg => ?_, fun g l hg => ?_⟩
 ·obtain ⟨h1, h2, h3⟩ := h.frac g qs hg
  have hlt : g < w.heap.size := by obtain ⟨cs, hb, _⟩ := h3; exact hb.lt
  exact ⟨h1, h2, h3.same (hb.block g hlt) (Keeps.of_below hb)⟩
 ·obtain ⟨h1, cs, h2, h3, h4⟩ := h.int g l hg
  exact ⟨h1, cs, h2.below hb h2.lt, h3, h4⟩
theorem View.lt {g : Nat} {qs : List Rat} (h : View base H I w) (hg : H g = some qs) : g < w.heap.size := by
 obtain ⟨_, _, cs, hb, _⟩ := h.frac g qs hg
 exact hb.lt
theorem View.ge {g : Nat} {qs : List Rat} (h : View base H I w) (hg : H g = some qs) : base ≤ g := (h.frac g qs hg).1
theorem View.blk {g : Nat} {qs : List Rat} (h : View base H I w) (hg : H g = some qs) : ∃ cs, Blk w g 40 cs ∧ ∀ u ∈ cs, notWord u = true := by
 obtain ⟨_, _, cs, hb, hn, _⟩ := h.frac g qs hg
 exact ⟨cs, hb, hn⟩
theorem View.small {g i : Nat} {qs : List Rat} {q : Rat} (h : View base H I w) (hg : H g = some qs) (hi : qs[i]? = some q) : Small q := (h.frac g qs hg).2.1 q (mog hi)
theorem View.at_ {g i : Nat} {qs : List Rat} {q : Rat} (h : View base H I w) (hg : H g = some qs) (hi : qs[i]? = some q) :
  ∃ A1 n1 c1 A2 n2 c2, w.cell? ⟨g, i * 3, none⟩ = some (.bool (negQ q)) ∧ w.cell? ⟨g, i * 3 + 1, none⟩ = some (.slice A1 n1 c1) ∧ w.cell? ⟨g, i * 3 + 2, none⟩ = some (.slice A2 n2 c2) ∧ Hid (FQ w (.agg #[.bool (negQ q), .slice A1 n1 c1, .slice A2 n2 c2]) q) := by
 obtain ⟨_, _, cs, hb, hn, hx⟩ := h.frac g qs hg
 obtain ⟨a, b, c, e0, e1, e2, hE⟩ := hx i q hi
 have hE' : FQ w (.agg #[a, b, c]) q := hE
 obtain ⟨A1, n1, c1, A2, n2, c2, e, HQ⟩ := hE'.opened
 injection e with e
 injection e with e
 injection e with ea e
 injection e with eb e
 injection e with ec _
 subst ea eb ec
 exact ⟨A1, n1, c1, A2, n2, c2, hb.cell e0, hb.cell e1, hb.cell e2, HQ⟩
theorem View.free {g : Nat} {qs : List Rat} (h : View base H I w) (hg : H g = some qs) (j : Nat) : w.frozen? ⟨g, j, none⟩ = false := by
 obtain ⟨cs, hb, _⟩ := h.blk hg
 exact hb.frozen j
def put3 (w : World) (g o : Nat) (a b c : Value) : World := ((w.setCell ⟨g, o, none⟩ a).setCell ⟨g, o + 1, none⟩ b).setCell ⟨g, o + 2, none⟩ c
theorem put3_only {g o : Nat} {a b c : Value} {t : Nat} {cs : Array Value} (hb : Blk w g t cs) (hn : ∀ u ∈ cs, notWord u = true) : Only g w (put3 w g o a b c) := by
 have hsz : w.heap.size ≤ (put3 w g o a b c).heap.size := by simp [put3, World.setCell]
 have hot : ∀ k, k < w.heap.size → k ≠ g → (put3 w g o a b c).heap[k]? = w.heap[k]? := fun k _ hkg => by
  unfold put3
  exact sq61 _
 exact ⟨Keeps.apart hb hn hsz hot, hot, rfl, rfl, rfl⟩
theorem View.set {g i : Nat} {qs : List Rat} {q : Rat} {s : Bool} {A1 A2 : Option Addr} {n1 c1 n2 c2 : Nat} (h : View base H I w) (hg : H g = some qs) (hi : i < qs.length) (hs : Small q) (hq : FQ w (.agg #[.bool s, .slice A1 n1 c1, .slice A2 n2 c2]) q) (hI : I g = none) :
  View base (upd H g (qs.set i q)) I (put3 w g (i * 3) (.bool s) (.slice A1 n1 c1) (.slice A2 n2 c2)) ∧ Only g w (put3 w g (i * 3) (.bool s) (.slice A1 n1 c1) (.slice A2 n2 c2)) := by
 obtain ⟨cs, hb, hn⟩ := h.blk hg
 have ho : Only g w (put3 w g (i * 3) (.bool s) (.slice A1 n1 c1) (.slice A2 n2 c2)) := put3_only hb hn
 refine ⟨⟨Nat.le_trans h.size ho.1.1, fun k ks hk => ?_, fun k l hk => ?_⟩, ho⟩
 ·by_cases e : k = g
  ·subst e
   rw [upd_self] at hk
   injection hk with hk
   subst hk
   obtain ⟨h1, h2, h3⟩ := h.frac k qs hg
   refine ⟨h1, fun x hx => ?_, RowV.set h3 hi rfl ho.1 hq (by simp [notWord])⟩
   rcases List.mem_or_eq_of_mem_set hx with hx | rfl
   ·exact h2 x hx
   ·exact hs
  ·rw [upd_ne e] at hk
   obtain ⟨h1, h2, h3⟩ := h.frac k ks hk
   have hlt : k < w.heap.size := by obtain ⟨cs, hb, _⟩ := h3; exact hb.lt
   exact ⟨h1, h2, h3.same (ho.2.1 k hlt e) ho.1⟩
 ·obtain ⟨h1, cs', h2, h3, h4⟩ := h.int k l hk
  have e : k ≠ g := fun e => by rw [e, hI] at hk; cases hk
  exact ⟨h1, cs', ho.blk h2 e, h3, h4⟩
theorem View.add {g : Nat} {qs : List Rat} (h : View base H I w) (hr : RowV w g qs) (hg : base ≤ g) (hs : ∀ q ∈ qs, Small q) : View base (upd H g qs) I w := by
 refine ⟨h.size, fun k ks hk => ?_, h.int⟩
 by_cases e : k = g
 ·subst e
  rw [upd_self] at hk
  injection hk with hk
  subst hk
  exact ⟨hg, hs, hr⟩
 ·rw [upd_ne e] at hk
  exact h.frac k ks hk
theorem View.iat {g i : Nat} {l : List Int} {x : Int} (h : View base H I w) (hg : I g = some l) (hi : l[i]? = some x) : w.cell? ⟨g, i, none⟩ = some (.int .i64 x) ∧ g < w.heap.size ∧ ∀ j, w.frozen? ⟨g, j, none⟩ = false := by
 obtain ⟨_, cs, hb, _, hx⟩ := h.int g l hg
 exact ⟨hb.cell (hx i x hi), hb.lt, hb.frozen⟩
theorem View.iset {g i : Nat} {l : List Int} {x : Int} (h : View base H I w) (hg : I g = some l) (hi : i < l.length) (hH : H g = none) :
  View base H (upd I g (l.set i x)) (w.setCell ⟨g, i, none⟩ (.int .i64 x)) ∧ Only g w (w.setCell ⟨g, i, none⟩ (.int .i64 x)) := by
 obtain ⟨hbg, cs, hb, hn, hx⟩ := h.int g l hg
 have hsz : w.heap.size ≤ (w.setCell ⟨g, i, none⟩ (.int .i64 x)).heap.size := by simp [World.setCell]
 have hot : ∀ k, k < w.heap.size → k ≠ g → (w.setCell ⟨g, i, none⟩ (.int .i64 x)).heap[k]? = w.heap[k]? := fun k _ hkg => Below.heap_setCell _ _ _ k hkg
 have ho : Only g w (w.setCell ⟨g, i, none⟩ (.int .i64 x)) := ⟨Keeps.apart hb hn hsz hot, hot, rfl, rfl, rfl⟩
 refine ⟨⟨Nat.le_trans h.size ho.1.1, fun k ks hk => ?_, fun k m hk => ?_⟩, ho⟩
 ·have e : k ≠ g := fun e => by rw [e, hH] at hk; cases hk
  obtain ⟨h1, h2, h3⟩ := h.frac k ks hk
  have hlt : k < w.heap.size := by obtain ⟨cs, hb, _⟩ := h3; exact hb.lt
  exact ⟨h1, h2, h3.same (ho.2.1 k hlt e) ho.1⟩
 ·by_cases e : k = g
  ·subst e
   rw [upd_self] at hk
   injection hk with hk
   subst hk
   refine ⟨hbg, _, hb.put i _, fun u hu => ?_, fun j y hj => ?_⟩
   ·rcases Array.mem_or_eq_of_mem_setIfInBounds hu with hu | rfl
    ·exact hn u hu
    ·rfl
   ·have hil : i < cs.size := (Array.getElem?_eq_some_iff.1 (hx i _ (geq hi))).1
    by_cases hij : j = i
    ·subst hij
     rw [List.getElem?_set_self hi] at hj
     injection hj with hj
     subst hj
     rw [Array.getElem?_setIfInBounds_self, if_pos hil]
    ·rw [List.getElem?_set_ne (by omega)] at hj
     rw [Array.getElem?_setIfInBounds_ne (by omega)]
     exact hx j y hj
  ·rw [upd_ne e] at hk
   obtain ⟨h1, cs', h2, h3, h4⟩ := h.int k m hk
   exact ⟨h1, cs', ho.blk h2 e, h3, h4⟩
end
theorem View.sep {base : Nat} {H : Nat → Option (List Rat)} {I : Nat → Option (List Int)} {w : World} {g : Nat} {qs : List Rat} (h : View base H I w) (hg : H g = some qs) : I g = none := by
 cases e : I g with
 | none => rfl
 | some l =>
  obtain ⟨_, cs, h1, _⟩ := h.int g l e
  obtain ⟨cs', h2, _⟩ := h.blk hg
  have := h1.symm.trans h2
  injection this with this
  injection this with _ this
  cases this
theorem View.sepi {base : Nat} {H : Nat → Option (List Rat)} {I : Nat → Option (List Int)} {w : World} {g : Nat} {l : List Int} (h : View base H I w) (hg : I g = some l) : H g = none := by
 cases e : H g with
 | none => rfl
 | some qs => rw [h.sep e] at hg; cases hg
def VH (H : Nat → Option (List Rat)) (v : Value) (qs : List Rat) : Prop := (qs = [] ∧ v = .slice none 0 0) ∨ ∃ g c, v = .slice (some ⟨g, 0, none⟩) qs.length c ∧ H g = some qs
def VI (I : Nat → Option (List Int)) (v : Value) (l : List Int) : Prop := (l = [] ∧ v = .slice none 0 0) ∨ ∃ g c, v = .slice (some ⟨g, 0, none⟩) l.length c ∧ I g = some l
def subQ (a b : Rat) : Rat := capQ (a + -b)
def mulQ (a b : Rat) : Rat := capQ (a * b)
def quoQ (a b : Rat) : Rat := capQ (a * b⁻¹)
def mix {α : Type} (X L : List α) (i : Nat) : List α := X.take i ++ L.drop i
theorem mix_zero {α : Type} (X L : List α) : mix X L 0 = L := by simp [mix]
theorem mix_all {α : Type} {X L : List α} (h : X.length = L.length) : mix X L L.length = X := by simp [mix, ← h]
theorem mix_length {α : Type} {X L : List α} (h : X.length = L.length) (i : Nat) : (mix X L i).length = L.length := by simp [mix]; omega
theorem mix_at {α : Type} {X L : List α} (h : X.length = L.length) {i : Nat} {x : α} (hi : L[i]? = some x) : (mix X L i)[i]? = some x := by
 have hl := (List.getElem?_eq_some_iff.1 hi).1
 unfold mix
 rw [List.getElem?_append_right (by simp; omega)]
 simp only [ltk]
 rw [show i - min i X.length = 0 by omega, List.getElem?_drop]
 simpa using hi
theorem mix_set {α : Type} {X L : List α} (h : X.length = L.length) {i : Nat} {x : α} (hi : X[i]? = some x) : (mix X L i).set i x = mix X L (i + 1) := by
 obtain ⟨hl, e⟩ := List.getElem?_eq_some_iff.1 hi
 unfold mix
 rw [List.set_append_right _ _ (by simp; omega)]
 simp only [ltk]
 rw [show i - min i X.length = 0 by omega, List.drop_eq_getElem_cons (by omega : i < L.length), List.set_cons_zero, List.take_add_one, hi]
 simp
theorem mix_skip {α : Type} {X L : List α} (h : X.length = L.length) {i : Nat} {x : α} (hi : X[i]? = some x) (hL : L[i]? = some x) : mix X L (i + 1) = mix X L i := by
 rw [← mix_set h hi]
 have := mix_at h hL
 obtain ⟨hl, e⟩ := List.getElem?_eq_some_iff.1 this
 rw [← e, List.set_getElem_self]
noncomputable def takeE (by_ l r : Rat) : Rat := if r = 0 then l else subQ l (mulQ by_ r)
noncomputable def takeQ (by_ : Rat) (L R : List Rat) : List Rat := L.zipWith (takeE by_) R
theorem takeQ_length {by_ : Rat} {L R : List Rat} (h : R.length = L.length) : (takeQ by_ L R).length = L.length := by simp [takeQ, h]
theorem takeQ_at {by_ : Rat} {L R : List Rat} {i : Nat} {l r : Rat} (hl : L[i]? = some l) (hr : R[i]? = some r) : (takeQ by_ L R)[i]? = some (takeE by_ l r) := by
 unfold takeQ
 rw [List.getElem?_zipWith, hl, hr]
theorem small_cap (q : Rat) : Small (capQ q) := capQ_size q
def TakePost (base gl : Nat) (H : Nat → Option (List Rat)) (I : Nat → Option (List Int)) (L : List Rat) (w : World) (e : Ending) (w' : World) : Prop := e = .returned (.tuple #[]) ∧ View base (upd H gl L) I w' ∧ Only gl w w'
theorem take_calls (base : Nat) (H : Nat → Option (List Rat)) (I : Nat → Option (List Int)) (w : World) (gl gr cl cr : Nat) (L R : List Rat) (vb : Value) (by_ : Rat) (hv : View base H I w) (hL : H gl = some L) (hR : H gr = some R) (hne : gl ≠ gr) (hlen : R.length = L.length) (hb : FQ w vb by_) (hs : Small by_) (hll : L.length ≤ 1000000000) :
  Calls Try.prog 126 #[.slice (some ⟨gl, 0, none⟩) L.length cl, .slice (some ⟨gr, 0, none⟩) L.length cr, vb] w fun e w' => TakePost base gl H I (takeQ by_ L R) w e w' := by
 obtain ⟨A1, n1, c1, A2, n2, c2, rfl, HB⟩ := hb.opened
 have HV := Hd hv
 have HL := Hd hL
 have HR := Hd hR
 have HS1 := Hd hs
 have HLN := Hd hlen
 have HTL : Hid ((takeQ by_ L R).length = L.length) := takeQ_length hlen
 have HNE := Hd hne
 have hgl := hv.lt hL
 have hgr := hv.lt hR
 have HGL := Hd hgl
 have HGR := Hd hgr
 clear hv hL hR hb hs hlen hne hgl hgr
 go_enter Try.func126, Try.ntmps126
 go_wp2_with fail
 have hbn := below_new w (.cells #[.bool (negQ by_), .slice A1 n1 c1, .slice A2 n2 c2] 40)
 have HV0 := Hd (HV.out.below hbn)
 have HX0 := Hd (Blk.new w 40 #[.bool (negQ by_), .slice A1 n1 c1, .slice A2 n2 c2])
 have HB0 := Hd (HB.out.of_below hbn)
 have HO0 := Hd (Only.of_below (g := gl) hbn)
 obtain ⟨gb, hgb⟩ : ∃ g, g = w.heap.size := ⟨_, rfl⟩
 have HGB : Hid (gb ≠ gl) := by unfold Hid; rw [hgb]; exact Nat.ne_of_gt HGL.out
 rw [← hgb] at HX0 ⊢
 generalize w.alloc (.cells #[.bool (negQ by_), .slice A1 n1 c1, .slice A2 n2 c2] 40) = W0 at *
 clear hgb hbn HB
 go_loopw [10] (fun vi wr => ∃ i : Nat, i ≤ L.length ∧ vi = .int .i64 (i : Int) ∧ View base (upd H gl (mix (takeQ by_ L R) L i)) I wr ∧ Blk wr gb 40 #[.bool (negQ by_), .slice A1 n1 c1, .slice A2 n2 c2] ∧ FQ wr (.agg #[.bool (negQ by_), .slice A1 n1 c1, .slice A2 n2 c2]) by_ ∧ Only gl w wr) (fun vi _ => L.length - (intOf vi).toNat)
 case atStart => exact ⟨0, Nat.zero_le _, rfl, by rw [mix_zero, upd_same HL.out]; exact HV0.out, HX0.out, HB0.out, HO0.out⟩
 case round =>
  obtain ⟨i, hi, rfl, hv, hx, hb, ho⟩ := hrel
  have HVr := Hd hv
  have HXr := Hd hx
  have HBr := Hd hb
  have HOr := Hd ho
  clear hv hx hb ho HV0 HX0 HB0 HO0
  by_cases hlt : i < L.length
  ·obtain ⟨l, hl⟩ : ∃ x, L[i]? = some x := ⟨L[i], geq hlt⟩
   obtain ⟨r, hr⟩ : ∃ x, R[i]? = some x := ⟨R[i]'(by rw [HLN.out]; exact hlt), geq _⟩
   have HUR : Hid (upd H gl (mix (takeQ by_ L R) L i) gr = some R) := by unfold Hid; rw [upd_ne HNE.out.symm]; exact HR.out
   have HUL : Hid (upd H gl (mix (takeQ by_ L R) L i) gl = some (mix (takeQ by_ L R) L i)) := upd_self _ _ _
   have HML := Hd (mix_at HTL.out hl)
   have HTI := Hd (takeQ_at (by_ := by_) hl hr)
   have HSR : Hid (Small r) := HVr.out.small HUR.out hr
   have HSL : Hid (Small l) := HVr.out.small HUL.out HML.out
   have HLI := Hd hl
   have HMN : Hid (i < (mix (takeQ by_ L R) L i).length) := by unfold Hid; rw [mix_length HTL.out]; exact hlt
   obtain ⟨A3, n3, c3, A4, n4, c4, k0, k1, k2, HFR⟩ := HVr.out.at_ HUR.out hr
   have hgr := HVr.out.lt HUR.out
   have m1 : (i : Int) < (L.length : Int) := by omega
   have m3 : (i : Int).toNat = i := by omega
   have m4 : (0 : Int) ≤ (i : Int) := by omega
   clear hl hr
   go_wp2_with fail
   have hbn := below_new wr (.cells #[.bool (negQ r), .slice A3 n3 c3, .slice A4 n4 c4] 40)
   have HV1 := Hd (HVr.out.below hbn)
   have HX1 := Hd (HXr.out.below hbn HXr.out.lt)
   have HB1 := Hd (HBr.out.of_below hbn)
   have HR1 := Hd (HFR.out.of_below hbn)
   have HY1 := Hd (Blk.new wr 40 #[.bool (negQ r), .slice A3 n3 c3, .slice A4 n4 c4])
   have HO1 := Hd (HOr.out.trans (Only.of_below hbn))
   obtain ⟨g7, hg7⟩ : ∃ g, g = wr.heap.size := ⟨_, rfl⟩
   have HG7 : Hid (g7 ≠ gl) := by unfold Hid; rw [hg7]; exact Nat.ne_of_gt (HVr.out.lt HUL.out)
   rw [← hg7] at HY1 ⊢
   generalize wr.alloc (.cells #[.bool (negQ r), .slice A3 n3 c3, .slice A4 n4 c4] 40) = W1 at *
   clear hg7 hbn k0 k1 k2 hgr
   refine (sgn_calls _ _ (rawQ r) (FR.of_fq HR1.out HSR.out)).mono ?_
   rintro e w2 ⟨rfl, hb⟩
   rw [fixQ_raw _ HSR.out]
   have HV2 := Hd (HV1.out.below hb)
   have HX2 := Hd (HX1.out.below hb HX1.out.lt)
   have HB2 := Hd (HB1.out.of_below hb)
   have HR2 := Hd (HR1.out.of_below hb)
   have HY2 := Hd (HY1.out.below hb HY1.out.lt)
   have HO2 := Hd (HO1.out.trans (Only.of_below hb))
   clear hb
   by_cases q : r = 0
   ·have u : (signQ r != 0) = false := beqI (signQ_zero_iff.2 q)
    have HNX : Hid (mix (takeQ by_ L R) L (i + 1) = mix (takeQ by_ L R) L i) := mix_skip HTL.out (by rw [HTI.out]; unfold takeE; rw [if_pos q]) HLI.out
    clear q
    go_wp2_with fail
    go_roundw
    case rel => exact ⟨i + 1, by omega, by go_num, by rw [HNX.out]; exact HV2.out, HX2.out, HB2.out, HO2.out⟩
    case measure => simp [intOf]; omega
   ·have u : (signQ r != 0) = true := bneI fun e => q (signQ_zero_iff.1 e)
    have HNX : Hid ((mix (takeQ by_ L R) L i).set i (subQ l (mulQ by_ r)) = mix (takeQ by_ L R) L (i + 1)) := mix_set HTL.out (by rw [HTI.out]; unfold takeE; rw [if_neg q])
    clear q
    obtain ⟨A5, n5, c5, A6, n6, c6, k0, k1, k2, HFL⟩ := HV2.out.at_ HUL.out HML.out
    have hgl := HV2.out.lt HUL.out
    obtain ⟨x0, x1, x2⟩ := HX2.out.c3
    have hlx := HX2.out.lt
    obtain ⟨y0, y1, y2⟩ := HY2.out.c3
    have hly := HY2.out.lt
    go_wp2_with fail
    refine wp_chainF (l := [_, _, _, _, _, _, _, _, _, _, _, _]) (S := Below w2.heap.size w2) 10 [([0, 1, 2, 3, 4, 5, 6, 7], 8), ([], 9)] [] (by kernel_rfl) (by kernel_rfl) (by kernel_rfl) rfl Bd ?_
    refine ⟨?_, _, ?_, rfl, ?_⟩
    rotate_left
    ·repeat (refine pu ?_; (try simp only [SQ]))
     exact rfl
    have D0 : Hid (Below w2.heap.size w2 w2.drew) := Bd
    go_wp2_with fail
    refine (fmul_calls _ _ _ (rawQ by_) (rawQ r) (FR.of_fq (HB2.out.of_below D0.out) HS1.out) (FR.of_fq (HR2.out.of_below D0.out) HSR.out)).mono ?_
    rintro e w4 ⟨v, rfl, hv, hb⟩
    rw [fixQ_raw _ HS1.out, fixQ_raw _ HSR.out] at hv
    have D4 := Hd (below_next D0.out hb)
    have HM4 := Hd hv
    clear hv hb
    go_wp2_with fail
    refine And.intro D4.out ⟨_, _, rfl, rfl, ?_⟩
    go_wp2_with fail
    refine (fsub_calls _ _ _ (rawQ l) (rawQ (capQ (by_ * r))) (FR.of_fq (HFL.out.of_below D4.out) HSL.out) (FR.of_fq HM4.out (small_cap _))).mono ?_
    rintro e w5 ⟨v, rfl, hv, hb⟩
    rw [fixQ_raw _ HSL.out, fixQ_raw _ (small_cap _)] at hv
    obtain ⟨A7, n7, c7, A8, n8, c8, rfl, HF5⟩ := hv.opened
    have D5 := Hd (below_next D4.out hb)
    have HV5 := Hd (HV2.out.below D5.out)
    have HX5 := Hd (HX2.out.below D5.out HX2.out.lt)
    have HB5 := Hd (HB2.out.of_below D5.out)
    have HO5 := Hd (HO2.out.trans (Only.of_below D5.out))
    clear hv hb
    go_wp2_with fail
    refine And.intro D5.out ⟨_, rfl, ?_⟩
    have f0 := HV5.out.free HUL.out (i * 3)
    have f1 := HV5.out.free HUL.out (i * 3 + 1)
    have f2 := HV5.out.free HUL.out (i * 3 + 2)
    have j0 : w5.cell? ⟨gl, i * 3, none⟩ = _ := ((bcell D5.out).1 gl _ hgl).trans k0
    have j1 : w5.cell? ⟨gl, i * 3 + 1, none⟩ = _ := ((bcell D5.out).1 gl _ hgl).trans k1
    have j2 : w5.cell? ⟨gl, i * 3 + 2, none⟩ = _ := ((bcell D5.out).1 gl _ hgl).trans k2
    clear k0 k1 k2 x0 x1 x2 y0 y1 y2 hlx hly
    go_wp2_with fail
    refine NoPanic.normal ?_
    have hst := HV5.out.set HUL.out HMN.out (small_cap _) HF5.out (HV5.out.sep HUL.out)
    go_wp2_with fail
    go_roundw
    case rel => exact ⟨i + 1, by omega, by go_num, by rw [← HNX.out, ← upd_upd]; exact hst.1, hst.2.blk HX5.out HGB.out, HB5.out.keeps hst.2.1, HO5.out.trans hst.2⟩
    case measure => simp [intOf]; omega
  ·obtain rfl : i = L.length := by omega
   rw [mix_all HTL.out] at HVr
   go_wp2_with fail
   go_end0
   exact ⟨rfl, HVr.out, HOr.out⟩
structure Shape where
 p0 : Value
 p1 : Value
 p2 : Value
 p3 : Value
 rows : Value
 right : Value
 base : Value
 plus : Value
 minus : Value
 real : Nat
 width : Nat
 id : Value
 turned : Value
def Shape.cells (s : Shape) : Array Value := #[s.p0, s.p1, s.p2, s.p3, s.rows, s.right, s.base, s.plus, s.minus, .int .i64 (s.real : Int), .int .i64 (s.width : Int), s.id, s.turned]
def VRows (w : World) (v : Value) (width : Nat) (gs : List (Nat × Nat)) : Prop :=
 (gs = [] ∧ v = .slice none 0 0) ∨ ∃ gR c cur, v = .slice (some ⟨gR, 0, none⟩) gs.length c ∧ Blk w gR 23 cur ∧ ∀ (i : Nat) (p : Nat × Nat), gs[i]? = some p → cur[i]? = some (.slice (some ⟨p.1, 0, none⟩) width p.2)
def TabW (w : World) (gt : Nat) (S : Shape) (gs : List (Nat × Nat)) (tn : List Bool) : Prop := Blk w gt 121 S.cells ∧ VRows w S.rows S.width gs ∧ FrO 0 w S.turned tn
theorem BL.same {w w1 : World} {A : Option Addr} {n c : Nat} {bs : List Bool} (h : BL w (.slice A n c) bs) (hs : w.heap.size ≤ w1.heap.size) (he : 0 < bs.length → ∀ g o, A = some ⟨g, o, none⟩ → w1.heap[g]? = w.heap[g]?) : BL w1 (.slice A n c) bs := by
 obtain ⟨A', c', e, hlc, hr⟩ := h
 injection e with e1 e2 e3
 subst e1 e3
 refine ⟨A, c, by rw [e2], hlc, fun hp => ?_⟩
 obtain ⟨g, o, hA, hg, hx⟩ := hr hp
 refine ⟨g, o, hA, Nat.lt_of_lt_of_le hg hs, fun j x hj => ?_⟩
 obtain ⟨vs, h3, h4, h5⟩ := hx j x hj
 refine ⟨vs, h3, fun i u hi => ?_, h5⟩
 have h6 := h4 i u hi
 have h7 := he hp g o hA
 simp only [World.cell?] at h6 ⊢
 rw [h7]
 exact h6
theorem FrO.chgS {base : Nat} {w w1 : World} {v : Value} {bs : List Bool} (h : FrO 0 w v bs) (hc : ChgS base w w1) : FrO 0 w1 v bs := by
 obtain ⟨A, c, rfl, hlc⟩ := h.1.slice
 have same : 0 < bs.length → ∀ g o, A = some ⟨g, o, none⟩ → w1.heap[g]? = w.heap[g]? := fun hp g o hA => by
  obtain ⟨A', c', e, _, hr⟩ := h.1
  injection e with e1 _ _
  subst e1
  obtain ⟨g', o', hA', hg', _⟩ := hr hp
  rw [hA] at hA'
  injection hA' with hA'
  injection hA' with hA' _
  subst hA'
  rcases h.2 g (by rw [hA]; rfl) hp with h3 | ⟨cs, h3⟩
  ·omega
  ·refine hc.2.1 g hg' (.inr ⟨fun cs' h4 => ?_, fun cs' h4 => ?_⟩)
   ·have := h3.symm.trans h4
    injection this with this
    injection this with _ this
    cases this
   ·have := h3.symm.trans h4
    injection this with this
    injection this with _ this
    cases this
 refine ⟨h.1.same hc.1.1 same, fun g hg hl => ?_⟩
 rcases h.2 g hg hl with h3 | ⟨cs, h3⟩
 ·omega
 ·exact .inr ⟨cs, h3.chgS hc (by decide) (by decide)⟩
theorem TabW.chg {base gt : Nat} {w w1 : World} {S : Shape} {gs : List (Nat × Nat)} {tn : List Bool} (h : TabW w gt S gs tn) (hc : ChgS base w w1) : TabW w1 gt S gs tn := by
 refine ⟨h.1.chgS hc (by decide) (by decide), ?_, h.2.2.chgS hc⟩
 rcases h.2.1 with h1 | ⟨gR, c, cur, e, hb, hx⟩
 ·exact .inl h1
 ·exact .inr ⟨gR, c, cur, e, hb.chgS hc (by decide) (by decide), hx⟩
theorem TabW.below {gt : Nat} {w w1 : World} {S : Shape} {gs : List (Nat × Nat)} {tn : List Bool} (h : TabW w gt S gs tn) (hb : Below w.heap.size w w1) : TabW w1 gt S gs tn := h.chg (ChgS.of_below (base := 0) hb)
structure Tab where
 rows : List (List Rat)
 right : List Rat
 base : List Int
 plus : List Int
 minus : List Int
 id : List Int
structure TabV (H : Nat → Option (List Rat)) (I : Nat → Option (List Int)) (S : Shape) (gs : List (Nat × Nat)) (T : Tab) : Prop where
 len : gs.length = T.rows.length
 row : ∀ (i : Nat) (p : Nat × Nat) (q : List Rat), gs[i]? = some p → T.rows[i]? = some q → H p.1 = some q ∧ q.length = S.width
 nodup : (gs.map Prod.fst).Nodup
 right : VH H S.right T.right
 rightLen : T.right.length = T.rows.length
 base : VI I S.base T.base
 baseLen : T.base.length = T.rows.length
 plus : VI I S.plus T.plus
 minus : VI I S.minus T.minus
 id : VI I S.id T.id
 idLen : T.id.length = T.rows.length
 apart : ∀ g c n, S.right = .slice (some ⟨g, 0, none⟩) n c → g ∉ gs.map Prod.fst
theorem VH.slice {H : Nat → Option (List Rat)} {v : Value} {qs : List Rat} (h : VH H v qs) : ∃ A c, v = .slice A qs.length c := by
 rcases h with ⟨rfl, rfl⟩ | ⟨g, c, rfl, _⟩
 ·exact ⟨_, _, rfl⟩
 ·exact ⟨_, _, rfl⟩
theorem VH.at_ {H : Nat → Option (List Rat)} {A : Option Addr} {n c : Nat} {qs : List Rat} (h : VH H (.slice A n c) qs) (hp : 0 < qs.length) : ∃ g, A = some ⟨g, 0, none⟩ ∧ H g = some qs := by
 rcases h with ⟨rfl, _⟩ | ⟨g, c, e, hg⟩
 ·exact absurd hp (by simp)
 ·injection e with e _ _
  exact ⟨g, e, hg⟩
theorem VI.slice {I : Nat → Option (List Int)} {v : Value} {l : List Int} (h : VI I v l) : ∃ A c, v = .slice A l.length c := by
 rcases h with ⟨rfl, rfl⟩ | ⟨g, c, rfl, _⟩
 ·exact ⟨_, _, rfl⟩
 ·exact ⟨_, _, rfl⟩
theorem VI.at_ {I : Nat → Option (List Int)} {A : Option Addr} {n c : Nat} {l : List Int} (h : VI I (.slice A n c) l) (hp : 0 < l.length) : ∃ g, A = some ⟨g, 0, none⟩ ∧ I g = some l := by
 rcases h with ⟨rfl, _⟩ | ⟨g, c, e, hg⟩
 ·exact absurd hp (by simp)
 ·injection e with e _ _
  exact ⟨g, e, hg⟩
theorem VRows.slice {w : World} {v : Value} {k : Nat} {gs : List (Nat × Nat)} (h : VRows w v k gs) : ∃ A c, v = .slice A gs.length c := by
 rcases h with ⟨rfl, rfl⟩ | ⟨g, c, cur, rfl, _⟩
 ·exact ⟨_, _, rfl⟩
 ·exact ⟨_, _, rfl⟩
theorem VRows.at_ {w : World} {A : Option Addr} {n c k i : Nat} {gs : List (Nat × Nat)} {p : Nat × Nat} (h : VRows w (.slice A n c) k gs) (hp : gs[i]? = some p) : ∃ g, A = some ⟨g, 0, none⟩ ∧ g < w.heap.size ∧ w.cell? ⟨g, i, none⟩ = some (.slice (some ⟨p.1, 0, none⟩) k p.2) := by
 rcases h with ⟨rfl, _⟩ | ⟨g, c, cur, e, hb, hx⟩
 ·simp at hp
 ·injection e with e _ _
  exact ⟨g, e, hb.lt, hb.cell (hx i p hp)⟩
theorem Blk.c13 {W : World} {g t : Nat} {c0 c1 c2 c3 c4 c5 c6 c7 c8 c9 c10 c11 c12 : Value} (h : Blk W g t #[c0, c1, c2, c3, c4, c5, c6, c7, c8, c9, c10, c11, c12]) :
  W.cell? ⟨g, 0, none⟩ = some c0 ∧ W.cell? ⟨g, 4, none⟩ = some c4 ∧ W.cell? ⟨g, 5, none⟩ = some c5 ∧ W.cell? ⟨g, 6, none⟩ = some c6 ∧ W.cell? ⟨g, 7, none⟩ = some c7 ∧ W.cell? ⟨g, 8, none⟩ = some c8 ∧ W.cell? ⟨g, 9, none⟩ = some c9 ∧ W.cell? ⟨g, 10, none⟩ = some c10 ∧ W.cell? ⟨g, 11, none⟩ = some c11 ∧ W.cell? ⟨g, 12, none⟩ = some c12 :=
 ⟨h.cell rfl, h.cell rfl, h.cell rfl, h.cell rfl, h.cell rfl, h.cell rfl, h.cell rfl, h.cell rfl, h.cell rfl, h.cell rfl⟩
theorem wpl_copyQ {ops : Array Oper} {rest : List Oper} {o : Oper} {a : Act} {Q : Exit → Act → World → Prop} {W : World} (hgd : o.guard = none) (s x : Operand) (ho : o.op = .call { callee := .builtin .append, args := #[s, x], argTypes := #[23, 23] }) {g n c : Nat} {qs : List Rat}
  (hs : a.eval s = .slice none 0 0) (hx : a.eval x = .slice (some ⟨g, 0, none⟩) n c) (hn : n = qs.length) (hr : RowV W g qs) (hp : 0 < qs.length) (hl : qs.length ≤ 1000000000)
  (h : ∀ g' c' w', W.heap.size ≤ g' → g' < w'.heap.size → RowV w' g' qs → Below W.heap.size W w' → wpList Try.prog ops Q rest (a.put o.dst (.slice (some ⟨g', 0, none⟩) n c')) w') : wpList Try.prog ops Q (o :: rest) a W := by
 subst hn
 obtain ⟨cs, hb, hw, hc⟩ := hr
 have hsz : qs.length * 3 ≤ cs.size := by
  obtain ⟨_, _, _, _, _, e2, _⟩ := hc (qs.length - 1) _ (geq (by omega))
  have := (Array.getElem?_eq_some_iff.1 e2).1
  omega
 have hnl : (cs.toList.take (qs.length * 3)).length = qs.length * 3 := by simp; omega
 have hone : ∀ u ∈ cs.toList.take (qs.length * 3), u.oneCell' = true := fun u hu => by
  obtain ⟨j, hj⟩ := List.getElem?_of_mem hu
  have hjl := (List.getElem?_eq_some_iff.1 hj).1
  rw [hnl] at hjl
  obtain ⟨a', b', c', e0, e1, e2, hE⟩ := hc (j / 3) _ (geq (by omega))
  obtain ⟨A1, n1, c1, A2, n2, c2, e, _⟩ := hE.opened
  injection e with e
  injection e with e
  injection e with ea e
  injection e with eb e
  injection e with ec _
  subst ea eb ec
  have hj' : cs[j]? = some u := by
   obtain ⟨h1, h2⟩ := List.getElem?_eq_some_iff.1 hj
   rw [List.getElem_take] at h2
   have hjc : j < cs.size := by omega
   rw [Array.getElem?_eq_getElem hjc]
   simpa using h2
  have h3 : j % 3 = 0 ∨ j % 3 = 1 ∨ j % 3 = 2 := by omega
  rcases h3 with h3 | h3 | h3
  ·rw [show j / 3 * 3 = j by omega] at e0
   rw [e0] at hj'
   injection hj' with hj'
   rw [← hj']; rfl
  ·rw [show j / 3 * 3 + 1 = j by omega] at e1
   rw [e1] at hj'
   injection hj' with hj'
   rw [← hj']; rfl
  ·rw [show j / 3 * 3 + 2 = j by omega] at e2
   rw [e2] at hj'
   injection hj' with hj'
   rw [← hj']; rfl
 refine wpl_appendR hgd s x 23 ho (base := W.heap.size) zeroF 56 Try.underlying23 info40z rfl zeroF_words (.slice none 0 0) 0 [] hs (OwnR.nil _ _ _ _) ⟨g, 0, none⟩ qs.length c (cs.toList.take (qs.length * 3)) hx hnl (fun j u hj => ?_) hone (fun u hu => hw u (by simpa using List.mem_of_mem_take hu)) hp (by omega) (by omega) (Nat.le_refl _) fun v' w' h3 h4 h5 h6 => ?_
 ·obtain ⟨h1, h2⟩ := List.getElem?_eq_some_iff.1 hj
  rw [List.getElem_take] at h2
  exact lit_cells hb j u (by rw [← h2]; exact geq _)
 ·rw [Nat.zero_add, List.nil_append] at h3
  have hbl : Below W.heap.size W w' := below_none (Below.refl _ _) h4 (by intro k hk; simp [Value.ownBlock] at hk)
  have hk : Keeps W w' := h5
  rcases h3.2 with ⟨e, h0⟩ | ⟨g', cap, cur, rfl, hbg, hb', hnc, _, hcs, htake, hw'⟩
  ·omega
  ·refine h g' cap w' hbg hb'.lt ⟨cur, hb', hw', fun j y hj => ?_⟩ hbl
   have hjl := (List.getElem?_eq_some_iff.1 hj).1
   obtain ⟨a', b', c', e0, e1, e2, hE⟩ := hc j y hj
   have get : ∀ i u, i < 3 → cs[j * 3 + i]? = some u → cur[j * 3 + i]? = some u := fun i u hi hu => by
    have : (cur.toList.take (qs.length * 3))[j * 3 + i]? = some u := by
     rw [htake, List.getElem?_take, if_pos (by omega)]
     simpa using hu
    rw [List.getElem?_take] at this
    split at this
    ·simpa using this
    ·cases this
   exact ⟨a', b', c', by have := get 0 a' (by omega) (by simpa using e0); simpa using this, get 1 b' (by omega) e1, get 2 c' (by omega) e2, FQ.keeps hE hk⟩
end Go.Proofs.Ytfhambfgjigneaa

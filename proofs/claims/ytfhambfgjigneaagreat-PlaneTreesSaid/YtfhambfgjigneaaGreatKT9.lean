/- Contracts of Go functions that the statement reaches, proved by walking their text, and plain laws over them (texts put together). -/
import Derived.Test.YtfhambfgjigneaaGreatKT8
import Derived.Test.YtfhambfgjigneaaGreatKT1
set_option linter.unusedVariables false
set_option linter.unusedSimpArgs false
namespace Go.Proofs.YtfhambfgjigneaaGreat
open Go.RowKit
theorem Row3.chg {base t t' g n : Nat} {w w1 : World} {xs : List Rat} (h : Row3 t' EFQ w g n xs) (hc : Chg base t w w1) (hne : t' ≠ t) : Row3 t' EFQ w1 g n xs := by
 obtain ⟨cs, hk, hs, hn, hl, he⟩ := h
 refine ⟨cs, hk.chg hc hne, hs, hn, hl, fun j x hx => ?_⟩
 obtain ⟨a, b, c, e0, e1, e2, hE⟩ := he j x hx
 exact ⟨a, b, c, e0, e1, e2, FQ.keeps hE hc.1⟩
def UnitAct (w : World) (n : Nat) (v s b : Int) (gs gq : Nat) (A1 : Option Addr) (n1 c1 : Nat) (A2 : Option Addr) (n2 c2 : Nat) : Act := { tmps := #[.int .i64 (n : Int), .int .i64 v, .int .i64 s, .int .i64 b, undef, undef, undef, undef, .pointer (some ⟨w.heap.size, 0, none⟩), .pointer (some ⟨gq, 0, none⟩), undef, .int .i64 (n : Int), .slice (some ⟨gs, 0, none⟩) n n, .int .i64 s, .int .i64 b, .agg #[.bool (negQ (b : Rat)), .slice A1 n1 c1, .slice A2 n2 c2], .agg #[.slice (some ⟨gs, 0, none⟩) n n, .int .i64 s, .bool (negQ (b : Rat)), .slice A1 n1 c1, .slice A2 n2 c2], undef, undef, undef, undef, undef, undef, undef, undef, undef, undef, undef, undef, undef, undef, undef, undef, undef, undef], defers := [] }
def UnitLaid (w : World) (n : Nat) (v s b : Int) (a : Act) (W : World) : Prop := ∃ gs gq A1 n1 c1 A2 n2 c2, a = UnitAct w n v s b gs gq A1 n1 c1 A2 n2 c2 ∧ w.heap.size + 1 ≤ gs ∧ w.heap.size + 1 ≤ gq ∧ Row3 46 EFQ W gs n ([] : List Rat) ∧ Blk W gq 73 #[.slice (some ⟨gs, 0, none⟩) n n, .int .i64 s, .bool (negQ (b : Rat)), .slice A1 n1 c1, .slice A2 n2 c2] ∧ FQ W (.agg #[.bool (negQ (b : Rat)), .slice A1 n1 c1, .slice A2 n2 c2]) (b : Rat) ∧ HS w [(w.heap.size, 73, #[.slice none 0 0, .int .i64 0, .bool false, .slice none 0 0, .slice none 0 0])] W
theorem unit_laid {w W : World} {n : Nat} {v s b : Int} {a : Act} {gs gq : Nat} {A1 : Option Addr} {n1 c1 : Nat} {A2 : Option Addr} {n2 c2 : Nat} {r : Value} (hgs : w.heap.size + 1 ≤ gs) (hgq : w.heap.size + 1 ≤ gq) (hm : Row3 46 EFQ W gs n ([] : List Rat)) (hc : Blk W gq 73 #[.slice none 0 0, .int .i64 0, .bool false, .slice none 0 0, .slice none 0 0]) (hf : FQ W (.agg #[.bool (negQ (b : Rat)), .slice A1 n1 c1, .slice A2 n2 c2]) (b : Rat)) (hs : HS w [(w.heap.size, 73, #[.slice none 0 0, .int .i64 0, .bool false, .slice none 0 0, .slice none 0 0])] W)
  (ha : a = UnitAct w n v s b gs gq A1 n1 c1 A2 n2 c2) : UnitLaid w n v s b a (put5 W gq 0 (.slice (some ⟨gs, 0, none⟩) n n) (.int .i64 s) (.bool (negQ (b : Rat))) (.slice A1 n1 c1) (.slice A2 n2 c2)) := by
 have hcg := chg_put5 (base := w.heap.size) hc (by omega) rowA_words (.slice (some ⟨gs, 0, none⟩) n n) (.int .i64 s) (.bool (negQ (b : Rat))) (.slice A1 n1 c1) (.slice A2 n2 c2)
 refine ⟨gs, gq, A1, n1, c1, A2, n2, c2, ha, hgs, hgq, ?_, hc.put5 _ _ _ _ _, FQ.keeps hf hcg.1, ?_⟩
 ·exact hm.chg hcg (by decide)
 ·exact ((((hs.other1 (g := gq) (by omega) (by simp; omega) 0 _).other1 (g := gq) (by omega) (by simp; omega) 1 _).other1 (g := gq) (by omega) (by simp; omega) 2 _).other1 (g := gq) (by omega) (by simp; omega) 3 _).other1 (g := gq) (by omega) (by simp; omega) 4 _
theorem Row3.set {α : Type} {E : World → Array Value → α → Prop} {w : World} {g t n i : Nat} {xs : List α} (hE : Far E) (h : Row3 t E w g n xs) {x : α} {a b c : Value} (hi : i < xs.length) (hx : E w #[a, b, c] x) (hn : ∀ u ∈ #[a, b, c], notInt u = true) :
  Row3 t E (((w.setCell ⟨g, i * 3, none⟩ a).setCell ⟨g, i * 3 + 1, none⟩ b).setCell ⟨g, i * 3 + 2, none⟩ c) g n (xs.set i x) := by
 obtain ⟨cs, hk, hs, hcn, hl, he⟩ := h
 have hsz : w.heap.size ≤ (((w.setCell ⟨g, i * 3, none⟩ a).setCell ⟨g, i * 3 + 1, none⟩ b).setCell ⟨g, i * 3 + 2, none⟩ c).heap.size := by simp [World.setCell]
 have hot : ∀ k, k < w.heap.size → k ≠ g → (((w.setCell ⟨g, i * 3, none⟩ a).setCell ⟨g, i * 3 + 1, none⟩ b).setCell ⟨g, i * 3 + 2, none⟩ c).heap[k]? = w.heap[k]? := fun k _ hkg => by
  rw [Below.heap_setCell _ _ _ k hkg, Below.heap_setCell _ _ _ k hkg, Below.heap_setCell _ _ _ k hkg]
 have hset : ∀ {xs : Array Value} {i : Nat} {v : Value}, (∀ x ∈ xs, notInt x = true) → notInt v = true → ∀ x ∈ xs.setIfInBounds i v, notInt x = true := fun {xs i v} h1 h2 x hx => by
  rcases Array.mem_or_eq_of_mem_setIfInBounds hx with h | h
  ·exact h1 x h
  ·rw [h]; exact h2
 refine ⟨_, ((hk.put (i * 3) a).put (i * 3 + 1) b).put (i * 3 + 2) c, by simp [hs], hset (hset (hset hcn (hn _ (by simp))) (hn _ (by simp))) (hn _ (by simp)), by simpa using hl, fun j y hy => ?_⟩
 by_cases hj : j = i
 ·subst hj
  rw [List.getElem?_set_self hi] at hy
  injection hy with hxy
  subst hxy
  refine ⟨a, b, c, ?_, ?_, ?_, hE _ _ _ _ _ _ _ hx hk hcn hsz hot⟩
  ·rw [Array.getElem?_setIfInBounds_ne (by omega), Array.getElem?_setIfInBounds_ne (by omega), Array.getElem?_setIfInBounds_self]; rw [if_pos (by omega)]
  ·rw [Array.getElem?_setIfInBounds_ne (by omega), Array.getElem?_setIfInBounds_self]; rw [if_pos (by simp; omega)]
  ·rw [Array.getElem?_setIfInBounds_self]; rw [if_pos (by simp; omega)]
 ·rw [List.getElem?_set_ne (by omega)] at hy
  obtain ⟨a', b', c', h0, h1, h2, h3⟩ := he j y hy
  refine ⟨a', b', c', ?_, ?_, ?_, hE _ _ _ _ _ _ _ h3 hk hcn hsz hot⟩
  ·rw [Array.getElem?_setIfInBounds_ne (by omega), Array.getElem?_setIfInBounds_ne (by omega), Array.getElem?_setIfInBounds_ne (by omega)]; exact h0
  ·rw [Array.getElem?_setIfInBounds_ne (by omega), Array.getElem?_setIfInBounds_ne (by omega), Array.getElem?_setIfInBounds_ne (by omega)]; exact h1
  ·rw [Array.getElem?_setIfInBounds_ne (by omega), Array.getElem?_setIfInBounds_ne (by omega), Array.getElem?_setIfInBounds_ne (by omega)]; exact h2
theorem Blk.apart {w : World} {g g' t t' : Nat} {cs cs' : Array Value} (h : Blk w g t cs) (h' : Blk w g' t' cs') (hne : t ≠ t') : g ≠ g' := fun e => by
 subst e
 have := h.symm.trans h'
 injection this with this
 injection this with _ h2
 exact hne h2
theorem unitL_set (n k : Nat) : unitL n (k : Int) = (List.replicate n (0 : Rat)).set k 1 := by
 apply List.ext_getElem (by simp [unitL])
 intro i h1 h2
 simp only [unitL, List.getElem_map, List.getElem_range, List.getElem_set, List.getElem_replicate]
 by_cases e : i = k
 ·subst e; simp
 ·rw [if_neg (by omega), if_neg (by omega)]
theorem unit_put {w W : World} {n gs gq : Nat} {s b : Int} {A1 : Option Addr} {n1 c1 : Nat} {A2 : Option Addr} {n2 c2 : Nat} {xs : List Rat} (hgs : w.heap.size + 1 ≤ gs) (hne : gs ≠ gq) (hm : Row3 46 EFQ W gs n xs) (hc : Blk W gq 73 #[.slice (some ⟨gs, 0, none⟩) n n, .int .i64 s, .bool (negQ (b : Rat)), .slice A1 n1 c1, .slice A2 n2 c2]) (hf : FQ W (.agg #[.bool (negQ (b : Rat)), .slice A1 n1 c1, .slice A2 n2 c2]) (b : Rat)) (hs : HS w [(w.heap.size, 73, #[.slice none 0 0, .int .i64 0, .bool false, .slice none 0 0, .slice none 0 0])] W) (o : Nat) (x y z : Value) :
  Blk (((W.setCell ⟨gs, o, none⟩ x).setCell ⟨gs, o + 1, none⟩ y).setCell ⟨gs, o + 2, none⟩ z) gq 73 #[.slice (some ⟨gs, 0, none⟩) n n, .int .i64 s, .bool (negQ (b : Rat)), .slice A1 n1 c1, .slice A2 n2 c2] ∧ FQ (((W.setCell ⟨gs, o, none⟩ x).setCell ⟨gs, o + 1, none⟩ y).setCell ⟨gs, o + 2, none⟩ z) (.agg #[.bool (negQ (b : Rat)), .slice A1 n1 c1, .slice A2 n2 c2]) (b : Rat) ∧ HS w [(w.heap.size, 73, #[.slice none 0 0, .int .i64 0, .bool false, .slice none 0 0, .slice none 0 0])] (((W.setCell ⟨gs, o, none⟩ x).setCell ⟨gs, o + 1, none⟩ y).setCell ⟨gs, o + 2, none⟩ z) := by
 obtain ⟨cs, hk, hsz, hcn, _⟩ := hm
 refine ⟨((hc.other (a := ⟨gs, o, none⟩) hne.symm x).other (a := ⟨gs, o + 1, none⟩) hne.symm y).other (a := ⟨gs, o + 2, none⟩) hne.symm z, EFQ.far _ _ _ _ _ _ _ hf hk hcn (by simp [World.setCell]) (fun k _ hkg => by rw [Below.heap_setCell _ _ _ k hkg, Below.heap_setCell _ _ _ k hkg, Below.heap_setCell _ _ _ k hkg]), ?_⟩
 exact (((hs.other1 (g := gs) (by omega) (by simp; omega) o x).other1 (g := gs) (by omega) (by simp; omega) (o + 1) y).other1 (g := gs) (by omega) (by simp; omega) (o + 2) z)
set_option maxHeartbeats 16000000 in
set_option maxRecDepth 100000 in
theorem unit_calls (w : World) (n : Nat) (v s b : Int) (hn : n ≤ 1000000) (hv0 : 0 ≤ v) (hv1 : v < n) (hs : I64 s) (h0 : -9223372036854775808 ≤ b) (h1 : b < 9223372036854775808) : Calls Tryz.prog 81 #[.int .i64 (n : Int), .int .i64 v, .int .i64 s, .int .i64 b] w fun e w' => UPost w (unitQ n v s b) e w' := by
 have HS1 := Hd hs
 clear hs
 have hmk := run_make3 23 46 _ Tryz.underlying23 info40m n (by omega)
 go_enter Tryz.func81, Tryz.ntmps81
 go_wp2_with fail
 have H0 := Hd (HS.one (w := w) #[.slice none 0 0, .int .i64 0, .bool false, .slice none 0 0, .slice none 0 0] 73)
 have hsz1 : w.heap.size + 1 ≤ (w.alloc (.cells #[.slice none 0 0, .int .i64 0, .bool false, .slice none 0 0, .slice none 0 0] 73)).heap.size := by simp
 generalize w.alloc (.cells #[.slice none 0 0, .int .i64 0, .bool false, .slice none 0 0, .slice none 0 0] 73) = W0 at *
 refine Code.wp_mono (Q := fun e a W => e = .normal ∧ UnitLaid w n v s b a W) ?_ ?_
 rotate_left
 ·refine wp_fork (l := [_, _, _, _, _, _, _, _]) (S := Below W0.heap.size W0) 7 (.three [0, 2, 3] 1 (.two [] 4 (.one [5] 6 (.fin [])) 6 (.one [] 4 (.fin [5]))) 4 (.two [] 1 (.one [5] 6 (.fin [])) 6 (.one [] 1 (.fin [5]))) 6 (.two [] 1 (.one [] 4 (.fin [5])) 4 (.one [] 1 (.fin [5])))) (by kernel_rfl) (by kernel_rfl) (by kernel_rfl) rfl (Below.drew (Below.refl _ _)) ?_
  refine ⟨?_, _, _, _, ?_, rfl, rfl, rfl, ?_, ?_, ?_⟩
  rotate_left
  ·repeat (refine ⟨_, ?_, rfl, Or.inl ⟨by rfl, ?_⟩, ?_⟩; rotate_left; focus (intro W hW; replace hW := (bcell hW).1; go_simp; try with_reducible rfl); (try simp only [SQ]))
   exact rfl
  ·have D0 : Hid (Below W0.heap.size W0 W0.drew) := Below.drew (Below.refl _ _)
   have E0 := Hd (HS.step H0.out D0.out)
   have hz0 : w.heap.size + 1 ≤ W0.drew.heap.size := hsz1
   generalize W0.drew = Wx at *
   go_wp2_with fail
   have hr0 := Row3.made (E := EFQ) Wx 46 n #[.bool false, .slice none 0 0, .slice none 0 0] rfl ni40
   obtain ⟨gs, hgs⟩ : ∃ g, g = Wx.heap.size := ⟨_, rfl⟩
   have hgs2 : w.heap.size + 1 ≤ gs := by have := hz0; omega
   have hbm := below_new Wx (.cells (madeCells #[.bool false, .slice none 0 0, .slice none 0 0] (n * 3)) 46)
   have D1 := Hd (below_next D0.out hbm)
   have E1 := Hd (HS.step H0.out D1.out)
   have hz1 : w.heap.size + 1 ≤ (Wx.alloc (.cells (madeCells #[.bool false, .slice none 0 0, .slice none 0 0] (n * 3)) 46)).heap.size := Nat.le_trans hz0 (hbm).size
   rw [← hgs] at hr0 ⊢
   have HM1 := Hd hr0
   clear hr0 hbm hgs
   generalize Wx.alloc (.cells (madeCells #[.bool false, .slice none 0 0, .slice none 0 0] (n * 3)) 46) = Wm at *
   refine And.intro D1.out ⟨_, _, _, rfl, rfl, rfl, ?_, ?_⟩
   ·go_wp2_with fail
    refine (number_calls _ b h0 h1).mono ?_
    rintro e Wf ⟨u, rfl, hv, hbf⟩
    obtain ⟨A1, n1, c1, A2, n2, c2, rfl, HV⟩ := FQ.opened hv
    have D2 := Hd (below_next D1.out hbf)
    have E2 := Hd (HS.step H0.out D2.out)
    have hz2 : w.heap.size + 1 ≤ Wf.heap.size := Nat.le_trans hz1 (hbf).size
    have HM2 := Hd (HM1.out.below EFQ.stays hbf)
    have HF2 := HV
    clear hv hbf HV
    go_wp2_with fail
    refine And.intro D2.out ⟨?_, _, ?_, rfl, ?_⟩
    rotate_left
    ·repeat (refine ⟨_, ?_, rfl, Or.inl ⟨by rfl, ?_⟩, ?_⟩; rotate_left; focus (intro W hW; replace hW := (bcell hW).1; go_simp; try with_reducible rfl); (try simp only [SQ]))
     exact rfl
    go_wp2_with fail
    have hBq := Blk.new Wf 73 #[.slice none 0 0, .int .i64 0, .bool false, .slice none 0 0, .slice none 0 0]
    obtain ⟨gq, hgq⟩ : ∃ g, g = Wf.heap.size := ⟨_, rfl⟩
    have hgq2 : w.heap.size + 1 ≤ gq := by have := hz2; omega
    have hba := below_new Wf (.cells #[.slice none 0 0, .int .i64 0, .bool false, .slice none 0 0, .slice none 0 0] 73)
    have D3 := Hd (below_next D2.out hba)
    have E3 := Hd (HS.step H0.out D3.out)
    have hz3 : w.heap.size + 1 ≤ (Wf.alloc (.cells #[.slice none 0 0, .int .i64 0, .bool false, .slice none 0 0, .slice none 0 0] 73)).heap.size := Nat.le_trans hz2 (hba).size
    have HM3 := Hd (HM2.out.below EFQ.stays hba)
    have HF3 := Hd (HF2.out.of_below hba)
    rw [← hgq] at hBq ⊢
    have HC3 := Hd hBq
    clear hBq hba hgq
    generalize Wf.alloc (.cells #[.slice none 0 0, .int .i64 0, .bool false, .slice none 0 0, .slice none 0 0] 73) = Wc at *
    refine And.intro D3.out ⟨_, rfl, ?_⟩
    obtain ⟨i0, i1, i2, i3, i4⟩ := HC3.out.c5
    obtain ⟨g0, g1, g2, g3, g4⟩ := HC3.out.f5
    have hltq := HC3.out.lt
    go_wp2_with fail
    refine NoPanic.normal ?_
    exact ⟨rfl, unit_laid (r := .slice (some ⟨gs, 0, none⟩) n n) hgs2 hgq2 HM3.out HC3.out HF3.out E3.out rfl⟩
   ·go_wp2_with fail
    have hBq := Blk.new Wm 73 #[.slice none 0 0, .int .i64 0, .bool false, .slice none 0 0, .slice none 0 0]
    obtain ⟨gq, hgq⟩ : ∃ g, g = Wm.heap.size := ⟨_, rfl⟩
    have hgq2 : w.heap.size + 1 ≤ gq := by have := hz1; omega
    have hba := below_new Wm (.cells #[.slice none 0 0, .int .i64 0, .bool false, .slice none 0 0, .slice none 0 0] 73)
    have D2 := Hd (below_next D1.out hba)
    have E2 := Hd (HS.step H0.out D2.out)
    have hz2 : w.heap.size + 1 ≤ (Wm.alloc (.cells #[.slice none 0 0, .int .i64 0, .bool false, .slice none 0 0, .slice none 0 0] 73)).heap.size := Nat.le_trans hz1 (hba).size
    have HM2 := Hd (HM1.out.below EFQ.stays hba)
    rw [← hgq] at hBq ⊢
    have HC2 := Hd hBq
    clear hBq hba hgq
    generalize Wm.alloc (.cells #[.slice none 0 0, .int .i64 0, .bool false, .slice none 0 0, .slice none 0 0] 73) = Wc at *
    refine And.intro D2.out ⟨_, _, rfl, rfl, ?_⟩
    go_wp2_with fail
    refine (number_calls _ b h0 h1).mono ?_
    rintro e Wf ⟨u, rfl, hv, hbf⟩
    obtain ⟨A1, n1, c1, A2, n2, c2, rfl, HV⟩ := FQ.opened hv
    have D3 := Hd (below_next D2.out hbf)
    have E3 := Hd (HS.step H0.out D3.out)
    have hz3 : w.heap.size + 1 ≤ Wf.heap.size := Nat.le_trans hz2 (hbf).size
    have HM3 := Hd (HM2.out.below EFQ.stays hbf)
    have HC3 := Hd (HC2.out.below hbf HC2.out.lt)
    have HF3 := HV
    clear hv hbf HV
    go_wp2_with fail
    refine And.intro D3.out ⟨?_, ?_, ?_⟩
    rotate_left
    ·repeat (refine ⟨_, ?_, rfl, Or.inl ⟨by rfl, ?_⟩, ?_⟩; rotate_left; focus (intro W hW; replace hW := (bcell hW).1; go_simp; try with_reducible rfl); (try simp only [SQ]))
     exact rfl
    obtain ⟨i0, i1, i2, i3, i4⟩ := HC3.out.c5
    obtain ⟨g0, g1, g2, g3, g4⟩ := HC3.out.f5
    have hltq := HC3.out.lt
    go_wp2_with fail
    refine NoPanic.normal ?_
    exact ⟨rfl, unit_laid (r := .slice (some ⟨gs, 0, none⟩) n n) hgs2 hgq2 HM3.out HC3.out HF3.out E3.out rfl⟩
  ·have D0 : Hid (Below W0.heap.size W0 W0.drew) := Below.drew (Below.refl _ _)
   have E0 := Hd (HS.step H0.out D0.out)
   have hz0 : w.heap.size + 1 ≤ W0.drew.heap.size := hsz1
   generalize W0.drew = Wx at *
   go_wp2_with fail
   refine (number_calls _ b h0 h1).mono ?_
   rintro e Wf ⟨u, rfl, hv, hbf⟩
   obtain ⟨A1, n1, c1, A2, n2, c2, rfl, HV⟩ := FQ.opened hv
   have D1 := Hd (below_next D0.out hbf)
   have E1 := Hd (HS.step H0.out D1.out)
   have hz1 : w.heap.size + 1 ≤ Wf.heap.size := Nat.le_trans hz0 (hbf).size
   have HF1 := HV
   clear hv hbf HV
   go_wp2_with fail
   refine And.intro D1.out ⟨_, _, _, rfl, rfl, rfl, ?_, ?_⟩
   ·go_wp2_with fail
    have hr0 := Row3.made (E := EFQ) Wf 46 n #[.bool false, .slice none 0 0, .slice none 0 0] rfl ni40
    obtain ⟨gs, hgs⟩ : ∃ g, g = Wf.heap.size := ⟨_, rfl⟩
    have hgs2 : w.heap.size + 1 ≤ gs := by have := hz1; omega
    have hbm := below_new Wf (.cells (madeCells #[.bool false, .slice none 0 0, .slice none 0 0] (n * 3)) 46)
    have D2 := Hd (below_next D1.out hbm)
    have E2 := Hd (HS.step H0.out D2.out)
    have hz2 : w.heap.size + 1 ≤ (Wf.alloc (.cells (madeCells #[.bool false, .slice none 0 0, .slice none 0 0] (n * 3)) 46)).heap.size := Nat.le_trans hz1 (hbm).size
    have HF2 := Hd (HF1.out.of_below hbm)
    rw [← hgs] at hr0 ⊢
    have HM2 := Hd hr0
    clear hr0 hbm hgs
    generalize Wf.alloc (.cells (madeCells #[.bool false, .slice none 0 0, .slice none 0 0] (n * 3)) 46) = Wm at *
    refine And.intro D2.out ⟨?_, _, ?_, rfl, ?_⟩
    rotate_left
    ·repeat (refine ⟨_, ?_, rfl, Or.inl ⟨by rfl, ?_⟩, ?_⟩; rotate_left; focus (intro W hW; replace hW := (bcell hW).1; go_simp; try with_reducible rfl); (try simp only [SQ]))
     exact rfl
    go_wp2_with fail
    have hBq := Blk.new Wm 73 #[.slice none 0 0, .int .i64 0, .bool false, .slice none 0 0, .slice none 0 0]
    obtain ⟨gq, hgq⟩ : ∃ g, g = Wm.heap.size := ⟨_, rfl⟩
    have hgq2 : w.heap.size + 1 ≤ gq := by have := hz2; omega
    have hba := below_new Wm (.cells #[.slice none 0 0, .int .i64 0, .bool false, .slice none 0 0, .slice none 0 0] 73)
    have D3 := Hd (below_next D2.out hba)
    have E3 := Hd (HS.step H0.out D3.out)
    have hz3 : w.heap.size + 1 ≤ (Wm.alloc (.cells #[.slice none 0 0, .int .i64 0, .bool false, .slice none 0 0, .slice none 0 0] 73)).heap.size := Nat.le_trans hz2 (hba).size
    have HF3 := Hd (HF2.out.of_below hba)
    have HM3 := Hd (HM2.out.below EFQ.stays hba)
    rw [← hgq] at hBq ⊢
    have HC3 := Hd hBq
    clear hBq hba hgq
    generalize Wm.alloc (.cells #[.slice none 0 0, .int .i64 0, .bool false, .slice none 0 0, .slice none 0 0] 73) = Wc at *
    refine And.intro D3.out ⟨_, rfl, ?_⟩
    obtain ⟨i0, i1, i2, i3, i4⟩ := HC3.out.c5
    obtain ⟨g0, g1, g2, g3, g4⟩ := HC3.out.f5
    have hltq := HC3.out.lt
    go_wp2_with fail
    refine NoPanic.normal ?_
    exact ⟨rfl, unit_laid (r := .slice (some ⟨gs, 0, none⟩) n n) hgs2 hgq2 HM3.out HC3.out HF3.out E3.out rfl⟩
   ·go_wp2_with fail
    have hBq := Blk.new Wf 73 #[.slice none 0 0, .int .i64 0, .bool false, .slice none 0 0, .slice none 0 0]
    obtain ⟨gq, hgq⟩ : ∃ g, g = Wf.heap.size := ⟨_, rfl⟩
    have hgq2 : w.heap.size + 1 ≤ gq := by have := hz1; omega
    have hba := below_new Wf (.cells #[.slice none 0 0, .int .i64 0, .bool false, .slice none 0 0, .slice none 0 0] 73)
    have D2 := Hd (below_next D1.out hba)
    have E2 := Hd (HS.step H0.out D2.out)
    have hz2 : w.heap.size + 1 ≤ (Wf.alloc (.cells #[.slice none 0 0, .int .i64 0, .bool false, .slice none 0 0, .slice none 0 0] 73)).heap.size := Nat.le_trans hz1 (hba).size
    have HF2 := Hd (HF1.out.of_below hba)
    rw [← hgq] at hBq ⊢
    have HC2 := Hd hBq
    clear hBq hba hgq
    generalize Wf.alloc (.cells #[.slice none 0 0, .int .i64 0, .bool false, .slice none 0 0, .slice none 0 0] 73) = Wc at *
    refine And.intro D2.out ⟨_, _, rfl, rfl, ?_⟩
    go_wp2_with fail
    have hr0 := Row3.made (E := EFQ) Wc 46 n #[.bool false, .slice none 0 0, .slice none 0 0] rfl ni40
    obtain ⟨gs, hgs⟩ : ∃ g, g = Wc.heap.size := ⟨_, rfl⟩
    have hgs2 : w.heap.size + 1 ≤ gs := by have := hz2; omega
    have hbm := below_new Wc (.cells (madeCells #[.bool false, .slice none 0 0, .slice none 0 0] (n * 3)) 46)
    have D3 := Hd (below_next D2.out hbm)
    have E3 := Hd (HS.step H0.out D3.out)
    have hz3 : w.heap.size + 1 ≤ (Wc.alloc (.cells (madeCells #[.bool false, .slice none 0 0, .slice none 0 0] (n * 3)) 46)).heap.size := Nat.le_trans hz2 (hbm).size
    have HF3 := Hd (HF2.out.of_below hbm)
    have HC3 := Hd (HC2.out.below hbm HC2.out.lt)
    rw [← hgs] at hr0 ⊢
    have HM3 := Hd hr0
    clear hr0 hbm hgs
    generalize Wc.alloc (.cells (madeCells #[.bool false, .slice none 0 0, .slice none 0 0] (n * 3)) 46) = Wm at *
    refine And.intro D3.out ⟨?_, ?_, ?_⟩
    rotate_left
    ·repeat (refine ⟨_, ?_, rfl, Or.inl ⟨by rfl, ?_⟩, ?_⟩; rotate_left; focus (intro W hW; replace hW := (bcell hW).1; go_simp; try with_reducible rfl); (try simp only [SQ]))
     exact rfl
    obtain ⟨i0, i1, i2, i3, i4⟩ := HC3.out.c5
    obtain ⟨g0, g1, g2, g3, g4⟩ := HC3.out.f5
    have hltq := HC3.out.lt
    go_wp2_with fail
    refine NoPanic.normal ?_
    exact ⟨rfl, unit_laid (r := .slice (some ⟨gs, 0, none⟩) n n) hgs2 hgq2 HM3.out HC3.out HF3.out E3.out rfl⟩
  ·have D0 : Hid (Below W0.heap.size W0 W0.drew) := Below.drew (Below.refl _ _)
   have E0 := Hd (HS.step H0.out D0.out)
   have hz0 : w.heap.size + 1 ≤ W0.drew.heap.size := hsz1
   generalize W0.drew = Wx at *
   go_wp2_with fail
   have hBq := Blk.new Wx 73 #[.slice none 0 0, .int .i64 0, .bool false, .slice none 0 0, .slice none 0 0]
   obtain ⟨gq, hgq⟩ : ∃ g, g = Wx.heap.size := ⟨_, rfl⟩
   have hgq2 : w.heap.size + 1 ≤ gq := by have := hz0; omega
   have hba := below_new Wx (.cells #[.slice none 0 0, .int .i64 0, .bool false, .slice none 0 0, .slice none 0 0] 73)
   have D1 := Hd (below_next D0.out hba)
   have E1 := Hd (HS.step H0.out D1.out)
   have hz1 : w.heap.size + 1 ≤ (Wx.alloc (.cells #[.slice none 0 0, .int .i64 0, .bool false, .slice none 0 0, .slice none 0 0] 73)).heap.size := Nat.le_trans hz0 (hba).size
   rw [← hgq] at hBq ⊢
   have HC1 := Hd hBq
   clear hBq hba hgq
   generalize Wx.alloc (.cells #[.slice none 0 0, .int .i64 0, .bool false, .slice none 0 0, .slice none 0 0] 73) = Wc at *
   refine And.intro D1.out ⟨_, _, _, rfl, rfl, rfl, ?_, ?_⟩
   ·go_wp2_with fail
    have hr0 := Row3.made (E := EFQ) Wc 46 n #[.bool false, .slice none 0 0, .slice none 0 0] rfl ni40
    obtain ⟨gs, hgs⟩ : ∃ g, g = Wc.heap.size := ⟨_, rfl⟩
    have hgs2 : w.heap.size + 1 ≤ gs := by have := hz1; omega
    have hbm := below_new Wc (.cells (madeCells #[.bool false, .slice none 0 0, .slice none 0 0] (n * 3)) 46)
    have D2 := Hd (below_next D1.out hbm)
    have E2 := Hd (HS.step H0.out D2.out)
    have hz2 : w.heap.size + 1 ≤ (Wc.alloc (.cells (madeCells #[.bool false, .slice none 0 0, .slice none 0 0] (n * 3)) 46)).heap.size := Nat.le_trans hz1 (hbm).size
    have HC2 := Hd (HC1.out.below hbm HC1.out.lt)
    rw [← hgs] at hr0 ⊢
    have HM2 := Hd hr0
    clear hr0 hbm hgs
    generalize Wc.alloc (.cells (madeCells #[.bool false, .slice none 0 0, .slice none 0 0] (n * 3)) 46) = Wm at *
    refine And.intro D2.out ⟨_, _, rfl, rfl, ?_⟩
    go_wp2_with fail
    refine (number_calls _ b h0 h1).mono ?_
    rintro e Wf ⟨u, rfl, hv, hbf⟩
    obtain ⟨A1, n1, c1, A2, n2, c2, rfl, HV⟩ := FQ.opened hv
    have D3 := Hd (below_next D2.out hbf)
    have E3 := Hd (HS.step H0.out D3.out)
    have hz3 : w.heap.size + 1 ≤ Wf.heap.size := Nat.le_trans hz2 (hbf).size
    have HC3 := Hd (HC2.out.below hbf HC2.out.lt)
    have HM3 := Hd (HM2.out.below EFQ.stays hbf)
    have HF3 := HV
    clear hv hbf HV
    go_wp2_with fail
    refine And.intro D3.out ⟨?_, ?_, ?_⟩
    rotate_left
    ·repeat (refine ⟨_, ?_, rfl, Or.inl ⟨by rfl, ?_⟩, ?_⟩; rotate_left; focus (intro W hW; replace hW := (bcell hW).1; go_simp; try with_reducible rfl); (try simp only [SQ]))
     exact rfl
    obtain ⟨i0, i1, i2, i3, i4⟩ := HC3.out.c5
    obtain ⟨g0, g1, g2, g3, g4⟩ := HC3.out.f5
    have hltq := HC3.out.lt
    go_wp2_with fail
    refine NoPanic.normal ?_
    exact ⟨rfl, unit_laid (r := .slice (some ⟨gs, 0, none⟩) n n) hgs2 hgq2 HM3.out HC3.out HF3.out E3.out rfl⟩
   ·go_wp2_with fail
    refine (number_calls _ b h0 h1).mono ?_
    rintro e Wf ⟨u, rfl, hv, hbf⟩
    obtain ⟨A1, n1, c1, A2, n2, c2, rfl, HV⟩ := FQ.opened hv
    have D2 := Hd (below_next D1.out hbf)
    have E2 := Hd (HS.step H0.out D2.out)
    have hz2 : w.heap.size + 1 ≤ Wf.heap.size := Nat.le_trans hz1 (hbf).size
    have HC2 := Hd (HC1.out.below hbf HC1.out.lt)
    have HF2 := HV
    clear hv hbf HV
    go_wp2_with fail
    refine And.intro D2.out ⟨_, _, rfl, rfl, ?_⟩
    go_wp2_with fail
    have hr0 := Row3.made (E := EFQ) Wf 46 n #[.bool false, .slice none 0 0, .slice none 0 0] rfl ni40
    obtain ⟨gs, hgs⟩ : ∃ g, g = Wf.heap.size := ⟨_, rfl⟩
    have hgs2 : w.heap.size + 1 ≤ gs := by have := hz2; omega
    have hbm := below_new Wf (.cells (madeCells #[.bool false, .slice none 0 0, .slice none 0 0] (n * 3)) 46)
    have D3 := Hd (below_next D2.out hbm)
    have E3 := Hd (HS.step H0.out D3.out)
    have hz3 : w.heap.size + 1 ≤ (Wf.alloc (.cells (madeCells #[.bool false, .slice none 0 0, .slice none 0 0] (n * 3)) 46)).heap.size := Nat.le_trans hz2 (hbm).size
    have HC3 := Hd (HC2.out.below hbm HC2.out.lt)
    have HF3 := Hd (HF2.out.of_below hbm)
    rw [← hgs] at hr0 ⊢
    have HM3 := Hd hr0
    clear hr0 hbm hgs
    generalize Wf.alloc (.cells (madeCells #[.bool false, .slice none 0 0, .slice none 0 0] (n * 3)) 46) = Wm at *
    refine And.intro D3.out ⟨?_, ?_, ?_⟩
    rotate_left
    ·repeat (refine ⟨_, ?_, rfl, Or.inl ⟨by rfl, ?_⟩, ?_⟩; rotate_left; focus (intro W hW; replace hW := (bcell hW).1; go_simp; try with_reducible rfl); (try simp only [SQ]))
     exact rfl
    obtain ⟨i0, i1, i2, i3, i4⟩ := HC3.out.c5
    obtain ⟨g0, g1, g2, g3, g4⟩ := HC3.out.f5
    have hltq := HC3.out.lt
    go_wp2_with fail
    refine NoPanic.normal ?_
    exact ⟨rfl, unit_laid (r := .slice (some ⟨gs, 0, none⟩) n n) hgs2 hgq2 HM3.out HC3.out HF3.out E3.out rfl⟩
 rintro e a W ⟨rfl, gs, gq, A1, n1, c1, A2, n2, c2, rfl, hgs, hgq, hm, hc, hf, hs⟩
 unfold UnitAct
 obtain ⟨k, rfl⟩ := Int.eq_ofNat_of_zero_le hv0
 have hne : gs ≠ gq := by obtain ⟨cs, hk, _⟩ := hm; exact hk.apart hc (by decide)
 have HM0 := Hd hm
 have HC0 := Hd hc
 have HF0 := Hd hf
 have HK0 := Hd hs
 clear hm hc hf hs hmk H0 hsz1
 obtain ⟨i0, i1, i2, i3, i4⟩ := HC0.out.c5
 have hltq := HC0.out.lt
 go_wp2_with fail
 clear i0 i1 i2 i3 i4 hltq
 go_loopw [20] (fun vi wr => ∃ i : Nat, i ≤ n ∧ vi = .int .i64 (i : Int) ∧ Row3 46 EFQ wr gs n (List.replicate i (0 : Rat)) ∧ Blk wr gq 73 #[.slice (some ⟨gs, 0, none⟩) n n, .int .i64 s, .bool (negQ (b : Rat)), .slice A1 n1 c1, .slice A2 n2 c2] ∧ FQ wr (.agg #[.bool (negQ (b : Rat)), .slice A1 n1 c1, .slice A2 n2 c2]) (b : Rat) ∧ HS w [(w.heap.size, 73, #[.slice none 0 0, .int .i64 0, .bool false, .slice none 0 0, .slice none 0 0])] wr) (fun vi _ => n - (intOf vi).toNat)
 case atStart => exact ⟨0, Nat.zero_le _, rfl, HM0.out, HC0.out, HF0.out, HK0.out⟩
 case round =>
  obtain ⟨i, hi, rfl, hm, hc, hf, hs⟩ := hrel
  have HM := Hd hm
  have HC := Hd hc
  have HF := Hd hf
  have HK := Hd hs
  clear hm hc hf hs HM0 HC0 HF0 HK0
  obtain ⟨i0, i1, i2, i3, i4⟩ := HC.out.c5
  have hltq := HC.out.lt
  by_cases hlt : i < n
  ·have m1 : (i : Int) < (n : Int) := by omega
   have m3 : (i : Int).toNat = i := by omega
   have m4 : (0 : Int) ≤ (i : Int) := by omega
   go_wp2_with fail
   refine wp_chainF (l := [_, _, _, _, _, _]) (S := Below wr.heap.size wr) 4 [([0, 1, 2], 3)] [] (by kernel_rfl) (by kernel_rfl) (by kernel_rfl) rfl (Below.drew (Below.refl _ _)) ?_
   refine ⟨?_, _, ?_, rfl, ?_⟩
   rotate_left
   ·repeat (refine ⟨_, ?_, rfl, Or.inl ⟨by rfl, ?_⟩, ?_⟩; rotate_left; focus (intro W hW; replace hW := (bcell hW).1; go_simp; try with_reducible rfl); (try simp only [SQ]))
    exact rfl
   have D0 : Hid (Below wr.heap.size wr wr.drew) := Below.drew (Below.refl _ _)
   go_wp2_with fail
   refine (number_calls _ 0 (by decide) (by decide)).mono ?_
   rintro e W3 ⟨u, rfl, hv, hb⟩
   have hcast : ((0 : Int) : Rat) = (0 : Rat) := by norm_cast
   rw [hcast] at hv
   obtain ⟨B1, m1', d1, B2, m2', d2, rfl, HV3⟩ := FQ.opened hv
   have D3 := Hd (below_next D0.out hb)
   clear hv hb hcast
   have HM3 := Hd (HM.out.below EFQ.stays D3.out)
   have HC3 := Hd (HC.out.below D3.out HC.out.lt)
   have HF3 := Hd (HF.out.of_below D3.out)
   have HK3 := Hd (HK.out.step D3.out)
   go_wp2_with fail
   refine And.intro D3.out ⟨_, rfl, ?_⟩
   obtain ⟨a, b', d, e0, e1, e2, f0, f1, f2⟩ := HM3.out.cells i hlt
   have hlg := HM3.out.lt
   go_wp2_with fail
   refine NoPanic.normal ?_
   have HP := Hd (unit_put hgs hne HM3.out HC3.out HF3.out HK3.out (i * 3) (.bool (negQ 0)) (.slice B1 m1' d1) (.slice B2 m2' d2))
   have HR := HM3.out.push EFQ.far (by rw [List.length_replicate]; exact hlt) HV3.out (by simp [notInt])
   rw [List.length_replicate] at HR
   have HR' := Hd HR
   clear HR e0 e1 e2 f0 f1 f2 i0 i1 i2 i3 i4
   go_wp2_with fail
   go_roundw
   case rel => exact ⟨i + 1, by omega, by go_num, by rw [List.replicate_succ']; exact HR'.out, HP.out⟩
   case measure => simp [intOf]; omega
  ·obtain rfl : i = n := by omega
   have m1 : (k : Int) < (i : Int) := hv1
   have m3 : (k : Int).toNat = k := by omega
   have m4 : (0 : Int) ≤ (k : Int) := by omega
   have hki : k < i := by omega
   go_wp2_with fail
   refine wp_chainF (l := [_, _, _, _, _, _]) (S := Below wr.heap.size wr) 4 [([0, 1, 2], 3)] [] (by kernel_rfl) (by kernel_rfl) (by kernel_rfl) rfl (Below.drew (Below.refl _ _)) ?_
   refine ⟨?_, _, ?_, rfl, ?_⟩
   rotate_left
   ·repeat (refine ⟨_, ?_, rfl, Or.inl ⟨by rfl, ?_⟩, ?_⟩; rotate_left; focus (intro W hW; replace hW := (bcell hW).1; go_simp; try with_reducible rfl); (try simp only [SQ]))
    exact rfl
   have D0 : Hid (Below wr.heap.size wr wr.drew) := Below.drew (Below.refl _ _)
   go_wp2_with fail
   refine (number_calls _ 1 (by decide) (by decide)).mono ?_
   rintro e W3 ⟨u, rfl, hv, hb⟩
   have hcast : ((1 : Int) : Rat) = (1 : Rat) := by norm_cast
   rw [hcast] at hv
   obtain ⟨B1, m1', d1, B2, m2', d2, rfl, HV3⟩ := FQ.opened hv
   have D3 := Hd (below_next D0.out hb)
   clear hv hb hcast
   have HM3 := Hd (HM.out.below EFQ.stays D3.out)
   have HC3 := Hd (HC.out.below D3.out HC.out.lt)
   have HF3 := Hd (HF.out.of_below D3.out)
   have HK3 := Hd (HK.out.step D3.out)
   go_wp2_with fail
   refine And.intro D3.out ⟨_, rfl, ?_⟩
   obtain ⟨a, b', d, e0, e1, e2, f0, f1, f2⟩ := HM3.out.cells k hki
   have hlg := HM3.out.lt
   go_wp2_with fail
   refine NoPanic.normal ?_
   have HP := Hd (unit_put hgs hne HM3.out HC3.out HF3.out HK3.out (k * 3) (.bool (negQ 1)) (.slice B1 m1' d1) (.slice B2 m2' d2))
   have HR := Hd (HM3.out.set (i := k) EFQ.far (by rw [List.length_replicate]; exact hki) HV3.out (by simp [notInt]))
   clear e0 e1 e2 f0 f1 f2 i0 i1 i2 i3 i4 hltq
   generalize ((W3.setCell ⟨gs, k * 3, none⟩ (.bool (negQ 1))).setCell ⟨gs, k * 3 + 1, none⟩ (.slice B1 m1' d1)).setCell ⟨gs, k * 3 + 2, none⟩ (.slice B2 m2' d2) = W4 at *
   have HC4 := Hd HP.out.1
   have HF4 := Hd HP.out.2.1
   have HK4 := Hd HP.out.2.2
   rw [← unitL_set] at HR
   obtain ⟨i0, i1, i2, i3, i4⟩ := HC4.out.c5
   have hltq := HC4.out.lt
   obtain ⟨f0, f1, f2, f3, f4⟩ := (HK4.out.blk 0 rfl).f5
   obtain ⟨j0, j1, j2, j3, j4⟩ := (HK4.out.blk 0 rfl).c5
   have hlt0 := (HK4.out.blk 0 rfl).lt
   clear HM3 HC3 HF3 HK3 D0 D3 HP
   go_wp2_with fail
   have hcg := chg_put5 (base := w.heap.size) (HK4.out.blk 0 rfl) (by simp) rowA_words (.slice (some ⟨gs, 0, none⟩) i i) (.int .i64 s) (.bool (negQ (b : Rat))) (.slice A1 n1 c1) (.slice A2 n2 c2)
   have hq := Row3.own HR.out (unitL_length _ _) (show w.heap.size ≤ gs by omega) (by unfold maxLen; omega)
   exact ret65 Tryz.results81 rfl ((HK4.out.blk 0 rfl).put5 _ _ _ _ _) ⟨_, rfl, ⟨_, _, _, _, _, _, _, rfl, HS1.out, QO.chg hq hcg (by decide), FQ.keeps HF4.out hcg.1⟩, below_put5 HK4.out.2 (by simp) _ _ _ _ _⟩
def bitsB (l : List Int) : Bool := l.all fun b => decide (b = 0 ∨ b = 1)
def fixCode (p : ProgF) (xs bs : List Int) : Int :=
 if rightP p ≠ 0 then rightP p else if xs.length ≠ bs.length ∨ distinctB p.vars xs = false then 20 else if bitsB bs = false then 20 else if 400 < p.rows.length + xs.length then 1 else 0
def fixRows (n : Nat) (xs bs : List Int) : List RowQ := (xs.zip bs).map fun y => unitQ n y.1 0 y.2
noncomputable def fixedP (p : ProgF) (xs bs : List Int) : ProgQ := if fixCode p xs bs = 0 then ⟨p.vars, p.free, p.goal.map fixQ, p.rows.map cleanR ++ fixRows p.vars.toNat xs bs⟩ else zeroP
section
variable {P : Program}
theorem OwnR.appendFull {w : World} {base e k : Nat} {A : Option Addr} {cap n : Nat} {xs : List Value} (h : OwnR w base e k (.slice A n cap) n xs) (t ty : TypeId) (z : Value) (bytes : Nat) (ht : P.underlying t = some (.slice e))
  (hinfo : (P.info? e).map (fun i => (i.zero, i.size, i.bytes)) = some (some z, k, bytes)) (hzs : z.cells.size = k) (hzw : ∀ u ∈ z.cells, notWord u = true)
  (a : Addr) (m c : Nat) (news : List Value) (hl : news.length = m * k) (hnews : ∀ j u, news[j]? = some u → w.cell? (a.add j) = some u) (hnw : ∀ u ∈ news, notWord u = true)
  (hm : 0 < m) (h63 : n + m ≤ 140737488355328) (hbytes : (n + m) * bytes ≤ 140737488355328) (hbase : base ≤ w.heap.size) :
  ∃ v' w', (Builtin.append_ #[t, t] ty #[.slice A n n, .slice (some a) m c]).run P w = .ok v' w' ∧ OwnR w' base e k v' (n + m) (xs ++ news) ∧ Below w.heap.size w w' := by
 obtain ⟨i, hi, hzz⟩ := Option.map_eq_some_iff.1 hinfo
 simp only [Prod.mk.injEq] at hzz
 obtain ⟨hz, hsz, hby⟩ := hzz
 subst hsz
 subst hby
 have hlen : (xs ++ news).length = (n + m) * i.size := by rw [List.length_append, h.1, hl, Nat.add_mul]
 have grown : ∀ (old : Nat), old < n + m → (∀ u ∈ xs, notWord u = true) →
   OwnR (w.drew.alloc (.cells (xs.toArray ++ news.toArray ++ Builtin.zeroCells z.cells (grownCap w (n + m) old e - (n + m))) e)) base e i.size
    (.slice (some ⟨w.heap.size, 0, none⟩) (n + m) (grownCap w (n + m) old e)) (n + m) (xs ++ news) ∧
   Below w.heap.size w (w.drew.alloc (.cells (xs.toArray ++ news.toArray ++ Builtin.zeroCells z.cells (grownCap w (n + m) old e - (n + m))) e)) := by
  intro old ho hxw
  have hge := grownCap_ge w (n + m) old e
  have hcm : grownCap w (n + m) old e ≤ maxLen := grownCap_le_maxLen w (n + m) old e (by unfold maxLen; omega)
  refine ⟨⟨hlen, .inr ⟨w.heap.size, _, _, rfl, hbase, heap_alloc_new w.drew _, hge, hcm, ?_, ?_, fun u hu => ?_⟩⟩, Below.alloc (Below.drew (Below.refl _ _)) (Nat.le_refl _) _⟩
  ·simp only [Array.size_append, List.size_toArray, size_zeroCells, hzs, h.1, hl, ← Nat.add_mul]
   congr 1
   omega
  ·simp only [Array.toList_append, List.append_assoc]
   rw [← List.append_assoc, ← hlen]
   exact List.take_left
  ·simp only [Array.mem_append, List.mem_toArray] at hu
   rcases hu with (hu | hu) | hu
   ·exact hxw u hu
   ·exact hnw u hu
   ·exact notWord_zeros hzw _ u hu
 rcases h.2 with ⟨e0, rfl⟩ | ⟨g, cap', cur, e0, hbg, hg, hnc, hcm, hcs, htake, hcw⟩
 ·injection e0 with e1 _ e2
  subst e1
  have hx : xs = [] := List.eq_nil_of_length_eq_zero (by simpa using h.1)
  subst hx
  have hr := run_append_nil (P := P) w t ty e i z ht hi hz a m c news hl hnews hm (by omega) (by have hb := hbytes; simp only [Nat.zero_add] at hb; omega)
  have hgr := grown 0 (by omega) (by simp)
  simp only [Nat.zero_add, List.nil_append, Array.empty_append] at hgr ⊢
  exact ⟨_, _, hr, hgr.1, hgr.2⟩
 ·injection e0 with e1 _ e2
  subst e1
  have holds : ∀ j u, xs[j]? = some u → w.cell? ((⟨g, 0, none⟩ : Addr).add j) = some u := fun j u hj => by
   rw [add_zero']
   refine hg.cell ?_
   rw [← htake, List.getElem?_take] at hj
   split at hj
   ·simpa using hj
   ·cases hj
  have hxw : ∀ u ∈ xs, notWord u = true := fun u hu => by
   rw [← htake] at hu
   exact hcw u (by simpa using List.mem_of_mem_take hu)
  have hr := run_append_grow (P := P) w t ty e i z ht hi hz ⟨g, 0, none⟩ n n xs h.1 holds a m c news hl hnews (by omega) (by omega) (growslice_fits (by omega) hbytes)
  have hgr := grown n (by omega) hxw
  exact ⟨_, _, hr, hgr.1, hgr.2⟩
end
theorem wpl_appendR5F {ops : Array Oper} {rest : List Oper} {o : Oper} {a : Act} {Q : Exit → Act → World → Prop} {W : World} (hgd : o.guard = none) (s x : Operand) (ho : o.op = .call { callee := .builtin .append, args := #[s, x], argTypes := #[24, 24] }) {base : Nat}
  {A : Option Addr} {n cap : Nat} (rs : List RowQ) (hn : n = rs.length) (hs : a.eval s = .slice A n n) (hown : RO base W (.slice A n cap) rs) {g : Nat} {sn : Int} {b : Bool} {A0 A1 A2 : Option Addr} {n0 c0 n1 c1 n2 c2 : Nat} (r : RowQ) (hx : a.eval x = .slice (some ⟨g, 0, none⟩) 1 1) (hk : Blk W g 73 #[.slice A0 n0 c0, .int .i64 sn, .bool b, .slice A1 n1 c1, .slice A2 n2 c2]) (hf : ERO base W #[.slice A0 n0 c0, .int .i64 sn, .bool b, .slice A1 n1 c1, .slice A2 n2 c2] r)
  (hl : rs.length ≤ 1000000000) (hbase : base ≤ W.heap.size)
  (h : ∀ v' w', RO base w' v' (rs ++ [r]) → Below W.heap.size W w' → wpList Tryz.prog ops Q rest (a.put o.dst v') w') : wpList Tryz.prog ops Q (o :: rest) a W := by
 subst hn
 obtain ⟨xs, h1, h2⟩ := hown
 obtain ⟨v', w', hr, h3, h4⟩ := OwnR.appendFull h1 24 o.type zeroR 88 Tryz.underlying24 info65 rfl zeroR_words ⟨g, 0, none⟩ 1 1 [.slice A0 n0 c0, .int .i64 sn, .bool b, .slice A1 n1 c1, .slice A2 n2 c2] rfl (lit_cells hk) (row_word rfl) (by decide) (by omega) (by omega) hbase
 refine wpList_plain hgd fun K hK => ?_
 unfold Oper.wp execOp
 simp only [ho, resolve, invoke, builtin, Sem.run_bind, Sem.run_pure, Result.andThen_ok, List.map_toArray, List.map_cons, List.map_nil, hs, hx, hr]
 refine hK _ _ (h v' w' ?_ h4)
 exact OL.pushT (ERO.leans (t := 73) (by decide)) (k := 5) (e := 73) (vs := #[.slice A0 n0 c0, .int .i64 sn, .bool b, .slice A1 n1 c1, .slice A2 n2 c2]) h1 h2 rfl hf (Chg.of_below h4) h3
def branchQ (p : ProgQ) (x b : Int) : ProgQ := ⟨p.vars, p.free, p.goal, p.rows ++ [unitQ p.vars.toNat x 0 b]⟩
def BrPost (base : Nat) (w : World) (p : ProgQ) (e : Ending) (w' : World) : Prop := ∃ v, e = .returned v ∧ PO base w' v p ∧ Below w.heap.size w w'
set_option maxHeartbeats 32000000 in
set_option maxRecDepth 100000 in
theorem branch_calls (base : Nat) (w : World) (v : Value) (p : ProgQ) (x y : Int) (h : PO base w v p) (hbase : base ≤ w.heap.size) (hv1 : 1 ≤ p.vars) (hv2 : p.vars ≤ 160) (hx0 : 0 ≤ x) (hx1 : x < p.vars) (hy : y = 0 ∨ y = 1) (hlr : p.rows.length ≤ 100000) : Calls Tryz.prog 84 #[v, .int .i64 x, .int .i64 y] w fun e w' => BrPost base w (branchQ p x y) e w' := by
 obtain ⟨A1, c1, A2, c2, A3, c3, rfl, HI, H1, H2, H3⟩ := h.opened
 clear h
 have hc3 : p.rows.length ≤ c3 := by
  obtain ⟨_, _, er, hc⟩ := OL.slice H3.out
  injection er with _ _ er
  omega
 obtain ⟨vars, hv⟩ : ∃ n, n = p.vars := ⟨_, rfl⟩
 rw [← hv] at hv1 hv2 hx1 HI ⊢
 have HV := Hd hv
 clear hv
 obtain ⟨n, rfl⟩ : ∃ n : Nat, vars = n := ⟨vars.toNat, by omega⟩
 go_enter Tryz.func84, Tryz.ntmps84
 go_wp2_with fail
 have K0 := Hd (HS.two (w := w) #[.int .i64 (n : Int), .slice A1 p.free.length c1, .slice A2 p.goal.length c2, .slice A3 p.rows.length c3] #[.int .i64 0, .slice none 0 0, .slice none 0 0, .slice none 0 0] 26 26)
 have hsz : w.heap.size + 2 ≤ ((w.alloc (.cells #[.int .i64 (n : Int), .slice A1 p.free.length c1, .slice A2 p.goal.length c2, .slice A3 p.rows.length c3] 26)).alloc (.cells #[.int .i64 0, .slice none 0 0, .slice none 0 0, .slice none 0 0] 26)).heap.size := by simp
 generalize (w.alloc (.cells #[.int .i64 (n : Int), .slice A1 p.free.length c1, .slice A2 p.goal.length c2, .slice A3 p.rows.length c3] 26)).alloc (.cells #[.int .i64 0, .slice none 0 0, .slice none 0 0, .slice none 0 0] 26) = W0 at *
 obtain ⟨x0, x1, x2, x3⟩ := (K0.out.blk 1 rfl).c4
 have hlt1 := (K0.out.blk 1 rfl).lt
 have m1 : (p.rows.length : Int) ≤ (c3 : Int) := by omega
 have m2 : (0 : Int) ≤ (p.rows.length : Int) := by omega
 have m3 : ((p.rows.length : Int)).toNat = p.rows.length := by omega
 refine wp_chainF (l := [_, _, _, _, _, _, _, _, _, _, _, _, _, _, _, _, _, _]) (S := Below W0.heap.size W0) 15 [([0, 1, 2, 3, 4, 5, 6, 7, 8, 9, 10, 11, 12], 13), ([], 14)] [] (by kernel_rfl) (by kernel_rfl) (by kernel_rfl) rfl (Below.drew (Below.refl _ _)) ?_
 refine ⟨?_, _, ?_, rfl, ?_⟩
 rotate_left
 ·repeat (refine ⟨_, ?_, rfl, Or.inl ⟨by rfl, ?_⟩, ?_⟩; rotate_left; focus (intro W hW; replace hW := (bcell hW).1; go_simp; try with_reducible rfl); (try simp only [SQ]))
  exact rfl
 have D0 : Hid (Below W0.heap.size W0 W0.drew) := Below.drew (Below.refl _ _)
 have hI : I64 x := by unfold I64; omega
 go_wp2_with fail
 refine (unit_calls _ n x 0 y (by omega) hx0 hx1 (by unfold I64; omega) (by omega) (by omega)).mono ?_
 rintro e W3 ⟨vs, rfl, her, hb⟩
 obtain ⟨v5, C5, n5, e5, C6, n6, e6, rfl, HIS, hqa, hfb⟩ := her
 have D3 := Hd (below_next D0.out hb)
 have K3 := Hd (K0.out.step D3.out)
 have HQA := Hd (hqa.lower (base' := base) (Nat.le_trans hbase (Nat.le_trans K0.out.2.size D0.out.size)))
 obtain ⟨C4, e4, rfl, _⟩ := hqa.slice
 have HV3 := Hd hfb
 clear hqa hfb hb x0 x1 x2 x3 hlt1
 go_wp2_with fail
 refine And.intro D3.out ⟨_, _, rfl, rfl, ?_⟩
 go_wp2_with fail
 have HL4 := Hd (Blk.new W3 73 #[.slice C4 (unitQ n x 0 y).a.length e4, .int .i64 (unitQ n x 0 y).s, .bool (negQ (unitQ n x 0 y).b), .slice C5 n5 e5, .slice C6 n6 e6])
 have hbn := below_new W3 (.cells #[.slice C4 (unitQ n x 0 y).a.length e4, .int .i64 (unitQ n x 0 y).s, .bool (negQ (unitQ n x 0 y).b), .slice C5 n5 e5, .slice C6 n6 e6] 73)
 have D4 := Hd (below_next D3.out hbn)
 have K4 := Hd (K3.out.step hbn)
 have HQ4 := Hd (HQA.out.below EFQ.stays hbn)
 have HV4 := Hd (HV3.out.of_below hbn)
 obtain ⟨gl, hgl⟩ : ∃ g, g = W3.heap.size := ⟨_, rfl⟩
 rw [← hgl] at HL4 ⊢
 generalize W3.alloc (.cells #[.slice C4 (unitQ n x 0 y).a.length e4, .int .i64 (unitQ n x 0 y).s, .bool (negQ (unitQ n x 0 y).b), .slice C5 n5 e5, .slice C6 n6 e6] 73) = W4 at *
 clear hgl hbn
 refine And.intro D4.out ⟨_, rfl, ?_⟩
 have HRO4 := Hd (OL.below ERO.stays H3.out K4.out.2)
 have hbase4 : base ≤ W4.heap.size := Nat.le_trans hbase K4.out.2.size
 have HER : Hid (ERO base W4 #[.slice C4 (unitQ n x 0 y).a.length e4, .int .i64 (unitQ n x 0 y).s, .bool (negQ (unitQ n x 0 y).b), .slice C5 n5 e5, .slice C6 n6 e6] (unitQ n x 0 y)) := ⟨_, _, _, _, _, _, _, rfl, HIS, HQ4.out, HV4.out⟩
 obtain ⟨rs2, hrs2⟩ : ∃ l, l = p.rows ++ [unitQ n x 0 y] := ⟨_, rfl⟩
 have HRS := Hd hrs2
 have HRL : Hid (rs2.length = p.rows.length + 1) := by unfold Hid; rw [hrs2]; simp
 clear hrs2
 simp only [SQ, List.drop_succ_cons, List.drop_zero]
 go_wp2_with (at_builtin; refine wpl_appendR5F rfl (.tmp 15) (.tmp 21) rfl (base := base) (A := A3) (n := p.rows.length) (cap := c3) p.rows rfl rfl HRO4.out (unitQ n x 0 y) rfl HL4.out HER.out (by omega) hbase4 ?_; intro v6 W6 hro6 hb6; rw [← HRS.out] at hro6; obtain ⟨A6, c6, hv6, _⟩ := OL.slice hro6; rw [HRL.out] at hv6; subst hv6; have HRO6 := Hd hro6; have K6 := Hd (K4.out.step hb6); obtain ⟨x0, x1, x2, x3⟩ := (K6.out.blk 1 rfl).c4; obtain ⟨f0, f1, f2, f3⟩ := (K6.out.blk 1 rfl).f4; have hlt6 := (K6.out.blk 1 rfl).lt; clear hro6 hb6)
 refine NoPanic.normal ?_
 have HP7 := Hd ((K6.out.blk 1 rfl).put 3 (.slice A6 (p.rows.length + 1) c6))
 have KZ6 : HS w [(w.heap.size + 1, 26, #[.int .i64 0, .slice none 0 0, .slice none 0 0, .slice none 0 0])] W6 := ⟨fun b hb => K6.out.1 b (List.mem_cons.2 (Or.inl (by simpa using hb))), K6.out.2⟩
 have KZ7 := Hd (KZ6.other1 (g := w.heap.size) (Nat.le_refl _) (by simp) 3 (.slice A6 (p.rows.length + 1) c6))
 have hcp := chg_put1 (base := base) (j := 3) (K6.out.blk 1 rfl) hbase prog_words (.slice A6 (p.rows.length + 1) c6)
 have HRO7 := Hd (RO.chg HRO6.out hcp (by decide) (by decide))
 have HQ7 := Hd (QO.chg (OL.below EFQ.stays H2.out K6.out.2) hcp (by decide))
 have HF7 := Hd (FrO.chg (FrO.below H1.out K6.out.2) hcp (by decide))
 clear hcp KZ6 x0 x1 x2 x3 f0 f1 f2 f3 hlt6
 generalize W6.setCell ⟨w.heap.size, 3, none⟩ (.slice A6 (p.rows.length + 1) c6) = W7 at *
 obtain ⟨x0, x1, x2, x3⟩ := HP7.out.c4
 have hlt7 := HP7.out.lt
 obtain ⟨j0, j1, j2, j3⟩ := (KZ7.out.blk 0 rfl).c4
 obtain ⟨f0, f1, f2, f3⟩ := (KZ7.out.blk 0 rfl).f4
 have hlt0 := (KZ7.out.blk 0 rfl).lt
 go_wp2_with fail
 have hcg := chg_put4 (base := base) (KZ7.out.blk 0 rfl) (by omega) prog_words (.int .i64 (n : Int)) (.slice A1 p.free.length c1) (.slice A2 p.goal.length c2) (.slice A6 (p.rows.length + 1) c6)
 have HBQ : Hid (branchQ p x y = ⟨(n : Int), p.free, p.goal, rs2⟩) := by unfold Hid branchQ; rw [← HV.out, HRS.out]; rfl
 rw [HBQ.out]
 exact ret26 Tryz.results84 rfl ((KZ7.out.blk 0 rfl).put4 _ _ _ _) ⟨_, rfl, ⟨_, _, _, rfl, HI.out, HF7.out.chg hcg (by decide), QO.chg HQ7.out hcg (by decide), RO.chg HRO7.out hcg (by decide) (by decide)⟩, below_put4 KZ7.out.2 (by simp) _ _ _ _⟩
def wholesP (p : ProgF) (l : List Int) : Int := if rightP p ≠ 0 then rightP p else if distinctB p.vars l = false then 20 else if (l.any fun v => p.free.getD v.toNat false) = true then 20 else 0
noncomputable def boundedQ (p : ProgF) (l : List Int) : ProgQ := ⟨p.vars, p.free, p.goal.map fixQ, p.rows.map cleanR ++ l.map fun v => unitQ p.vars.toNat v (-1) 1⟩
set_option maxHeartbeats 32000000 in
set_option maxRecDepth 100000 in
theorem wholes_calls (w : World) (v vx : Value) (p : ProgF) (xs : List Int) (h : PR w v p) (hx : IL w vx xs) (hxl : xs.length ≤ 4000000000000000) (hxi : ∀ x ∈ xs, I64 x) : Calls Tryz.prog 39 #[v, vx] w fun e w' => IPost w (wholesP p xs) e w' := by
 have HP := Hd h
 have HX := Hd hx
 have HXI := Hd hxi
 obtain ⟨X1, xc, rfl, _⟩ := hx.slice
 obtain ⟨A1, c1, A2, c2, A3, c3, rfl, HI, H1, H2, H3⟩ := h.opened
 clear h hx hxi
 obtain ⟨vars, hv⟩ : ∃ n, n = p.vars := ⟨_, rfl⟩
 rw [← hv] at HP ⊢
 have HV := Hd hv
 clear hv
 go_enter Tryz.func39, Tryz.ntmps39
 go_wp2_with fail
 have H0 := Hd (HS.one (w := w) #[.int .i64 vars, .slice A1 p.free.length c1, .slice A2 p.goal.length c2, .slice A3 p.rows.length c3] 26)
 generalize w.alloc (.cells #[.int .i64 vars, .slice A1 p.free.length c1, .slice A2 p.goal.length c2, .slice A3 p.rows.length c3] 26) = W0 at *
 refine (pright_calls W0 _ p (HP.out.of_below H0.out.2)).mono ?_
 rintro e w1 ⟨rfl, hb⟩
 have K1 := Hd (H0.out.step hb)
 obtain ⟨x0, x1, x2, x3⟩ := K1.out.c4 0 rfl
 have hlt1 := (K1.out.blk 0 rfl).lt
 clear hb H0
 by_cases q1 : rightP p = 0
 case neg =>
  have u1 : (rightP p != 0) = true := bneI q1
  have HC : Hid (wholesP p xs = rightP p) := by unfold Hid wholesP; rw [if_pos q1]
  clear q1
  go_wp2_with fail
  go_ret
  exact ⟨by rw [HC.out]; rfl, K1.out.2⟩
 have u1 : (rightP p != 0) = false := beqI q1
 have hrl := rightP_len q1
 have HRZ := Hd q1
 have HFL : Hid ((p.free.length : Int) = vars) := by unfold Hid; rw [HV.out]; exact hrl.1
 have HVB : Hid (1 ≤ vars ∧ vars ≤ 160) := by unfold Hid; rw [HV.out]; exact ⟨hrl.2.2.1, hrl.2.2.2.1⟩
 clear q1 hrl
 go_wp2_with fail
 refine (distinct_calls w1 _ xs vars (HX.out.below EI.stays K1.out.2) hxl HXI.out).mono ?_
 rintro e w2 ⟨rfl, hb⟩
 have K2 := Hd (K1.out.step hb)
 clear hb x0 x1 x2 x3 hlt1 K1
 obtain ⟨x0, x1, x2, x3⟩ := K2.out.c4 0 rfl
 have hlt1 := (K2.out.blk 0 rfl).lt
 cases hd : distinctB vars xs
 case false =>
  have HC : Hid (wholesP p xs = 20) := by unfold Hid wholesP; rw [if_neg (by simp [HRZ.out]), if_pos (by rw [← HV.out]; exact hd)]
  clear hd
  go_wp2_with fail
  go_ret
  exact ⟨by rw [HC.out]; rfl, K2.out.2⟩
 have HD := Hd hd
 clear hd
 go_wp2_with fail
 clear x0 x1 x2 x3 hlt1
 go_loopw [20] (fun vi wr => ∃ i : Nat, i ≤ xs.length ∧ vi = .int .i64 (i : Int) ∧ (∀ (j : Nat) (x : Int), j < i → xs[j]? = some x → p.free.getD x.toNat false = false) ∧ HS w [(w.heap.size, 26, #[.int .i64 vars, .slice A1 p.free.length c1, .slice A2 p.goal.length c2, .slice A3 p.rows.length c3])] wr) (fun vi _ => xs.length - (intOf vi).toNat)
 case atStart => exact ⟨0, Nat.zero_le _, rfl, fun j _ h => absurd h (Nat.not_lt_zero _), K2.out⟩
 case round =>
  obtain ⟨i, hi, rfl, hall, hs⟩ := hrel
  have HA := Hd hall
  have KK := Hd hs
  clear hall hs K2
  obtain ⟨x0, x1, x2, x3⟩ := KK.out.c4 0 rfl
  have hlt1 := (KK.out.blk 0 rfl).lt
  by_cases hlt : i < xs.length
  ·obtain ⟨x, hx⟩ : ∃ x, xs[i]? = some x := ⟨xs[i], List.getElem?_eq_getElem hlt⟩
   obtain ⟨g, o, rfl, hg, k0⟩ := IL.at1 (HX.out.below EI.stays KK.out.2) hx
   have HX1 := Hd hx
   have hxr : 0 ≤ x ∧ x < vars := by
    have := HD.out
    unfold distinctB at this
    exact (of_decide_eq_true this).1 x (List.mem_of_getElem? hx)
   obtain ⟨n, rfl⟩ : ∃ n : Nat, x = n := ⟨x.toNat, by omega⟩
   have hnl : n < p.free.length := by have := HFL.out; omega
   obtain ⟨b, hb⟩ : ∃ b, p.free[n]? = some b := ⟨p.free[n], List.getElem?_eq_getElem hnl⟩
   obtain ⟨gf, of, rfl, hgf, k1⟩ := BL.at1 (SL.below EB.stays H1.out KK.out.2) hb
   have HB1 : Hid (p.free.getD (n : Int).toNat false = b) := by unfold Hid; rw [Int.toNat_natCast, List.getD_eq_getElem?_getD, hb]; rfl
   have m1 : (i : Int) < (xs.length : Int) := by omega
   have m2 : (n : Int) < (p.free.length : Int) := by omega
   have m3 : (i : Int).toNat = i := by omega
   have m5 : (n : Int).toNat = n := by omega
   have m4 : (0 : Int) ≤ (i : Int) := by omega
   have m6 : (0 : Int) ≤ (n : Int) := by omega
   clear hx hb hxr
   cases b
   case true =>
    have HC : Hid (wholesP p xs = 20) := by
     unfold Hid wholesP
     rw [if_neg (by simp [HRZ.out]), if_neg (by rw [← HV.out, HD.out]; simp), if_pos (List.any_eq_true.2 ⟨_, List.mem_of_getElem? HX1.out, HB1.out⟩)]
    go_wp2_with fail
    go_ret
    exact ⟨by rw [HC.out]; rfl, KK.out.2⟩
   case false =>
    have HNX : Hid (∀ (j : Nat) (x : Int), j < i + 1 → xs[j]? = some x → p.free.getD x.toNat false = false) := fun j y hj hy => by
     by_cases hji : j = i
     ·rw [hji, HX1.out] at hy
      injection hy with e
      rw [← e]
      exact HB1.out
     ·exact HA.out j y (by omega) hy
    go_wp2_with fail
    go_roundw
    case rel => exact ⟨i + 1, by omega, by go_num, HNX.out, KK.out⟩
    case measure => simp [intOf]; omega
  ·obtain rfl : i = xs.length := by omega
   have HC : Hid (wholesP p xs = 0) := by
    unfold Hid wholesP
    rw [if_neg (by simp [HRZ.out]), if_neg (by rw [← HV.out, HD.out]; simp), if_neg]
    rw [List.any_eq_true]
    rintro ⟨x, hx, hb⟩
    obtain ⟨j, hj⟩ := List.getElem?_of_mem hx
    rw [HA.out j x (List.getElem?_eq_some_iff.1 hj).1 hj] at hb
    cases hb
   go_wp2_with fail
   go_ret
   exact ⟨by rw [HC.out]; rfl, KK.out.2⟩
set_option maxHeartbeats 32000000 in
set_option maxRecDepth 100000 in
theorem bounded_calls (w : World) (v vx : Value) (p : ProgF) (xs : List Int) (h : PR w v p) (hx : IL w vx xs) (hxl : xs.length ≤ 1000000) (hr : rightP p = 0) (hd : distinctB p.vars xs = true) : Calls Tryz.prog 41 #[v, vx] w fun e w' => CPost w (boundedQ p xs) e w' := by
 have HP := Hd h
 have HX := Hd hx
 obtain ⟨X1, xc, rfl, _⟩ := hx.slice
 obtain ⟨A1, c1, A2, c2, A3, c3, rfl, HI, H1, H2, H3⟩ := h.opened
 clear h hx
 obtain ⟨vars, hv⟩ : ∃ n, n = p.vars := ⟨_, rfl⟩
 rw [← hv] at HP hd ⊢
 have HV := Hd hv
 have HD := Hd hd
 have hrl := rightP_len hr
 have hlf : p.free.length ≤ 1000 := by have := hrl.1; have := hrl.2.2.2.1; omega
 have hlg : p.goal.length ≤ 1000 := by have := hrl.2.1; have := hrl.2.2.2.1; omega
 have hlr : p.rows.length ≤ 1000 := by have := hrl.2.2.2.2.1; omega
 have HLA : Hid (∀ r ∈ p.rows, r.a.length ≤ 1000) := fun r hr => by have := (hrl.2.2.2.2.2 r hr).1; have := hrl.2.2.2.1; omega
 have HVB : Hid (1 ≤ vars ∧ vars ≤ 160) := by unfold Hid; rw [HV.out]; exact ⟨hrl.2.2.1, hrl.2.2.2.1⟩
 clear hv hd hr hrl
 go_enter Tryz.func41, Tryz.ntmps41
 go_wp2_with fail
 have KK := Hd (HS.two (w := w) #[.int .i64 vars, .slice A1 p.free.length c1, .slice A2 p.goal.length c2, .slice A3 p.rows.length c3] #[.int .i64 0, .slice none 0 0, .slice none 0 0, .slice none 0 0] 26 26)
 generalize (w.alloc (.cells #[.int .i64 vars, .slice A1 p.free.length c1, .slice A2 p.goal.length c2, .slice A3 p.rows.length c3] 26)).alloc (.cells #[.int .i64 0, .slice none 0 0, .slice none 0 0, .slice none 0 0] 26) = W0 at *
 refine (clean_calls _ _ p (HP.out.of_below KK.out.2) hlf hlg hlr HLA.out).mono ?_
 rintro e w2 ⟨v1, v2, v3, rfl, hfr, hq, hro, hb⟩
 rw [show (cleanQ p).vars = vars from HV.out.symm]
 have hq' : QO w.heap.size w2 v2 (p.goal.map fixQ) := hq.lower KK.out.2.size
 have hro' : RO w.heap.size w2 v3 (p.rows.map cleanR) := RO.lower hro KK.out.2.size
 obtain ⟨B2, d2, ev2, _⟩ := hq'.slice
 rw [List.length_map] at ev2
 subst ev2
 obtain ⟨B3, d3, ev3, _⟩ := OL.slice hro'
 rw [List.length_map] at ev3
 subst ev3
 have hfr' : FrO 0 w2 v1 p.free := hfr
 obtain ⟨B1, d1, rfl, _⟩ := hfr'.1.slice
 have K2 := Hd (KK.out.step hb)
 have hsz3 : w.heap.size + 2 ≤ w2.heap.size := by have : w.heap.size + 1 < w2.heap.size := (K2.out.blk 0 rfl).lt; omega
 obtain ⟨x0, x1, x2, x3⟩ := K2.out.c4 1 rfl
 have hlt2 := (K2.out.blk 1 rfl).lt
 clear hq hro hb hfr
 go_wp2_with fail
 have hbn := below_new w2 (.cells #[.int .i64 vars, .slice B1 p.free.length d1, .slice B2 p.goal.length d2, .slice B3 p.rows.length d3] 26)
 have HBc := Hd (Blk.new w2 26 #[.int .i64 vars, .slice B1 p.free.length d1, .slice B2 p.goal.length d2, .slice B3 p.rows.length d3])
 have HFc := Hd (hfr'.below hbn)
 have HQc := Hd (OL.below EFQ.stays hq' hbn)
 have HRc := Hd (OL.below ERO.stays hro' hbn)
 have HSc := Hd (K2.out.step hbn)
 obtain ⟨gq, hgq⟩ : ∃ g, g = w2.heap.size := ⟨_, rfl⟩
 rw [← hgq] at HBc
 have hgq2 : w.heap.size + 2 ≤ gq := by omega
 generalize w2.alloc (.cells #[.int .i64 vars, .slice B1 p.free.length d1, .slice B2 p.goal.length d2, .slice B3 p.rows.length d3] 26) = Wc at *
 rw [← hgq]
 clear hgq hbn hfr' hq' hro' x0 x1 x2 x3 hlt2 K2 hsz3
 obtain ⟨n, rfl⟩ : ∃ n : Nat, vars = n := ⟨vars.toNat, by have := HVB.out.1; omega⟩
 have hn2 : n ≤ 160 := by have := HVB.out.2; omega
 obtain ⟨qg, hqg⟩ : ∃ q, q = p.goal.map fixQ := ⟨_, rfl⟩
 rw [← hqg] at HQc
 have HQG := Hd hqg
 obtain ⟨rq, hrq⟩ : ∃ q, q = p.rows.map cleanR := ⟨_, rfl⟩
 rw [← hrq] at HRc
 have HRQ := Hd hrq
 have HRL : Hid (rq.length = p.rows.length) := by unfold Hid; rw [hrq, List.length_map]
 obtain ⟨fr, hfr⟩ : ∃ q, q = xs.map fun v => unitQ n v (-1) 1 := ⟨_, rfl⟩
 have HFR0 := Hd hfr
 have HFL : Hid (fr.length = xs.length) := by unfold Hid; rw [hfr, List.length_map]
 clear hfr hqg hrq KK
 go_loopw [12] (fun vi wr => ∃ i : Nat, i ≤ xs.length ∧ vi = .int .i64 (i : Int) ∧ (∃ A5 c5, Blk wr gq 26 #[.int .i64 (n : Int), .slice B1 p.free.length d1, .slice B2 p.goal.length d2, .slice A5 (p.rows.length + i) c5] ∧ RO w.heap.size wr (.slice A5 (p.rows.length + i) c5) (rq ++ fr.take i)) ∧ FrO 0 wr (.slice B1 p.free.length d1) p.free ∧ QO w.heap.size wr (.slice B2 p.goal.length d2) qg ∧ HS w [(w.heap.size + 1, 26, #[.int .i64 0, .slice none 0 0, .slice none 0 0, .slice none 0 0]), (w.heap.size, 26, #[.int .i64 (n : Int), .slice A1 p.free.length c1, .slice A2 p.goal.length c2, .slice A3 p.rows.length c3])] wr) (fun vi _ => xs.length - (intOf vi).toNat)
 case atStart => exact ⟨0, Nat.zero_le _, rfl, ⟨B3, d3, HBc.out, by rw [List.take_zero, List.append_nil]; exact HRc.out⟩, HFc.out, HQc.out, HSc.out⟩
 case round =>
  obtain ⟨i, hi, rfl, ⟨A5, c5, hbq, hro⟩, hfr, hqo, hs⟩ := hrel
  have HBQ := Hd hbq
  have HRO := Hd hro
  have HFR := Hd hfr
  have HQO := Hd hqo
  have HK := Hd hs
  clear hbq hro hfr hqo hs HBc HFc HQc HSc HRc
  obtain ⟨x0, x1, x2, x3⟩ := HK.out.c4 1 rfl
  have hltp := (HK.out.blk 1 rfl).lt
  obtain ⟨i0, i1, i2, i3⟩ := HBQ.out.c4
  have hltq := HBQ.out.lt
  by_cases hlt : i < xs.length
  ·obtain ⟨x, hx⟩ : ∃ x, xs[i]? = some x := ⟨xs[i], List.getElem?_eq_getElem hlt⟩
   obtain ⟨gx, ox, rfl, hgx, k0⟩ := IL.at1 (HX.out.below EI.stays HK.out.2) hx
   have hxr : 0 ≤ x ∧ x < (n : Int) := by
    have := HD.out
    unfold distinctB at this
    exact (of_decide_eq_true this).1 x (List.mem_of_getElem? hx)
   have HNX : Hid (rq ++ fr.take (i + 1) = rq ++ fr.take i ++ [unitQ n x (-1) 1]) := by
    unfold Hid
    rw [List.take_add_one, HFR0.out, List.getElem?_map, hx, List.append_assoc]
    rfl
   have hrl : (rq ++ fr.take i).length ≤ 1000000000 := by rw [List.length_append, HRL.out, List.length_take, HFL.out]; omega
   have m1 : (i : Int) < (xs.length : Int) := by omega
   have m3 : (i : Int).toNat = i := by omega
   have m4 : (0 : Int) ≤ (i : Int) := by omega
   clear hx
   go_wp2_with fail
   refine wp_chainF (l := [_, _, _, _, _, _, _, _, _, _]) (S := Below wr.heap.size wr) 7 [([0, 1, 2, 3, 4], 5), ([], 6)] [] (by kernel_rfl) (by kernel_rfl) (by kernel_rfl) rfl (Below.drew (Below.refl _ _)) ?_
   refine ⟨?_, _, ?_, rfl, ?_⟩
   rotate_left
   ·repeat (refine ⟨_, ?_, rfl, Or.inl ⟨by rfl, ?_⟩, ?_⟩; rotate_left; focus (intro W hW; replace hW := (bcell hW).1; go_simp; try with_reducible rfl); (try simp only [SQ]))
    exact rfl
   have D0 : Hid (Below wr.heap.size wr wr.drew) := Below.drew (Below.refl _ _)
   go_wp2_with fail
   refine (unit_calls _ n x (-1) 1 (by omega) hxr.1 hxr.2 (by unfold I64; omega) (by omega) (by omega)).mono ?_
   rintro e W3 ⟨vs, rfl, her, hb⟩
   obtain ⟨v5, C5, n5, e5, C6, n6, e6, rfl, HIS, hqa, hfb⟩ := her
   have HQA := Hd (hqa.lower (base' := w.heap.size) (Nat.le_trans HK.out.2.size D0.out.size))
   obtain ⟨C4, e4, rfl, _⟩ := hqa.slice
   have HV3 := Hd hfb
   have D3 := Hd (below_next D0.out hb)
   clear hqa hfb hb
   go_wp2_with fail
   refine And.intro D3.out ⟨_, _, rfl, rfl, ?_⟩
   go_wp2_with fail
   have HL4 := Hd (Blk.new W3 73 #[.slice C4 (unitQ n x (-1) 1).a.length e4, .int .i64 (unitQ n x (-1) 1).s, .bool (negQ (unitQ n x (-1) 1).b), .slice C5 n5 e5, .slice C6 n6 e6])
   have hbn := below_new W3 (.cells #[.slice C4 (unitQ n x (-1) 1).a.length e4, .int .i64 (unitQ n x (-1) 1).s, .bool (negQ (unitQ n x (-1) 1).b), .slice C5 n5 e5, .slice C6 n6 e6] 73)
   have D4 := Hd (below_next D3.out hbn)
   have HQ4 := Hd (HQA.out.below EFQ.stays hbn)
   have HV4 := Hd (HV3.out.of_below hbn)
   obtain ⟨gl, hgl⟩ : ∃ g, g = W3.heap.size := ⟨_, rfl⟩
   rw [← hgl] at HL4 ⊢
   generalize W3.alloc (.cells #[.slice C4 (unitQ n x (-1) 1).a.length e4, .int .i64 (unitQ n x (-1) 1).s, .bool (negQ (unitQ n x (-1) 1).b), .slice C5 n5 e5, .slice C6 n6 e6] 73) = W4 at *
   clear hgl hbn
   refine And.intro D4.out ⟨_, rfl, ?_⟩
   have HBQ4 := Hd (HBQ.out.below D4.out HBQ.out.lt)
   have HRO4 := Hd (HRO.out.below ERO.stays D4.out)
   have HFR4 := Hd (HFR.out.below D4.out)
   have HQO4 := Hd (HQO.out.below EFQ.stays D4.out)
   have HK4 := Hd (HK.out.step D4.out)
   have hbase4 : w.heap.size ≤ W4.heap.size := HK4.out.2.size
   have HER : Hid (ERO w.heap.size W4 #[.slice C4 (unitQ n x (-1) 1).a.length e4, .int .i64 (unitQ n x (-1) 1).s, .bool (negQ (unitQ n x (-1) 1).b), .slice C5 n5 e5, .slice C6 n6 e6] (unitQ n x (-1) 1)) := ⟨_, _, _, _, _, _, _, rfl, HIS, HQ4.out, HV4.out⟩
   have HRL2 : Hid ((rq ++ fr.take (i + 1)).length = p.rows.length + (i + 1)) := by unfold Hid; rw [List.length_append, HRL.out, List.length_take, HFL.out]; omega
   simp only [SQ, List.drop_succ_cons, List.drop_zero]
   clear i0 i1 i2 i3 x0 x1 x2 x3
   go_wp2_with (at_builtin; refine wpl_appendR5 rfl (.tmp 17) (.tmp 22) rfl (base := w.heap.size) (.slice A5 (p.rows.length + i) c5) (rq ++ fr.take i) rfl HRO4.out (unitQ n x (-1) 1) rfl HL4.out HER.out hrl hbase4 ?_; intro v6 W6 hro6 hcg6 hw6 hob6; obtain ⟨A6, c6, hv6, _⟩ := hro6.slice; rw [← HNX.out] at hro6 hv6; rw [HRL2.out] at hv6; subst hv6; have HRO6 := Hd hro6; have HBQ6 := Hd (HBQ4.out.chg hcg6 (by decide)); have HFR6 := Hd (HFR4.out.chg hcg6 (by decide)); have HQO6 := Hd (QO.chg HQO4.out hcg6 (by decide)); have HK6 := Hd (HS.chg HK4.out hcg6 (by simp) rfl hw6); obtain ⟨i0, i1, i2, i3⟩ := HBQ6.out.c4; obtain ⟨f0, f1, f2, f3⟩ := HBQ6.out.f4; have hltq6 := HBQ6.out.lt; clear hro6 hcg6 hw6 hob6)
   refine NoPanic.normal ?_
   have hcp := chg_put1 (base := w.heap.size) (j := 3) HBQ6.out (by omega) prog_words (.slice A6 (p.rows.length + (i + 1)) c6)
   have HX1 := Hd (HBQ6.out.put 3 (.slice A6 (p.rows.length + (i + 1)) c6))
   have HX2 := Hd (RO.chg HRO6.out hcp (by decide) (by decide))
   have HX3 := Hd (HFR6.out.chg hcp (by decide))
   have HX4 := Hd (QO.chg HQO6.out hcp (by decide))
   have HX5 := Hd (HK6.out.other1 (g := gq) (by omega) (by simp; omega) 3 (.slice A6 (p.rows.length + (i + 1)) c6))
   clear hcp
   go_wp2_with fail
   go_roundw
   case rel => exact ⟨i + 1, by omega, by go_num, ⟨A6, c6, HX1.out, HX2.out⟩, HX3.out, HX4.out, HX5.out⟩
   case measure => simp [intOf]; omega
  ·obtain rfl : i = xs.length := by omega
   have hfa : fr.take xs.length = fr := List.take_of_length_le (by rw [HFL.out]; exact Nat.le_refl _)
   rw [hfa] at HRO
   clear hfa x0 x1 x2 x3 hltp
   have HFE : Hid (boundedQ p xs = ⟨p.vars, p.free, p.goal.map fixQ, rq ++ fr⟩) := by unfold Hid boundedQ; rw [HRQ.out, HFR0.out, ← HV.out]; rfl
   obtain ⟨j0, j1, j2, j3⟩ := (HK.out.blk 0 rfl).c4
   obtain ⟨f0, f1, f2, f3⟩ := (HK.out.blk 0 rfl).f4
   have hlt0 := (HK.out.blk 0 rfl).lt
   go_wp2_with fail
   have hcg := chg_put4 (base := w.heap.size) (HK.out.blk 0 rfl) (by simp) prog_words (.int .i64 (n : Int)) (.slice B1 p.free.length d1) (.slice B2 p.goal.length d2) (.slice A5 (p.rows.length + xs.length) c5)
   rw [HFE.out]
   exact ret26 Tryz.results41 rfl ((HK.out.blk 0 rfl).put4 _ _ _ _) ⟨_, _, _, by show Ending.returned _ = Ending.returned (Value.agg #[.int .i64 p.vars, _, _, _]); rw [← HV.out], HFR.out.chg hcg (by decide), by show QO _ _ _ (p.goal.map fixQ); rw [← HQG.out]; exact QO.chg HQO.out hcg (by decide), RO.chg HRO.out hcg (by decide) (by decide), below_put4 HK.out.2 (by simp) _ _ _ _⟩
theorem chain_skip {P : Program} {ops : Array Oper} {Q : Exit → Act → World → Prop} {K : Act → World → Prop} {o : Oper} {a : Act} {w : World} (hg : Region.wanted o (yielded ops a.tmps) = false) (h : K (a.put o.dst undef) w) : wpList P ops (chainQ Q K) [o] a w := by
 unfold wpList
 rw [if_neg (by rw [hg]; simp)]
 exact h
theorem calls_to {n : Nat} {args : Array Value} {w : World} {a b : Bool} (h : Calls Tryz.prog n args w fun e w' => BPost w a e w') (e : a = b) : Calls Tryz.prog n args w fun e w' => BPost w b e w' := e ▸ h
noncomputable def judgeB (p : ProgF) (c : CertF) : Bool :=
 if rightP p ≠ 0 then false
 else if c.kind = 1 then fitsB p c.x && (boundsB p c.y (some p.goal) && decide (ordQ (rightsQ p c.y) (capQ (dotQ (p.goal.map fixQ) (c.x.map fixQ))) = 0))
 else if c.kind = 2 then boundsB p c.y none && decide (signQ (rightsQ p c.y) < 0)
 else if c.kind = 3 then fitsB p c.x && goesB p c.ray
 else false
set_option maxHeartbeats 32000000 in
set_option maxRecDepth 100000 in
theorem judge_calls (w : World) (v v2 : Value) (p : ProgF) (c : CertF) (h : PR w v p) (h2 : CR w v2 c) (hlx : c.x.length ≤ 100000) (hly : c.y.length ≤ 100000) (hlr : c.ray.length ≤ 100000) : Calls Tryz.prog 14 #[v, v2] w fun e w' => BPost w (judgeB p c) e w' := by
 have HP := Hd h
 have HC := Hd h2
 obtain ⟨A1, c1, A2, c2, A3, c3, rfl, HI, H1, H2, H3⟩ := h.opened
 obtain ⟨B1, d1, B2, d2, B3, d3, rfl, HX, HY, HR⟩ := h2.opened
 clear h h2
 obtain ⟨vars, hv⟩ : ∃ n, n = p.vars := ⟨_, rfl⟩
 rw [← hv] at HP ⊢
 have HV := Hd hv
 obtain ⟨kd, hkd⟩ : ∃ k, k = c.kind := ⟨_, rfl⟩
 rw [← hkd] at HC ⊢
 have HKD := Hd hkd
 clear hv hkd
 go_enter Tryz.func14, Tryz.ntmps14
 go_wp2_with fail
 have H0 := Hd (HS.two (w := w) #[.int .i64 vars, .slice A1 p.free.length c1, .slice A2 p.goal.length c2, .slice A3 p.rows.length c3] #[.int .i64 kd, .slice B1 c.x.length d1, .slice B2 c.y.length d2, .slice B3 c.ray.length d3] 26 35)
 generalize (w.alloc (.cells #[.int .i64 vars, .slice A1 p.free.length c1, .slice A2 p.goal.length c2, .slice A3 p.rows.length c3] 26)).alloc (.cells #[.int .i64 kd, .slice B1 c.x.length d1, .slice B2 c.y.length d2, .slice B3 c.ray.length d3] 35) = W0 at *
 refine (pright_calls W0 _ p (HP.out.of_below H0.out.2)).mono ?_
 rintro e w1 ⟨rfl, hb⟩
 have K1 := Hd (H0.out.step hb)
 obtain ⟨x0, x1, x2, x3⟩ := K1.out.c4 1 rfl
 obtain ⟨y0, y1, y2, y3⟩ := K1.out.c4 0 rfl
 clear hb
 by_cases q1 : rightP p = 0
 case neg =>
  have u1 : (rightP p != 0) = true := bneI q1
  have HE : Hid (judgeB p c = false) := by unfold Hid judgeB; rw [if_pos q1]
  clear q1
  go_wp2_with fail
  go_ret
  exact ⟨by rw [HE.out]; rfl, K1.out.2⟩
 have u1 : (rightP p != 0) = false := beqI q1
 have HR0 := Hd q1
 have hrl := rightP_len q1
 have hrw : p.rows.length ≤ 400 := hrl.2.2.2.2.1
 have hgl : p.goal.length ≤ 100000 := by have := hrl.2.1; have := hrl.2.2.2.1; omega
 have HGV : Hid ((p.goal.length : Int) = p.vars) := hrl.2.1
 clear q1 hrl
 have cells : ∀ W, HS w [(w.heap.size + 1, 35, #[.int .i64 kd, .slice B1 c.x.length d1, .slice B2 c.y.length d2, .slice B3 c.ray.length d3]), (w.heap.size, 26, #[.int .i64 vars, .slice A1 p.free.length c1, .slice A2 p.goal.length c2, .slice A3 p.rows.length c3])] W → (W.cell? ⟨w.heap.size, 0, none⟩ = some (.int .i64 vars) ∧ W.cell? ⟨w.heap.size, 1, none⟩ = some (.slice A1 p.free.length c1) ∧ W.cell? ⟨w.heap.size, 2, none⟩ = some (.slice A2 p.goal.length c2) ∧ W.cell? ⟨w.heap.size, 3, none⟩ = some (.slice A3 p.rows.length c3) ∧ W.cell? ⟨w.heap.size + 1, 0, none⟩ = some (.int .i64 kd) ∧ W.cell? ⟨w.heap.size + 1, 1, none⟩ = some (.slice B1 c.x.length d1) ∧ W.cell? ⟨w.heap.size + 1, 2, none⟩ = some (.slice B2 c.y.length d2) ∧ W.cell? ⟨w.heap.size + 1, 3, none⟩ = some (.slice B3 c.ray.length d3)) := fun W h => by
  obtain ⟨a, b, c, d⟩ := h.c4 1 rfl
  obtain ⟨e, f, g, i⟩ := h.c4 0 rfl
  exact ⟨a, b, c, d, e, f, g, i⟩
 have HCELLS := Hd cells
 clear cells
 by_cases k1 : kd = 1
 ·have t1 : (kd == 1) = true := beqI' k1
  have HE1 : Hid (judgeB p c = (fitsB p c.x && (boundsB p c.y (some p.goal) && decide (ordQ (rightsQ p c.y) (capQ (dotQ (p.goal.map fixQ) (c.x.map fixQ))) = 0)))) := by unfold Hid judgeB; rw [if_neg (by rw [HR0.out]; simp), if_pos (by rw [← HKD.out]; exact k1)]
  clear k1
  cases hf : fitsB p c.x with
  | false =>
   have HE2 : Hid (judgeB p c = false) := by unfold Hid; rw [HE1.out, hf]; rfl
   have l0 := (K1.out.blk 1 rfl).lt
   have l1 := (K1.out.blk 0 rfl).lt
   go_wp2_with fail
   refine wp_chainS (S := Below w1.heap.size w1) [([0, 1, 2], 3), ([4, 5, 6, 7, 8, 9], 10), ([11, 12, 13, 14, 15, 17, 18, 19, 20], 16), ([], 21), ([], 22)] [23, 24, 25] (by kernel_rfl) (by kernel_rfl) (by kernel_rfl) rfl (Below.drew (Below.refl _ _)) ?_
   refine ⟨?_, _, ?_, rfl, ?_⟩
   rotate_left
   ·(iterate 3 ((refine ⟨_, ?_, rfl, Or.inl ⟨by rfl, ?_⟩, ?_⟩; rotate_left; focus (intro W hW; replace hW := (bcell hW).1; go_simp; try with_reducible rfl)); (try simp only [SQ])))
    exact rfl
   have D0 : Hid (Below w1.heap.size w1 w1.drew) := Below.drew (Below.refl _ _)
   have E0 := Hd (HS.step K1.out D0.out)
   go_wp2_with fail
   refine (calls_to (fits_calls _ _ _ p c.x (HP.out.of_below E0.out.2) (HX.out.below EF.stays E0.out.2) HR0.out) hf).mono ?_
   rintro e w2 ⟨rfl, hb⟩
   have D2 := Hd (below_next D0.out hb)
   have E2 := Hd (HS.step K1.out D2.out)
   clear hb
   go_wp2_with fail
   refine And.intro D2.out ⟨?_, _, ?_, rfl, ?_⟩
   rotate_left
   ·((refine ⟨_, ?_, rfl, Or.inl ⟨by rfl, ?_⟩, ?_⟩; rotate_left; focus (intro W hW; replace hW := (bcell hW).1; go_simp; try with_reducible rfl)); (try simp only [SQ])); (iterate 5 ((refine ⟨_, undef, rfl, Or.inr ⟨by kernel_rfl, rfl⟩, ?_⟩); (try simp only [SQ])))
    exact rfl
   refine chain_skip (by kernel_rfl) (And.intro D2.out ?_)
   (try simp only [SQ])
   refine ⟨?_, _, ?_, rfl, ?_⟩
   rotate_left
   ·(iterate 2 ((refine ⟨_, ?_, rfl, Or.inl ⟨by rfl, ?_⟩, ?_⟩; rotate_left; focus (intro W hW; replace hW := (bcell hW).1; go_simp; try with_reducible rfl)); (try simp only [SQ]))); (iterate 7 ((refine ⟨_, undef, rfl, Or.inr ⟨by kernel_rfl, rfl⟩, ?_⟩); (try simp only [SQ])))
    exact rfl
   refine chain_skip (by kernel_rfl) (And.intro D2.out ?_)
   (try simp only [SQ])
   refine ⟨_, _, rfl, rfl, ?_⟩
   refine chain_skip (by kernel_rfl) (And.intro D2.out ?_)
   (try simp only [SQ])
   refine ⟨_, _, rfl, rfl, ?_⟩
   refine chain_skip (by kernel_rfl) (And.intro D2.out ?_)
   (try simp only [SQ])
   refine ⟨?_, ?_, ?_⟩
   rotate_left
   ·((refine ⟨_, undef, rfl, Or.inr ⟨by kernel_rfl, rfl⟩, ?_⟩); (try simp only [SQ])); (iterate 2 ((refine ⟨_, ?_, rfl, Or.inl ⟨by rfl, ?_⟩, ?_⟩; rotate_left; focus (intro W hW; replace hW := (bcell hW).1; go_simp; try with_reducible rfl)); (try simp only [SQ])))
    exact rfl
   refine NoPanic.normal ?_
   go_wp2_with fail
   go_ret
   exact ⟨by rw [HE2.out]; rfl, E2.out.2⟩
  | true =>
   cases hb0 : boundsB p c.y (some p.goal) with
   | false =>
    have HE2 : Hid (judgeB p c = false) := by unfold Hid; rw [HE1.out, hf, hb0]; rfl
    have l0 := (K1.out.blk 1 rfl).lt
    have l1 := (K1.out.blk 0 rfl).lt
    go_wp2_with fail
    refine wp_chainS (S := Below w1.heap.size w1) [([0, 1, 2], 3), ([4, 5, 6, 7, 8, 9], 10), ([11, 12, 13, 14, 15, 17, 18, 19, 20], 16), ([], 21), ([], 22)] [23, 24, 25] (by kernel_rfl) (by kernel_rfl) (by kernel_rfl) rfl (Below.drew (Below.refl _ _)) ?_
    refine ⟨?_, _, ?_, rfl, ?_⟩
    rotate_left
    ·(iterate 3 ((refine ⟨_, ?_, rfl, Or.inl ⟨by rfl, ?_⟩, ?_⟩; rotate_left; focus (intro W hW; replace hW := (bcell hW).1; go_simp; try with_reducible rfl)); (try simp only [SQ])))
     exact rfl
    have D0 : Hid (Below w1.heap.size w1 w1.drew) := Below.drew (Below.refl _ _)
    have E0 := Hd (HS.step K1.out D0.out)
    go_wp2_with fail
    refine (calls_to (fits_calls _ _ _ p c.x (HP.out.of_below E0.out.2) (HX.out.below EF.stays E0.out.2) HR0.out) hf).mono ?_
    rintro e w2 ⟨rfl, hb⟩
    have D2 := Hd (below_next D0.out hb)
    have E2 := Hd (HS.step K1.out D2.out)
    clear hb
    go_wp2_with fail
    refine And.intro D2.out ⟨?_, _, ?_, rfl, ?_⟩
    rotate_left
    ·(iterate 6 ((refine ⟨_, ?_, rfl, Or.inl ⟨by rfl, ?_⟩, ?_⟩; rotate_left; focus (intro W hW; replace hW := (bcell hW).1; go_simp; try with_reducible rfl)); (try simp only [SQ])))
     exact rfl
    go_wp2_with fail
    refine (calls_to (bounds_calls _ _ _ p c.y (HP.out.of_below E2.out.2) (HY.out.below EF.stays E2.out.2) _ p.goal (H2.out.below EF.stays E2.out.2) HGV.out HR0.out hly) hb0).mono ?_
    rintro e w3 ⟨rfl, hb⟩
    have D3 := Hd (below_next D2.out hb)
    have E3 := Hd (HS.step K1.out D3.out)
    clear hb
    go_wp2_with fail
    refine And.intro D3.out ⟨?_, _, ?_, rfl, ?_⟩
    rotate_left
    ·(iterate 2 ((refine ⟨_, ?_, rfl, Or.inl ⟨by rfl, ?_⟩, ?_⟩; rotate_left; focus (intro W hW; replace hW := (bcell hW).1; go_simp; try with_reducible rfl)); (try simp only [SQ]))); (iterate 7 ((refine ⟨_, undef, rfl, Or.inr ⟨by kernel_rfl, rfl⟩, ?_⟩); (try simp only [SQ])))
     exact rfl
    refine chain_skip (by kernel_rfl) (And.intro D3.out ?_)
    (try simp only [SQ])
    refine ⟨_, _, rfl, rfl, ?_⟩
    refine chain_skip (by kernel_rfl) (And.intro D3.out ?_)
    (try simp only [SQ])
    refine ⟨_, _, rfl, rfl, ?_⟩
    refine chain_skip (by kernel_rfl) (And.intro D3.out ?_)
    (try simp only [SQ])
    refine ⟨?_, ?_, ?_⟩
    rotate_left
    ·((refine ⟨_, undef, rfl, Or.inr ⟨by kernel_rfl, rfl⟩, ?_⟩); (try simp only [SQ])); (iterate 2 ((refine ⟨_, ?_, rfl, Or.inl ⟨by rfl, ?_⟩, ?_⟩; rotate_left; focus (intro W hW; replace hW := (bcell hW).1; go_simp; try with_reducible rfl)); (try simp only [SQ])))
     exact rfl
    refine NoPanic.normal ?_
    go_wp2_with fail
    go_ret
    exact ⟨by rw [HE2.out]; rfl, E3.out.2⟩
   | true =>
    have HE2 : Hid (judgeB p c = decide (ordQ (rightsQ p c.y) (capQ (dotQ (p.goal.map fixQ) (c.x.map fixQ))) = 0)) := by unfold Hid; rw [HE1.out, hf, hb0]; rfl
    have l0 := (K1.out.blk 1 rfl).lt
    have l1 := (K1.out.blk 0 rfl).lt
    go_wp2_with fail
    refine wp_chainS (S := Below w1.heap.size w1) [([0, 1, 2], 3), ([4, 5, 6, 7, 8, 9], 10), ([11, 12, 13, 14, 15, 17, 18, 19, 20], 16), ([], 21), ([], 22)] [23, 24, 25] (by kernel_rfl) (by kernel_rfl) (by kernel_rfl) rfl (Below.drew (Below.refl _ _)) ?_
    refine ⟨?_, _, ?_, rfl, ?_⟩
    rotate_left
    ·(iterate 3 ((refine ⟨_, ?_, rfl, Or.inl ⟨by rfl, ?_⟩, ?_⟩; rotate_left; focus (intro W hW; replace hW := (bcell hW).1; go_simp; try with_reducible rfl)); (try simp only [SQ])))
     exact rfl
    have D0 : Hid (Below w1.heap.size w1 w1.drew) := Below.drew (Below.refl _ _)
    have E0 := Hd (HS.step K1.out D0.out)
    go_wp2_with fail
    refine (calls_to (fits_calls _ _ _ p c.x (HP.out.of_below E0.out.2) (HX.out.below EF.stays E0.out.2) HR0.out) hf).mono ?_
    rintro e w2 ⟨rfl, hb⟩
    have D2 := Hd (below_next D0.out hb)
    have E2 := Hd (HS.step K1.out D2.out)
    clear hb
    go_wp2_with fail
    refine And.intro D2.out ⟨?_, _, ?_, rfl, ?_⟩
    rotate_left
    ·(iterate 6 ((refine ⟨_, ?_, rfl, Or.inl ⟨by rfl, ?_⟩, ?_⟩; rotate_left; focus (intro W hW; replace hW := (bcell hW).1; go_simp; try with_reducible rfl)); (try simp only [SQ])))
     exact rfl
    go_wp2_with fail
    refine (calls_to (bounds_calls _ _ _ p c.y (HP.out.of_below E2.out.2) (HY.out.below EF.stays E2.out.2) _ p.goal (H2.out.below EF.stays E2.out.2) HGV.out HR0.out hly) hb0).mono ?_
    rintro e w3 ⟨rfl, hb⟩
    have D3 := Hd (below_next D2.out hb)
    have E3 := Hd (HS.step K1.out D3.out)
    clear hb
    go_wp2_with fail
    refine And.intro D3.out ⟨?_, _, ?_, rfl, ?_⟩
    rotate_left
    ·(iterate 9 ((refine ⟨_, ?_, rfl, Or.inl ⟨by rfl, ?_⟩, ?_⟩; rotate_left; focus (intro W hW; replace hW := (bcell hW).1; go_simp; try with_reducible rfl)); (try simp only [SQ])))
     exact rfl
    go_wp2_with fail
    refine (rights_calls _ _ _ p c.y (HP.out.of_below E3.out.2) (HY.out.below EF.stays E3.out.2) hrw hly).mono ?_
    rintro e w4 ⟨v, rfl, hv, hb⟩
    obtain ⟨A5, n5, c5, A6, n6, c6, rfl, HV1⟩ := hv.opened
    have D4 := Hd (below_next D3.out hb)
    have E4 := Hd (HS.step K1.out D4.out)
    clear hv hb
    go_wp2_with fail
    refine And.intro D4.out ⟨_, _, rfl, rfl, ?_⟩
    go_wp2_with fail
    refine (fdot_calls _ _ _ p.goal c.x (H2.out.below EF.stays E4.out.2) (HX.out.below EF.stays E4.out.2) hgl hlx).mono ?_
    rintro e w5 ⟨v, rfl, hv, hb⟩
    obtain ⟨A7, n7, c7, A8, n8, c8, rfl, HV2⟩ := hv.opened
    have HV1' := Hd (HV1.out.of_below hb)
    have D5 := Hd (below_next D4.out hb)
    clear hv hb
    go_wp2_with fail
    refine And.intro D5.out ⟨_, _, rfl, rfl, ?_⟩
    go_wp2_with fail
    refine (fcmp_calls _ _ _ _ _ (FR.of_fq HV1'.out (capQ_size _)) (FR.of_fq HV2.out (capQ_size _))).mono ?_
    rintro e w6 ⟨rfl, hb⟩
    have e1 : fixQ (rawQ (rightsQ p c.y)) = rightsQ p c.y := fixQ_raw _ (capQ_size _)
    rw [e1, fix_cap]
    have D6 := Hd (below_next D5.out hb)
    have E6 := Hd (HS.step K1.out D6.out)
    clear hb e1
    go_wp2_with fail
    refine And.intro D6.out ⟨?_, ?_, ?_⟩
    rotate_left
    ·(iterate 3 ((refine ⟨_, ?_, rfl, Or.inl ⟨by rfl, ?_⟩, ?_⟩; rotate_left; focus (intro W hW; replace hW := (bcell hW).1; go_simp; try with_reducible rfl)); (try simp only [SQ])))
     exact rfl
    refine NoPanic.normal ?_
    go_wp2_with fail
    go_ret
    exact ⟨by rw [HE2.out]; rfl, E6.out.2⟩
 have t1 : (kd == 1) = false := bneI' k1
 by_cases k2 : kd = 2
 ·have t2 : (kd == 2) = true := beqI' k2
  have HE1 : Hid (judgeB p c = (boundsB p c.y none && decide (signQ (rightsQ p c.y) < 0))) := by unfold Hid judgeB; rw [if_neg (by rw [HR0.out]; simp), if_neg (by rw [← HKD.out]; exact k1), if_pos (by rw [← HKD.out]; exact k2)]
  clear k1 k2
  go_wp2_with fail
  refine (bounds0_calls w1 _ _ p c.y (HP.out.of_below K1.out.2) (HY.out.below EF.stays K1.out.2) HR0.out hly).mono ?_
  rintro e w2 ⟨rfl, hb⟩
  have K2 := Hd (K1.out.step hb)
  obtain ⟨x0, x1, x2, x3⟩ := K2.out.c4 1 rfl
  obtain ⟨y0, y1, y2, y3⟩ := K2.out.c4 0 rfl
  clear hb
  cases hb0 : boundsB p c.y none with
  | false =>
   have HE2 : Hid (judgeB p c = false) := by unfold Hid; rw [HE1.out, hb0]; rfl
   clear hb0
   go_wp2_with fail
   go_ret
   exact ⟨by rw [HE2.out]; rfl, K2.out.2⟩
  | true =>
   have HE2 : Hid (judgeB p c = decide (signQ (rightsQ p c.y) < 0)) := by unfold Hid; rw [HE1.out, hb0]; rfl
   clear hb0
   go_wp2_with fail
   refine (rights_calls w2 _ _ p c.y (HP.out.of_below K2.out.2) (HY.out.below EF.stays K2.out.2) hrw hly).mono ?_
   rintro e w3 ⟨v, rfl, hv, hb⟩
   obtain ⟨A5, n5, c5, A6, n6, c6, rfl, HV1⟩ := hv.opened
   have K3 := Hd (K2.out.step hb)
   clear hv hb
   go_wp2_with fail
   refine (sgn_calls _ _ _ (FR.of_fq HV1.out (capQ_size _))).mono ?_
   rintro e w4 ⟨rfl, hb⟩
   have e1 : fixQ (rawQ (rightsQ p c.y)) = rightsQ p c.y := fixQ_raw _ (capQ_size _)
   rw [e1]
   have K4 := Hd (K3.out.step hb)
   clear hb e1
   go_wp2_with fail
   go_ret
   exact ⟨by rw [HE2.out]; rfl, K4.out.2⟩
 have t2 : (kd == 2) = false := bneI' k2
 by_cases k3 : kd = 3
 ·have t3 : (kd == 3) = true := beqI' k3
  have HE1 : Hid (judgeB p c = (fitsB p c.x && goesB p c.ray)) := by unfold Hid judgeB; rw [if_neg (by rw [HR0.out]; simp), if_neg (by rw [← HKD.out]; exact k1), if_neg (by rw [← HKD.out]; exact k2), if_pos (by rw [← HKD.out]; exact k3)]
  clear k1 k2 k3
  go_wp2_with fail
  refine (fits_calls w1 _ _ p c.x (HP.out.of_below K1.out.2) (HX.out.below EF.stays K1.out.2) HR0.out).mono ?_
  rintro e w2 ⟨rfl, hb⟩
  have K2 := Hd (K1.out.step hb)
  obtain ⟨x0, x1, x2, x3⟩ := K2.out.c4 1 rfl
  obtain ⟨y0, y1, y2, y3⟩ := K2.out.c4 0 rfl
  clear hb
  cases hb0 : fitsB p c.x with
  | false =>
   have HE2 : Hid (judgeB p c = false) := by unfold Hid; rw [HE1.out, hb0]; rfl
   clear hb0
   go_wp2_with fail
   go_ret
   exact ⟨by rw [HE2.out]; rfl, K2.out.2⟩
  | true =>
   have HE2 : Hid (judgeB p c = goesB p c.ray) := by unfold Hid; rw [HE1.out, hb0]; rfl
   clear hb0
   go_wp2_with fail
   refine (goes_calls w2 _ _ p c.ray (HP.out.of_below K2.out.2) (HR.out.below EF.stays K2.out.2) HR0.out).mono ?_
   rintro e w3 ⟨rfl, hb⟩
   have K3 := Hd (K2.out.step hb)
   clear hb
   go_wp2_with fail
   go_ret
   exact ⟨by rw [HE2.out]; rfl, K3.out.2⟩
 have t3 : (kd == 3) = false := bneI' k3
 have HE1 : Hid (judgeB p c = false) := by unfold Hid judgeB; rw [if_neg (by rw [HR0.out]; simp), if_neg (by rw [← HKD.out]; exact k1), if_neg (by rw [← HKD.out]; exact k2), if_neg (by rw [← HKD.out]; exact k3)]
 clear k1 k2 k3
 go_wp2_with fail
 go_ret
 exact ⟨by rw [HE1.out]; rfl, K1.out.2⟩
def rawR (r : RowQ) : RowF := ⟨r.a.map rawQ, r.s, rawQ r.b⟩
def rawP (p : ProgQ) : ProgF := ⟨p.vars, p.free, p.goal.map rawQ, p.rows.map rawR⟩
theorem ERO.er {base : Nat} {w : World} {vs : Array Value} {r : RowQ} (h : ERO base w vs r) (hs : SmallR r) : ER w vs (rawR r) := by
 obtain ⟨v, A1, n1, c1, A2, n2, c2, rfl, hi, hq, hf⟩ := h
 exact ⟨v, A1, n1, c1, A2, n2, c2, rfl, hi, QO.fl hq hs.1, FR.of_fq hf hs.2⟩
theorem PO.pr {base : Nat} {w : World} {v : Value} {p : ProgQ} (h : PO base w v p) (hs : SmallP p) : PR w v (rawP p) := by
 obtain ⟨v1, v2, v3, rfl, hi, hf, hg, hr⟩ := h
 exact ⟨v1, v2, v3, rfl, hi, hf.1, QO.fl hg hs.1, SL.mapE rawR (OL.sl hr) fun vs r hm he => ERO.er he (hs.2 r hm)⟩
theorem fix_raws {qs : List Rat} (hs : ∀ q ∈ qs, Small q) : (qs.map rawQ).map fixQ = qs := by
  rw [List.map_map]
  calc qs.map (fixQ ∘ rawQ) = qs.map id := List.map_congr_left fun q hq => fixQ_raw q (hs q hq)
    _ = qs := by simp
theorem clean_raw {p : ProgQ} (hs : SmallP p) : cleanQ (rawP p) = p := by
  obtain ⟨vars, free, goal, rows⟩ := p
  have h1 := fix_raws hs.1
  have h2 : (rows.map rawR).map cleanR = rows := by
    rw [List.map_map]
    calc rows.map (cleanR ∘ rawR) = rows.map id := List.map_congr_left fun r hr => by
            obtain ⟨a, s, b⟩ := r
            have := hs.2 _ hr
            show RowQ.mk ((a.map rawQ).map fixQ) s (fixQ (rawQ b)) = _
            rw [fix_raws this.1, fixQ_raw b this.2]
            rfl
      _ = rows := by simp
  show ProgQ.mk vars free ((goal.map rawQ).map fixQ) ((rows.map rawR).map cleanR) = _
  rw [h1, h2]
theorem small_one : Small 1 := by unfold Small sizeQ; decide +kernel
theorem small_nil : Small 0 := by unfold Small; rw [sizeQ_zero]; decide
theorem small_unit (n : Nat) (v s b : Int) (hb : b = 0 ∨ b = 1) : SmallR (unitQ n v s b) := by
 refine ⟨fun q hq => ?_, ?_⟩
 ·obtain ⟨i, _, rfl⟩ := List.mem_map.1 hq
  split
  ·exact small_one
  ·exact small_nil
 ·rcases hb with rfl | rfl
  ·exact small_nil
  ·exact small_one
structure CaseF where
 var : Int
 zero : Int
 one : Int
 cert : CertF
def ECase (w : World) (vs : Array Value) (c : CaseF) : Prop := ∃ v1 v2 v3, vs = #[.int .i64 c.var, .int .i64 c.zero, .int .i64 c.one, .int .i64 c.cert.kind, v1, v2, v3] ∧ (I64 c.var ∧ I64 c.zero ∧ I64 c.one) ∧ CR w (.agg #[.int .i64 c.cert.kind, v1, v2, v3]) c.cert
theorem ECase.stays : Stays ECase := fun w w1 vs c h hb => by
 obtain ⟨v1, v2, v3, e, hi, hc⟩ := h
 exact ⟨v1, v2, v3, e, hi, hc.of_below hb⟩
abbrev CL (w : World) (v : Value) (cs : List CaseF) : Prop := SL 7 ECase w v cs
theorem CL.at7 {w : World} {A : Option Addr} {n c : Nat} {cs : List CaseF} (h : CL w (.slice A n c) cs) {j : Nat} {x : CaseF} (hj : cs[j]? = some x) :
  ∃ g o B1 d1 B2 d2 B3 d3, A = some ⟨g, o, none⟩ ∧ g < w.heap.size ∧ (w.cell? ⟨g, o + j * 7, none⟩ = some (.int .i64 x.var) ∧ w.cell? ⟨g, o + j * 7 + 1, none⟩ = some (.int .i64 x.zero) ∧ w.cell? ⟨g, o + j * 7 + 2, none⟩ = some (.int .i64 x.one) ∧ w.cell? ⟨g, o + j * 7 + 3, none⟩ = some (.int .i64 x.cert.kind) ∧
   w.cell? ⟨g, o + j * 7 + 4, none⟩ = some (.slice B1 x.cert.x.length d1) ∧ w.cell? ⟨g, o + j * 7 + 5, none⟩ = some (.slice B2 x.cert.y.length d2) ∧ w.cell? ⟨g, o + j * 7 + 6, none⟩ = some (.slice B3 x.cert.ray.length d3)) ∧ Hid (I64 x.var ∧ I64 x.zero ∧ I64 x.one) ∧ Hid (CR w (.agg #[.int .i64 x.cert.kind, .slice B1 x.cert.x.length d1, .slice B2 x.cert.y.length d2, .slice B3 x.cert.ray.length d3]) x.cert) := by
 obtain ⟨g, o, vs, hA, hg, hs, hc, v1, v2, v3, rfl, hi, hcr⟩ := h.at_ hj
 obtain ⟨B1, d1, B2, d2, B3, d3, e, _, _, _⟩ := hcr.opened
 injection e with e
 injection e with e
 injection e with e0 e
 injection e with e1 e
 injection e with e2 e
 injection e with e3 e
 subst e1 e2 e3
 exact ⟨g, o, B1, d1, B2, d2, B3, d3, hA, hg, ⟨hc 0 _ rfl, hc 1 _ rfl, hc 2 _ rfl, hc 3 _ rfl, hc 4 _ rfl, hc 5 _ rfl, hc 6 _ rfl⟩, hi, hcr⟩
theorem Blk.c7 {W : World} {g t : Nat} {a b c d e f h : Value} (H : Blk W g t #[a, b, c, d, e, f, h]) : W.cell? ⟨g, 0, none⟩ = some a ∧ W.cell? ⟨g, 1, none⟩ = some b ∧ W.cell? ⟨g, 2, none⟩ = some c ∧ W.cell? ⟨g, 3, none⟩ = some d ∧ W.cell? ⟨g, 4, none⟩ = some e ∧ W.cell? ⟨g, 5, none⟩ = some f ∧ W.cell? ⟨g, 6, none⟩ = some h :=
 ⟨H.cell rfl, H.cell rfl, H.cell rfl, H.cell rfl, H.cell rfl, H.cell rfl, H.cell rfl⟩
def IO (base : Nat) (w : World) (v : Value) (l : List Int) : Prop := IL w v l ∧ ∀ g, v.ownBlock = some g → 0 < l.length → g < base ∨ ∃ cs, Blk w g 3 cs
theorem IO.below {base : Nat} {w w1 : World} {v : Value} {l : List Int} (h : IO base w v l) (hb : Below w.heap.size w w1) : IO base w1 v l := by
 refine ⟨SL.below EI.stays h.1 hb, fun g hg hl => ?_⟩
 rcases h.2 g hg hl with h2 | ⟨cs, h2⟩
 ·exact .inl h2
 ·exact .inr ⟨cs, h2.below hb h2.lt⟩
theorem IO.chg {base t : Nat} {w w1 : World} {v : Value} {l : List Int} (h : IO base w v l) (hc : Chg base t w w1) (hne : 3 ≠ t) : IO base w1 v l := by
 obtain ⟨⟨A, c, e, hlc, hr⟩, h2⟩ := h
 subst e
 have same : 0 < l.length → ∀ g o, A = some ⟨g, o, none⟩ → w1.heap[g]? = w.heap[g]? := fun hp g o hA => by
  obtain ⟨g', o', hA', hg', _⟩ := hr hp
  rw [hA] at hA'
  injection hA' with hA'
  injection hA' with hA' _
  subst hA'
  refine hc.2 g hg' ?_
  rcases h2 g (by rw [hA]; rfl) hp with h3 | ⟨cs, h3⟩
  ·exact .inl h3
  ·refine .inr fun cs' h4 => hne ?_
   have := h3.symm.trans h4
   injection this with this
   injection this
 refine ⟨⟨A, c, rfl, hlc, fun hp => ?_⟩, fun g hg hl => ?_⟩
 ·obtain ⟨g, o, hA, hg, he⟩ := hr hp
  refine ⟨g, o, hA, Nat.lt_of_lt_of_le hg hc.1.1, fun j x hj => ?_⟩
  obtain ⟨vs, h3, h4, h5⟩ := he j x hj
  refine ⟨vs, h3, fun i u hi => ?_, h5⟩
  have h6 := h4 i u hi
  have h7 := same hp g o hA
  simp only [World.cell?] at h6 ⊢
  rw [h7]
  exact h6
 ·rcases h2 g hg hl with h3 | ⟨cs, h3⟩
  ·exact .inl h3
  ·refine .inr ⟨cs, h3.chg hc hne⟩
abbrev OI (base : Nat) (w : World) (v : Value) (l : List Int) : Prop := OL 1 3 EI base w v l
theorem OI.io {base b0 : Nat} {w : World} {v : Value} {l : List Int} (h : OI base w v l) : IO b0 w v l := by
 refine ⟨OL.sl h, fun g hg hl => .inr ?_⟩
 obtain ⟨xs, h1, _⟩ := h
 rcases h1.2 with ⟨rfl, _⟩ | ⟨g', cap, cur, rfl, _, hb, _⟩
 ·simp [Value.ownBlock] at hg
 ·simp only [Value.ownBlock] at hg
  injection hg with hg
  subst hg
  exact ⟨cur, hb⟩
theorem info3 : (Tryz.prog.info? 3).map (fun i => (i.zero, i.size, i.bytes)) = some (some (.int .i64 0), 1, 8) := by kernel_rfl
theorem wpl_appendI {ops : Array Oper} {rest : List Oper} {o : Oper} {a : Act} {Q : Exit → Act → World → Prop} {W : World} (hgd : o.guard = none) (s x : Operand) (ho : o.op = .call { callee := .builtin .append, args := #[s, x], argTypes := #[27, 27] }) {base : Nat}
  (v : Value) (l : List Int) (hs : a.eval s = v) (hown : OI base W v l) {g : Nat} (n : Int) (hx : a.eval x = .slice (some ⟨g, 0, none⟩) 1 1) (hk : Blk W g 3 #[.int .i64 n])
  (hl : l.length ≤ 1000000000) (hbase : base ≤ W.heap.size)
  (h : ∀ v' w', OI base w' v' (l ++ [n]) → Chg base 3 W w' → (W.os = w'.os ∧ W.tape = w'.tape ∧ W.output = w'.output) → wpList Tryz.prog ops Q rest (a.put o.dst v') w') : wpList Tryz.prog ops Q (o :: rest) a W := by
 obtain ⟨xs, h1, h2⟩ := hown
 refine wpl_appendR hgd s x 27 ho (base := base) (.int .i64 0) 8 Tryz.underlying27 info3 rfl (by intro u hu; simp [Value.cells] at hu; subst hu; rfl) v l.length xs hs h1 ⟨g, 0, none⟩ 1 1 [.int .i64 n] hx rfl (lit_cells hk) (by intro u hu; simp at hu; subst hu; rfl) (by intro u hu; simp at hu; subst hu; rfl) (by decide) (by omega) (by omega) hbase fun v' w' h3 h4 h5 h6 => h v' w' ?_ (h1.changes h4 h5) ⟨h4.os.symm, h4.tape.symm, h4.output.symm⟩
 exact OL.pushT (fun _ _ _ _ h _ => h) (k := 1) (e := 3) (vs := #[.int .i64 n]) h1 h2 rfl rfl (h1.changes h4 h5) h3
def LimOK (w : World) (v : Value) : Option Rat → Prop
 | none => v = .pointer none
 | some q => Small q ∧ ∃ gl A1 n1 c1 A2 n2 c2, v = .pointer (some ⟨gl, 0, none⟩) ∧ Blk w gl 46 #[.bool (negQ q), .slice A1 n1 c1, .slice A2 n2 c2] ∧ FQ w (.agg #[.bool (negQ q), .slice A1 n1 c1, .slice A2 n2 c2]) q
theorem LimOK.below {w w1 : World} {v : Value} {lim : Option Rat} (h : LimOK w v lim) (hb : Below w.heap.size w w1) : LimOK w1 v lim := by
 cases lim with
 | none => exact h
 | some q =>
  obtain ⟨hs, gl, A1, n1, c1, A2, n2, c2, e, h1, h2⟩ := h
  exact ⟨hs, gl, A1, n1, c1, A2, n2, c2, e, h1.below hb h1.lt, h2.of_below hb⟩
theorem LimOK.chg {base t : Nat} {w w1 : World} {v : Value} {lim : Option Rat} (h : LimOK w v lim) (hc : Chg base t w w1) (hne : 46 ≠ t) : LimOK w1 v lim := by
 cases lim with
 | none => exact h
 | some q =>
  obtain ⟨hs, gl, A1, n1, c1, A2, n2, c2, e, h1, h2⟩ := h
  exact ⟨hs, gl, A1, n1, c1, A2, n2, c2, e, h1.chg hc hne, h2.keeps hc.1⟩
def Rep (Wr : World) (AC : Option Addr) (nc cc : Nat) (LIM : Value) (lim : Option Rat) (left : Nat) (w : World) : Prop :=
 HS Wr [] w ∧ Blk w Wr.heap.size 78 #[.slice AC nc cc, .int .i64 (left : Int), LIM] ∧ LimOK w LIM lim
theorem Rep.below {Wr w w1 : World} {AC : Option Addr} {nc cc left : Nat} {LIM : Value} {lim : Option Rat} (h : Rep Wr AC nc cc LIM lim left w) (hb : Below w.heap.size w w1) : Rep Wr AC nc cc LIM lim left w1 :=
 ⟨h.1.step hb, h.2.1.below hb h.2.1.lt, h.2.2.below hb⟩
theorem lim_word {w : World} {v : Value} {lim : Option Rat} (h : LimOK w v lim) : notWord v = true := by
 cases lim with
 | none => rw [show v = .pointer none from h]; rfl
 | some q => obtain ⟨_, gl, _, _, _, _, _, _, e, _⟩ := h; rw [e]; rfl
theorem Rep.put {Wr w : World} {AC : Option Addr} {nc cc left : Nat} {LIM : Value} {lim : Option Rat} (h : Rep Wr AC nc cc LIM lim left w) (l : Nat) : Rep Wr AC nc cc LIM lim l (w.setCell ⟨Wr.heap.size, 1, none⟩ (.int .i64 (l : Int))) ∧ Chg Wr.heap.size 78 w (w.setCell ⟨Wr.heap.size, 1, none⟩ (.int .i64 (l : Int))) := by
 have hw : ∀ u ∈ #[Value.slice AC nc cc, .int .i64 (left : Int), LIM], notWord u = true := by
  intro u hu
  simp only [List.mem_toArray, List.mem_cons, List.not_mem_nil, or_false] at hu
  rcases hu with rfl | rfl | rfl
  ·rfl
  ·rfl
  ·exact lim_word h.2.2
 have hc := chg_put1 (base := Wr.heap.size) (j := 1) h.2.1 (Nat.le_refl _) hw (.int .i64 (l : Int))
 exact ⟨⟨h.1.other1 (g := Wr.heap.size) (Nat.le_refl _) (by simp) 1 _, h.2.1.put 1 _, h.2.2.chg hc (by decide)⟩, hc⟩
noncomputable def leafB (p : ProgQ) (c : CertF) : Option Rat → Bool
 | none => judgeB (rawP p) c && decide (c.kind = 2)
 | some q => judgeB (rawP p) c && (decide (c.kind = 2) || (decide (c.kind = 1) && decide (ordQ (valueP (rawP p) c.x) q ≤ 0)))
def restL (l : List Int) (x : Int) : List Int := l.filter fun y => decide (y ≠ x)
noncomputable def provesM (cs : List CaseF) (lim : Option Rat) : Nat → ProgQ → Int → List Int → Nat → Bool × Nat
 | 0, _, _, _, left => (false, left)
 | n + 1, p, at_, op, left =>
  if at_ < 0 ∨ (cs.length : Int) ≤ at_ ∨ left = 0 ∨ rightP (rawP p) ≠ 0 then (false, left)
  else match cs[at_.toNat]? with
   | none => (false, left)
   | some c =>
    if c.var = -1 then (leafB p c.cert lim, left - 1)
    else if (restL op c.var).length = op.length ∨ c.zero ≤ at_ ∨ c.one ≤ at_ then (false, left - 1)
    else if (provesM cs lim n (branchQ p c.var 0) c.zero (restL op c.var) (left - 1)).1 = true then
     provesM cs lim n (branchQ p c.var 1) c.one (restL op c.var) (provesM cs lim n (branchQ p c.var 0) c.zero (restL op c.var) (left - 1)).2
    else (false, (provesM cs lim n (branchQ p c.var 0) c.zero (restL op c.var) (left - 1)).2)
def PvPost (Wr : World) (AC : Option Addr) (nc cc : Nat) (LIM : Value) (lim : Option Rat) (w : World) (r : Bool × Nat) (e : Ending) (w' : World) : Prop :=
 e = .returned (.bool r.1) ∧ Rep Wr AC nc cc LIM lim r.2 w' ∧ Chg Wr.heap.size 78 w w' ∧ (w.os = w'.os ∧ w.tape = w'.tape ∧ w.output = w'.output)
theorem below_same {B : Nat} {w w1 : World} (h : Below B w w1) : w.os = w1.os ∧ w.tape = w1.tape ∧ w.output = w1.output := ⟨h.os.symm, h.tape.symm, h.output.symm⟩
set_option maxHeartbeats 32000000 in
set_option maxRecDepth 100000 in
theorem proves_out {Wr : World} {AC : Option Addr} {cc : Nat} {cs : List CaseF} {LIM : Value} {lim : Option Rat} (w : World) (v vo : Value) (p : ProgQ) (at_ : Int) (op : List Int) (left : Nat) (hR : Rep Wr AC cs.length cc LIM lim left w) (h : PO Wr.heap.size w v p) (hS : SmallP p) (ho : IO Wr.heap.size w vo op) (hout : at_ < 0 ∨ (cs.length : Int) ≤ at_ ∨ left = 0 ∨ rightP (rawP p) ≠ 0) : Calls Tryz.prog 40 #[.pointer (some ⟨Wr.heap.size, 0, none⟩), v, .int .i64 at_, vo] w fun e w' => PvPost Wr AC cs.length cc LIM lim w (false, left) e w' := by
 obtain ⟨A1, c1, A2, c2, A3, c3, rfl, HI, H1, H2, H3⟩ := h.opened
 have HPO := Hd h
 clear h
 obtain ⟨vars, hv⟩ : ∃ n, n = p.vars := ⟨_, rfl⟩
 rw [← hv] at HPO ⊢
 have HV := Hd hv
 clear hv H1 H2 H3 HI
 obtain ⟨X1, xc, rfl, _⟩ := ho.1.slice
 have HIO := Hd ho
 have HRP := Hd hR
 clear ho hR
 go_enter Tryz.func40, Tryz.ntmps40
 go_upto_region 1 with (fail)
 have hbn := below_new w (.cells #[.int .i64 vars, .slice A1 p.free.length c1, .slice A2 p.goal.length c2, .slice A3 p.rows.length c3] 26)
 have HBX := Hd (Blk.new w 26 #[.int .i64 vars, .slice A1 p.free.length c1, .slice A2 p.goal.length c2, .slice A3 p.rows.length c3])
 have HPO1 := Hd (PO.below HPO.out hbn)
 have HIO1 := Hd (HIO.out.below hbn)
 have HRP1 := Hd (HRP.out.below hbn)
 have HC0 := Hd (Chg.of_below (base := Wr.heap.size) (t := 78) hbn)
 have HW0 := Hd (below_same hbn)
 obtain ⟨gp, hgp⟩ : ∃ g, g = w.heap.size := ⟨_, rfl⟩
 rw [← hgp] at HBX ⊢
 have HGP : Hid (w.heap.size ≤ gp) := by unfold Hid; omega
 generalize w.alloc (.cells #[.int .i64 vars, .slice A1 p.free.length c1, .slice A2 p.goal.length c2, .slice A3 p.rows.length c3] 26) = W0 at *
 clear hgp hbn HPO HIO
 obtain ⟨r0, r1, r2⟩ := HRP1.out.2.1.c3
 have hltr := HRP1.out.2.1.lt
 obtain ⟨x0, x1, x2, x3⟩ := HBX.out.c4
 have hltp := HBX.out.lt
 by_cases q1 : at_ < 0
 ·have u1 : decide (at_ < 0) = true := decide_eq_true q1
  clear hout
  go_wp2_with fail
  go_ret
  exact ⟨rfl, HRP1.out, HC0.out, HW0.out⟩
 have u1 : decide (at_ < 0) = false := decide_eq_false q1
 have p1 : 0 ≤ at_ := by omega
 by_cases q2 : (cs.length : Int) ≤ at_
 ·have u2 : decide ((cs.length : Int) ≤ at_) = true := decide_eq_true q2
  clear hout
  go_wp2_with fail
  go_ret
  exact ⟨rfl, HRP1.out, HC0.out, HW0.out⟩
 have u2 : decide ((cs.length : Int) ≤ at_) = false := decide_eq_false q2
 have p2 : at_ < (cs.length : Int) := by omega
 by_cases q3 : left = 0
 ·have u3 : ((left : Int) == 0) = true := beqI' (by omega)
  clear q1 q2 q3 hout
  go_wp2_with fail
  go_ret
  exact ⟨rfl, HRP1.out, HC0.out, HW0.out⟩
 have u3 : ((left : Int) == 0) = false := bneI' (by omega)
 have q4 : rightP (rawP p) ≠ 0 := by
  rcases hout with h | h | h | h
  ·exact absurd h q1
  ·exact absurd h q2
  ·exact absurd h q3
  ·exact h
 have u4 : (rightP (rawP p) != 0) = true := bneI q4
 clear q1 q2 q3 q4 hout
 go_wp2_with fail
 refine (pright_calls _ _ (rawP p) (PO.pr HPO1.out hS)).mono ?_
 rintro e w1 ⟨rfl, hb⟩
 have HRP2 := Hd (HRP1.out.below hb)
 have HC1 := Hd (HC0.out.trans (Chg.of_below hb))
 have HW1 : Hid (w.os = w1.os ∧ w.tape = w1.tape ∧ w.output = w1.output) := ⟨HW0.out.1.trans (below_same hb).1, HW0.out.2.1.trans (below_same hb).2.1, HW0.out.2.2.trans (below_same hb).2.2⟩
 clear hb
 go_wp2_with fail
 go_ret
 exact ⟨rfl, HRP2.out, HC1.out, HW1.out⟩
theorem bcell2 {Wr w : World} (hb : Below Wr.heap.size Wr w) (b o : Nat) (h : b < Wr.heap.size) : w.cell? ⟨b, o, none⟩ = Wr.cell? ⟨b, o, none⟩ := hb.cell (p := ⟨b, o, none⟩) h
theorem provesM_le (cs : List CaseF) (lim : Option Rat) : ∀ (n : Nat) (p : ProgQ) (at_ : Int) (op : List Int) (left : Nat), (provesM cs lim n p at_ op left).2 ≤ left
 | 0, p, at_, op, left => Nat.le_refl _
 | n + 1, p, at_, op, left => by
  unfold provesM
  split
  ·exact Nat.le_refl _
  ·split
   ·exact Nat.le_refl _
   ·rename_i c _
    split
    ·exact Nat.sub_le _ _
    ·split
     ·exact Nat.sub_le _ _
     ·have h1 := provesM_le cs lim n (branchQ p c.var 0) c.zero (restL op c.var) (left - 1)
      split
      ·exact Nat.le_trans (provesM_le cs lim n _ _ _ _) (Nat.le_trans h1 (Nat.sub_le _ _))
      ·exact Nat.le_trans h1 (Nat.sub_le _ _)
theorem provesM_step {cs : List CaseF} {lim : Option Rat} {n k l : Nat} {p : ProgQ} {op : List Int} {c : CaseF} (hc : cs[k]? = some c) (hr : rightP (rawP p) = 0) : provesM cs lim (n + 1) p (k : Int) op (l + 1) =
  if c.var = -1 then (leafB p c.cert lim, l)
  else if (restL op c.var).length = op.length ∨ c.zero ≤ (k : Int) ∨ c.one ≤ (k : Int) then (false, l)
  else if (provesM cs lim n (branchQ p c.var 0) c.zero (restL op c.var) l).1 = true then
   provesM cs lim n (branchQ p c.var 1) c.one (restL op c.var) (provesM cs lim n (branchQ p c.var 0) c.zero (restL op c.var) l).2
  else (false, (provesM cs lim n (branchQ p c.var 0) c.zero (restL op c.var) l).2) := by
 have hl := (List.getElem?_eq_some_iff.1 hc).1
 have h0 : ¬ ((k : Int) < 0 ∨ (cs.length : Int) ≤ (k : Int) ∨ l + 1 = 0 ∨ rightP (rawP p) ≠ 0) := by
  rintro (h | h | h | h)
  ·omega
  ·omega
  ·omega
  ·exact h hr
 rw [provesM, if_neg h0, Int.toNat_natCast, hc]
 rfl
theorem value_small (p : ProgF) (x : List RawF) : sizeQ (valueP p x) ≤ 4096 := by
 unfold valueP
 split
 ·rw [sizeQ_zero]; decide
 ·exact capQ_size _
theorem CR.fl {w : World} {k : Value} {v1 v2 v3 : Value} {c : CertF} (h : CR w (.agg #[k, v1, v2, v3]) c) : FL w v1 c.x := by
 obtain ⟨u1, u2, u3, e, _, h1, _, _⟩ := h
 injection e with e
 injection e with e
 injection e with _ e
 injection e with e1 _
 rw [e1]
 exact h1
theorem restL_mem {l : List Int} {x : Int} (h : (restL l x).length ≠ l.length) : x ∈ l := by
 refine Classical.byContradiction fun hn => h ?_
 unfold restL
 rw [List.filter_eq_self.2]
 intro y hy
 refine decide_eq_true fun e => hn ?_
 rw [← e]
 exact hy
theorem restL_le (l : List Int) (x : Int) : (restL l x).length ≤ l.length := List.length_filter_le _ _
theorem restL_sub {l : List Int} {x y : Int} (h : y ∈ restL l x) : y ∈ l := (List.mem_filter.1 h).1
theorem restL_take {l : List Int} {i : Nat} {x y : Int} (h : l[i]? = some y) : restL (l.take (i + 1)) x = restL (l.take i) x ++ if y = x then [] else [y] := by
 unfold restL
 rw [List.take_add_one, h, List.filter_append]
 congr 1
 by_cases e : y = x
 ·simp [e]
 ·simp [e]
theorem small_branch {p : ProgQ} (h : SmallP p) (x b : Int) (hb : b = 0 ∨ b = 1) : SmallP (branchQ p x b) := by
 refine ⟨h.1, fun r hr => ?_⟩
 rcases List.mem_append.1 hr with hr | hr
 ·exact h.2 r hr
 ·rw [List.mem_singleton.1 hr]
  exact small_unit _ _ _ _ hb
set_option maxHeartbeats 64000000 in
set_option maxRecDepth 100000 in
theorem proves_calls {Wr : World} {AC : Option Addr} {cc : Nat} {cs : List CaseF} {LIM : Value} {lim : Option Rat} (HC : CL Wr (.slice AC cs.length cc) cs) (hlc : ∀ c ∈ cs, c.cert.x.length ≤ 100000 ∧ c.cert.y.length ≤ 100000 ∧ c.cert.ray.length ≤ 100000) (hcl : cs.length ≤ 1000000) :
  ∀ (n : Nat) (w : World) (v vo : Value) (p : ProgQ) (at_ : Int) (op : List Int) (left : Nat) (hR : Rep Wr AC cs.length cc LIM lim left w) (h : PO Wr.heap.size w v p) (hS : SmallP p) (ho : IO Wr.heap.size w vo op) (hn : (cs.length : Int) - at_ < n) (hop : ∀ x ∈ op, 0 ≤ x ∧ x < p.vars) (hrw : p.rows.length + op.length ≤ 100000) (hll : left ≤ 1000000), Calls Tryz.prog 40 #[.pointer (some ⟨Wr.heap.size, 0, none⟩), v, .int .i64 at_, vo] w fun e w' => PvPost Wr AC cs.length cc LIM lim w (provesM cs lim n p at_ op left) e w' := by
 intro n
 induction n with
 | zero =>
  intro w v vo p at_ op left hR h hS ho hn hop hrw hll
  exact proves_out w v vo p at_ op left hR h hS ho (.inr (.inl (by omega)))
 | succ n ih =>
  intro w v vo p at_ op left hR h hS ho hn hop hrw hll
  have IH := Hd ih
  clear ih
  by_cases hout : at_ < 0 ∨ (cs.length : Int) ≤ at_ ∨ left = 0 ∨ rightP (rawP p) ≠ 0
  ·rw [show provesM cs lim (n + 1) p at_ op left = (false, left) from by rw [provesM, if_pos hout]]
   exact proves_out w v vo p at_ op left hR h hS ho hout
  have hR0 : rightP (rawP p) = 0 := Classical.byContradiction fun e => hout (.inr (.inr (.inr e)))
  obtain ⟨k, rfl⟩ : ∃ k : Nat, at_ = k := ⟨at_.toNat, by omega⟩
  have hkl : k < cs.length := by omega
  obtain ⟨l, rfl⟩ : ∃ l, left = l + 1 := ⟨left - 1, by omega⟩
  obtain ⟨c, hc⟩ : ∃ c, cs[k]? = some c := ⟨cs[k], List.getElem?_eq_getElem hkl⟩
  have HM := Hd (provesM_step (lim := lim) (n := n) (op := op) (l := l) hc hR0)
  have hlen := hlc c (List.mem_of_getElem? hc)
  have hpv := rightP_len hR0
  have HPV : Hid (1 ≤ p.vars ∧ p.vars ≤ 160) := ⟨hpv.2.2.1, hpv.2.2.2.1⟩
  have HSP := Hd hS
  have HOP := Hd hop
  have HCS := Hd HC
  have HLC := Hd hlc
  obtain ⟨gC, oC, B1, d1, B2, d2, B3, d3, rfl, hgC, kcs, HCI, HCR⟩ := HC.at7 hc
  have HKC := Hd kcs
  obtain ⟨gr, hgr⟩ : ∃ g, g = Wr.heap.size := ⟨_, rfl⟩
  have hgne : gC ≠ Wr.heap.size := by omega
  clear hout hc hpv hop kcs hgr gr hlc HC
  obtain ⟨A1, c1, A2, c2, A3, c3, rfl, HI, H1, H2, H3⟩ := h.opened
  have HPO := Hd h
  clear h
  obtain ⟨vars, hv⟩ : ∃ n, n = p.vars := ⟨_, rfl⟩
  rw [← hv] at HPO ⊢
  have HV := Hd hv
  clear hv H1 H2 H3 HI
  obtain ⟨X1, xc, rfl, _⟩ := ho.1.slice
  have HIO := Hd ho
  have HRP := Hd hR
  clear ho hR
  go_enter Tryz.func40, Tryz.ntmps40
  go_upto_region 1 with (fail)
  have hbn := below_new w (.cells #[.int .i64 vars, .slice A1 p.free.length c1, .slice A2 p.goal.length c2, .slice A3 p.rows.length c3] 26)
  have HBX := Hd (Blk.new w 26 #[.int .i64 vars, .slice A1 p.free.length c1, .slice A2 p.goal.length c2, .slice A3 p.rows.length c3])
  have HPO1 := Hd (PO.below HPO.out hbn)
  have HIO1 := Hd (HIO.out.below hbn)
  have HRP1 := Hd (HRP.out.below hbn)
  have HC0 := Hd (Chg.of_below (base := Wr.heap.size) (t := 78) hbn)
  have HW0 := Hd (below_same hbn)
  obtain ⟨gp, hgp⟩ : ∃ g, g = w.heap.size := ⟨_, rfl⟩
  rw [← hgp] at HBX ⊢
  have HGP : Hid (w.heap.size ≤ gp) := by unfold Hid; omega
  generalize w.alloc (.cells #[.int .i64 vars, .slice A1 p.free.length c1, .slice A2 p.goal.length c2, .slice A3 p.rows.length c3] 26) = W0 at *
  clear hgp hbn HPO HIO
  obtain ⟨r0, r1, r2⟩ := HRP1.out.2.1.c3
  have hltr := HRP1.out.2.1.lt
  obtain ⟨x0, x1, x2, x3⟩ := HBX.out.c4
  have hltp := HBX.out.lt
  have u4 : (rightP (rawP p) != 0) = false := beqI hR0
  have u1 : decide ((k : Int) < 0) = false := decide_eq_false (by omega)
  have u2 : decide (cs.length ≤ k) = false := decide_eq_false (by omega)
  have u2' : ¬ ((cs.length : Int) ≤ (k : Int)) := by omega
  have u3 : (((l + 1 : Nat) : Int) == 0) = false := bneI' (by omega)
  have u3' : ((l : Int) + 1 == 0) = false := bneI' (by omega)
  have p1 : (0 : Int) ≤ (k : Int) := by omega
  have p2 : (k : Int) < (cs.length : Int) := by omega
  have p3 : (k : Int).toNat = k := by omega
  clear hR0
  go_wp2_with fail
  refine (pright_calls _ _ (rawP p) (PO.pr HPO1.out HSP.out)).mono ?_
  rintro e w1 ⟨rfl, hb⟩
  have HRP2 := Hd (HRP1.out.below hb)
  have HPO2 := Hd (PO.below HPO1.out hb)
  have HIO2 := Hd (HIO1.out.below hb)
  have HBX2 := Hd (HBX.out.below hb HBX.out.lt)
  have HC1 := Hd (HC0.out.trans (Chg.of_below hb))
  have HW1 : Hid (w.os = w1.os ∧ w.tape = w1.tape ∧ w.output = w1.output) := ⟨HW0.out.1.trans (below_same hb).1, HW0.out.2.1.trans (below_same hb).2.1, HW0.out.2.2.trans (below_same hb).2.2⟩
  clear hb x0 x1 x2 x3 hltp r0 r1 r2 hltr HRP HRP1 HPO1 HIO1 HBX HC0 HW0
  obtain ⟨r0, r1, r2⟩ := HRP2.out.2.1.c3
  obtain ⟨f0, f1, f2⟩ := HRP2.out.2.1.f3
  have hltr := HRP2.out.2.1.lt
  have hgC1 : gC < w1.heap.size := Nat.lt_trans hgC hltr
  obtain ⟨e0, e1, e2, e3, e4, e5, e6⟩ : _ ∧ _ ∧ _ ∧ _ ∧ _ ∧ _ ∧ _ := HKC.out
  have s0 := ((bcell2 HRP2.out.1.2 gC _ hgC).trans e0)
  have s1 := ((bcell2 HRP2.out.1.2 gC _ hgC).trans e1)
  have s2 := ((bcell2 HRP2.out.1.2 gC _ hgC).trans e2)
  have s3 := ((bcell2 HRP2.out.1.2 gC _ hgC).trans e3)
  have s4 := ((bcell2 HRP2.out.1.2 gC _ hgC).trans e4)
  have s5 := ((bcell2 HRP2.out.1.2 gC _ hgC).trans e5)
  have s6 := ((bcell2 HRP2.out.1.2 gC _ hgC).trans e6)
  clear e0 e1 e2 e3 e4 e5 e6
  have HSM : Hid (w1.heap.size ≤ w1.heap.size) := Nat.le_refl _
  by_cases hv : c.var = -1
  case pos =>
   have u5 : (c.var == -1) = true := beqI' hv
   have HV1 := Hd hv
   clear hv
   go_wp2_with fail
   have hpt := HRP2.out.put l
   have hbn := below_new (w1.setCell ⟨Wr.heap.size, 1, none⟩ (.int .i64 (l : Int))) (.cells #[.int .i64 c.var, .int .i64 c.zero, .int .i64 c.one, .int .i64 c.cert.kind, .slice B1 c.cert.x.length d1, .slice B2 c.cert.y.length d2, .slice B3 c.cert.ray.length d3] 69)
   have hc2 := hpt.2
   have HRP5 := Hd (hpt.1.below hbn)
   have HPO5 := Hd (PO.below (PO.chg HPO2.out hc2 (by decide) (by decide) (by decide)) hbn)
   have HIO5 := Hd ((HIO2.out.chg hc2 (by decide)).below hbn)
   have HBX5 := Hd ((HBX2.out.chg hc2 (by decide)).below hbn (HBX2.out.chg hc2 (by decide)).lt)
   have H95 := Hd (Blk.new (w1.setCell ⟨Wr.heap.size, 1, none⟩ (.int .i64 (l : Int))) 69 #[.int .i64 c.var, .int .i64 c.zero, .int .i64 c.one, .int .i64 c.cert.kind, .slice B1 c.cert.x.length d1, .slice B2 c.cert.y.length d2, .slice B3 c.cert.ray.length d3])
   have HC5 := Hd ((HC1.out.trans hc2).trans (Chg.of_below hbn))
   have HW5 : Hid (w.os = ((w1.setCell ⟨Wr.heap.size, 1, none⟩ (.int .i64 (l : Int))).alloc (.cells #[.int .i64 c.var, .int .i64 c.zero, .int .i64 c.one, .int .i64 c.cert.kind, .slice B1 c.cert.x.length d1, .slice B2 c.cert.y.length d2, .slice B3 c.cert.ray.length d3] 69)).os ∧ w.tape = ((w1.setCell ⟨Wr.heap.size, 1, none⟩ (.int .i64 (l : Int))).alloc (.cells #[.int .i64 c.var, .int .i64 c.zero, .int .i64 c.one, .int .i64 c.cert.kind, .slice B1 c.cert.x.length d1, .slice B2 c.cert.y.length d2, .slice B3 c.cert.ray.length d3] 69)).tape ∧ w.output = ((w1.setCell ⟨Wr.heap.size, 1, none⟩ (.int .i64 (l : Int))).alloc (.cells #[.int .i64 c.var, .int .i64 c.zero, .int .i64 c.one, .int .i64 c.cert.kind, .slice B1 c.cert.x.length d1, .slice B2 c.cert.y.length d2, .slice B3 c.cert.ray.length d3] 69)).output) := HW1.out
   have HCR5 := Hd (HCR.out.of_below HRP5.out.1.2)
   clear hpt hbn hc2 r0 r1 r2 f0 f1 f2 hltr s0 s1 s2 s3 s4 s5 s6 hgC1 hgne HRP2 HPO2 HIO2 HBX2 HC1 HW1
   obtain ⟨g9, hg9⟩ : ∃ g, g = (w1.setCell ⟨Wr.heap.size, 1, none⟩ (.int .i64 (l : Int))).heap.size := ⟨_, rfl⟩
   have hg9' : g9 = w1.heap.size := by rw [hg9]; simp
   rw [← hg9] at H95
   rw [← hg9']
   generalize (w1.setCell ⟨Wr.heap.size, 1, none⟩ (.int .i64 (l : Int))).alloc (.cells #[.int .i64 c.var, .int .i64 c.zero, .int .i64 c.one, .int .i64 c.cert.kind, .slice B1 c.cert.x.length d1, .slice B2 c.cert.y.length d2, .slice B3 c.cert.ray.length d3] 69) = W5 at *
   clear hg9 hg9'
   obtain ⟨x0, x1, x2, x3⟩ := HBX5.out.c4
   have hltp := HBX5.out.lt
   obtain ⟨y0, y1, y2, y3, y4, y5, y6⟩ := H95.out.c7
   have hlt9 := H95.out.lt
   refine wp_chainS (S := Below W5.heap.size W5) [([0, 1, 2], 3), ([4, 5, 6, 7, 8, 9, 10, 11, 12, 13, 14, 15, 16, 17, 18, 19, 20, 21, 22, 23, 24, 25, 27, 28, 29, 30, 31, 32], 26), ([], 33)] [34, 35, 36, 37, 38] (by kernel_rfl) (by kernel_rfl) (by kernel_rfl) rfl (Below.drew (Below.refl _ _)) ?_
   refine ⟨?_, _, ?_, rfl, ?_⟩
   rotate_left
   ·(iterate 3 ((refine ⟨_, ?_, rfl, Or.inl ⟨by rfl, ?_⟩, ?_⟩; rotate_left; focus (intro W hW; replace hW := (bcell hW).1; go_simp; try with_reducible rfl)); (try simp only [SQ])))
    exact rfl
   have D0 : Hid (Below W5.heap.size W5 W5.drew) := Below.drew (Below.refl _ _)
   go_wp2_with fail
   refine (judge_calls _ _ _ (rawP p) c.cert (PO.pr (PO.below HPO5.out D0.out) HSP.out) (HCR5.out.of_below D0.out) hlen.1 hlen.2.1 hlen.2.2).mono ?_
   rintro e w2 ⟨rfl, hb⟩
   have D2 := Hd (below_next D0.out hb)
   clear hb
   cases hj : judgeB (rawP p) c.cert
   case false =>
    have HE : Hid (provesM cs lim (n + 1) p (k : Int) op (l + 1) = (false, l)) := by unfold Hid; rw [HM.out, if_pos HV1.out]; unfold leafB; rw [hj]; cases lim <;> rfl
    clear hj
    go_wp2_with fail
    refine And.intro D2.out ⟨?_, _, ?_, rfl, ?_⟩
    rotate_left
    ·((refine ⟨_, ?_, rfl, Or.inl ⟨by rfl, ?_⟩, ?_⟩; rotate_left; focus (intro W hW; replace hW := (bcell hW).1; go_simp; try with_reducible rfl)); (try simp only [SQ])); (iterate 27 ((refine ⟨_, undef, rfl, Or.inr ⟨by kernel_rfl, rfl⟩, ?_⟩); (try simp only [SQ])))
     exact rfl
    refine chain_skip (by kernel_rfl) (And.intro D2.out ?_)
    (try simp only [SQ])
    refine ⟨_, _, rfl, rfl, ?_⟩
    refine chain_skip (by kernel_rfl) (And.intro D2.out ?_)
    (try simp only [SQ])
    refine ⟨?_, ?_, ?_⟩
    rotate_left
    ·(iterate 3 ((refine ⟨_, undef, rfl, Or.inr ⟨by kernel_rfl, rfl⟩, ?_⟩); (try simp only [SQ]))); (iterate 2 ((refine ⟨_, ?_, rfl, Or.inl ⟨by rfl, ?_⟩, ?_⟩; rotate_left; focus (intro W hW; replace hW := (bcell hW).1; go_simp; try with_reducible rfl)); (try simp only [SQ])))
     exact rfl
    refine NoPanic.normal ?_
    go_wp2_with fail
    go_ret
    exact ⟨by rw [HE.out]; rfl, by rw [HE.out]; exact HRP5.out.below D2.out, HC5.out.trans (Chg.of_below D2.out), HW5.out.1.trans (below_same D2.out).1, HW5.out.2.1.trans (below_same D2.out).2.1, HW5.out.2.2.trans (below_same D2.out).2.2⟩
   have HJ := Hd hj
   clear hj
   by_cases k2 : c.cert.kind = 2
   ·have v2 : (c.cert.kind == 2) = true := beqI' k2
    have HE : Hid (provesM cs lim (n + 1) p (k : Int) op (l + 1) = (true, l)) := by unfold Hid; rw [HM.out, if_pos HV1.out]; unfold leafB; rw [HJ.out, k2]; cases lim <;> rfl
    clear k2
    go_wp2_with fail
    refine And.intro D2.out ⟨?_, _, ?_, rfl, ?_⟩
    rotate_left
    ·(iterate 6 ((refine ⟨_, ?_, rfl, Or.inl ⟨by rfl, ?_⟩, ?_⟩; rotate_left; focus (intro W hW; replace hW := (bcell hW).1; go_simp; try with_reducible rfl)); (try simp only [SQ]))); (iterate 22 ((refine ⟨_, undef, rfl, Or.inr ⟨by kernel_rfl, rfl⟩, ?_⟩); (try simp only [SQ])))
     exact rfl
    refine chain_skip (by kernel_rfl) (And.intro D2.out ?_)
    (try simp only [SQ])
    refine ⟨_, _, rfl, rfl, ?_⟩
    refine chain_skip (by kernel_rfl) (And.intro D2.out ?_)
    (try simp only [SQ])
    refine ⟨?_, ?_, ?_⟩
    rotate_left
    ·(iterate 2 ((refine ⟨_, undef, rfl, Or.inr ⟨by kernel_rfl, rfl⟩, ?_⟩); (try simp only [SQ]))); (iterate 3 ((refine ⟨_, ?_, rfl, Or.inl ⟨by rfl, ?_⟩, ?_⟩; rotate_left; focus (intro W hW; replace hW := (bcell hW).1; go_simp; try with_reducible rfl)); (try simp only [SQ])))
     exact rfl
    refine NoPanic.normal ?_
    go_wp2_with fail
    go_ret
    exact ⟨by rw [HE.out]; rfl, by rw [HE.out]; exact HRP5.out.below D2.out, HC5.out.trans (Chg.of_below D2.out), HW5.out.1.trans (below_same D2.out).1, HW5.out.2.1.trans (below_same D2.out).2.1, HW5.out.2.2.trans (below_same D2.out).2.2⟩
   have v2 : (c.cert.kind == 2) = false := bneI' k2
   by_cases k1 : c.cert.kind = 1
   case neg =>
    have v1 : (c.cert.kind == 1) = false := bneI' k1
    have HE : Hid (provesM cs lim (n + 1) p (k : Int) op (l + 1) = (false, l)) := by unfold Hid; rw [HM.out, if_pos HV1.out]; unfold leafB; rw [HJ.out, decide_eq_false k2, decide_eq_false k1]; cases lim <;> rfl
    clear k1 k2
    go_wp2_with fail
    refine And.intro D2.out ⟨?_, _, ?_, rfl, ?_⟩
    rotate_left
    ·(iterate 11 ((refine ⟨_, ?_, rfl, Or.inl ⟨by rfl, ?_⟩, ?_⟩; rotate_left; focus (intro W hW; replace hW := (bcell hW).1; go_simp; try with_reducible rfl)); (try simp only [SQ]))); (iterate 5 ((refine ⟨_, undef, rfl, Or.inr ⟨by kernel_rfl, rfl⟩, ?_⟩); (try simp only [SQ]))); (iterate 2 ((refine ⟨_, ?_, rfl, Or.inl ⟨by rfl, ?_⟩, ?_⟩; rotate_left; focus (intro W hW; replace hW := (bcell hW).1; go_simp; try with_reducible rfl)); (try simp only [SQ]))); (iterate 10 ((refine ⟨_, undef, rfl, Or.inr ⟨by kernel_rfl, rfl⟩, ?_⟩); (try simp only [SQ])))
     exact rfl
    refine chain_skip (by kernel_rfl) (And.intro D2.out ?_)
    (try simp only [SQ])
    refine ⟨_, _, rfl, rfl, ?_⟩
    refine chain_skip (by kernel_rfl) (And.intro D2.out ?_)
    (try simp only [SQ])
    refine ⟨?_, ?_, ?_⟩
    rotate_left
    ·((refine ⟨_, undef, rfl, Or.inr ⟨by kernel_rfl, rfl⟩, ?_⟩); (try simp only [SQ])); (iterate 4 ((refine ⟨_, ?_, rfl, Or.inl ⟨by rfl, ?_⟩, ?_⟩; rotate_left; focus (intro W hW; replace hW := (bcell hW).1; go_simp; try with_reducible rfl)); (try simp only [SQ])))
     exact rfl
    refine NoPanic.normal ?_
    go_wp2_with fail
    go_ret
    exact ⟨by rw [HE.out]; rfl, by rw [HE.out]; exact HRP5.out.below D2.out, HC5.out.trans (Chg.of_below D2.out), HW5.out.1.trans (below_same D2.out).1, HW5.out.2.1.trans (below_same D2.out).2.1, HW5.out.2.2.trans (below_same D2.out).2.2⟩
   have v1 : (c.cert.kind == 1) = true := beqI' k1
   have HK1 := Hd k1
   have HK2 := Hd k2
   clear k1 k2
   have HLM := Hd HRP5.out.2.2
   obtain ⟨r0, r1, r2⟩ := HRP5.out.2.1.c3
   have hltr := HRP5.out.2.1.lt
   cases lim with
   | none =>
    obtain rfl : LIM = .pointer none := HLM.out
    have HE : Hid (provesM cs none (n + 1) p (k : Int) op (l + 1) = (false, l)) := by unfold Hid; rw [HM.out, if_pos HV1.out]; unfold leafB; rw [HJ.out, decide_eq_false HK2.out]; rfl
    go_wp2_with fail
    refine And.intro D2.out ⟨?_, _, ?_, rfl, ?_⟩
    rotate_left
    ·(iterate 18 ((refine ⟨_, ?_, rfl, Or.inl ⟨by rfl, ?_⟩, ?_⟩; rotate_left; focus (intro W hW; replace hW := (bcell hW).1; go_simp; try with_reducible rfl)); (try simp only [SQ]))); (iterate 10 ((refine ⟨_, undef, rfl, Or.inr ⟨by kernel_rfl, rfl⟩, ?_⟩); (try simp only [SQ])))
     exact rfl
    refine chain_skip (by kernel_rfl) (And.intro D2.out ?_)
    (try simp only [SQ])
    refine ⟨_, _, rfl, rfl, ?_⟩
    refine chain_skip (by kernel_rfl) (And.intro D2.out ?_)
    (try simp only [SQ])
    refine ⟨?_, ?_, ?_⟩
    rotate_left
    ·((refine ⟨_, undef, rfl, Or.inr ⟨by kernel_rfl, rfl⟩, ?_⟩); (try simp only [SQ])); (iterate 4 ((refine ⟨_, ?_, rfl, Or.inl ⟨by rfl, ?_⟩, ?_⟩; rotate_left; focus (intro W hW; replace hW := (bcell hW).1; go_simp; try with_reducible rfl)); (try simp only [SQ])))
     exact rfl
    refine NoPanic.normal ?_
    go_wp2_with fail
    go_ret
    exact ⟨by rw [HE.out]; rfl, by rw [HE.out]; exact HRP5.out.below D2.out, HC5.out.trans (Chg.of_below D2.out), HW5.out.1.trans (below_same D2.out).1, HW5.out.2.1.trans (below_same D2.out).2.1, HW5.out.2.2.trans (below_same D2.out).2.2⟩
   | some q =>
    obtain ⟨hsq, gl, G1, m1, f1, G2, m2, f2, rfl, hbl, hfq⟩ : LimOK W5 LIM (some q) := HLM.out
    have HSQ := Hd hsq
    have HBL := Hd hbl
    have HFQ := Hd hfq
    clear hsq hbl hfq
    obtain ⟨z0, z1, z2⟩ := HBL.out.c3
    have hltl := HBL.out.lt
    have HE : Hid (provesM cs (some q) (n + 1) p (k : Int) op (l + 1) = (decide (ordQ (valueP (rawP p) c.cert.x) q ≤ 0), l)) := by unfold Hid; rw [HM.out, if_pos HV1.out]; unfold leafB; rw [HJ.out, decide_eq_false HK2.out, HK1.out]; simp
    go_wp2_with fail
    refine And.intro D2.out ⟨?_, _, ?_, rfl, ?_⟩
    rotate_left
    ·(iterate 28 ((refine ⟨_, ?_, rfl, Or.inl ⟨by rfl, ?_⟩, ?_⟩; rotate_left; focus (intro W hW; replace hW := (bcell hW).1; go_simp; try with_reducible rfl)); (try simp only [SQ])))
     exact rfl
    go_wp2_with fail
    refine (value_calls _ _ _ (rawP p) c.cert.x (PO.pr (PO.below HPO5.out D2.out) HSP.out) (CR.fl (HCR5.out.of_below D2.out))).mono ?_
    rintro e w3 ⟨v, rfl, hv, hb⟩
    obtain ⟨E1, h1, i1, E2, h2, i2, rfl, HV3⟩ := hv.opened
    have D3 := Hd (below_next D2.out hb)
    clear hv hb
    go_wp2_with fail
    refine And.intro D3.out ⟨_, _, rfl, rfl, ?_⟩
    go_wp2_with fail
    refine (fcmp_calls _ _ _ (rawQ (valueP (rawP p) c.cert.x)) (rawQ q) (FR.of_fq HV3.out (value_small _ _)) (FR.of_fq (HFQ.out.of_below D3.out) HSQ.out)).mono ?_
    rintro e w4 ⟨rfl, hb⟩
    rw [fixQ_raw _ (value_small _ _), fixQ_raw _ HSQ.out]
    have D4 := Hd (below_next D3.out hb)
    clear hb
    go_wp2_with fail
    refine And.intro D4.out ?_
    refine ⟨?_, ?_, ?_⟩
    rotate_left
    ·(iterate 5 ((refine ⟨_, ?_, rfl, Or.inl ⟨by rfl, ?_⟩, ?_⟩; rotate_left; focus (intro W hW; replace hW := (bcell hW).1; go_simp; try with_reducible rfl)); (try simp only [SQ])))
     exact rfl
    refine NoPanic.normal ?_
    go_wp2_with fail
    go_ret
    exact ⟨by rw [HE.out]; rfl, by rw [HE.out]; exact HRP5.out.below D4.out, HC5.out.trans (Chg.of_below D4.out), HW5.out.1.trans (below_same D4.out).1, HW5.out.2.1.trans (below_same D4.out).2.1, HW5.out.2.2.trans (below_same D4.out).2.2⟩
  have u5 : (c.var == -1) = false := bneI' hv
  have HV1 := Hd hv
  clear hv
  go_wp2_with fail
  have hpt := HRP2.out.put l
  have hbn := below_new (w1.setCell ⟨Wr.heap.size, 1, none⟩ (.int .i64 (l : Int))) (.cells #[.int .i64 c.var, .int .i64 c.zero, .int .i64 c.one, .int .i64 c.cert.kind, .slice B1 c.cert.x.length d1, .slice B2 c.cert.y.length d2, .slice B3 c.cert.ray.length d3] 69)
  have hc2 := hpt.2
  have HRP5 := Hd (hpt.1.below hbn)
  have HPO5 := Hd (PO.below (PO.chg HPO2.out hc2 (by decide) (by decide) (by decide)) hbn)
  have HIO5 := Hd ((HIO2.out.chg hc2 (by decide)).below hbn)
  have HBX5 := Hd ((HBX2.out.chg hc2 (by decide)).below hbn (HBX2.out.chg hc2 (by decide)).lt)
  have H95 := Hd (Blk.new (w1.setCell ⟨Wr.heap.size, 1, none⟩ (.int .i64 (l : Int))) 69 #[.int .i64 c.var, .int .i64 c.zero, .int .i64 c.one, .int .i64 c.cert.kind, .slice B1 c.cert.x.length d1, .slice B2 c.cert.y.length d2, .slice B3 c.cert.ray.length d3])
  have HC5 := Hd ((HC1.out.trans hc2).trans (Chg.of_below hbn))
  have HW5 : Hid (w.os = ((w1.setCell ⟨Wr.heap.size, 1, none⟩ (.int .i64 (l : Int))).alloc (.cells #[.int .i64 c.var, .int .i64 c.zero, .int .i64 c.one, .int .i64 c.cert.kind, .slice B1 c.cert.x.length d1, .slice B2 c.cert.y.length d2, .slice B3 c.cert.ray.length d3] 69)).os ∧ w.tape = ((w1.setCell ⟨Wr.heap.size, 1, none⟩ (.int .i64 (l : Int))).alloc (.cells #[.int .i64 c.var, .int .i64 c.zero, .int .i64 c.one, .int .i64 c.cert.kind, .slice B1 c.cert.x.length d1, .slice B2 c.cert.y.length d2, .slice B3 c.cert.ray.length d3] 69)).tape ∧ w.output = ((w1.setCell ⟨Wr.heap.size, 1, none⟩ (.int .i64 (l : Int))).alloc (.cells #[.int .i64 c.var, .int .i64 c.zero, .int .i64 c.one, .int .i64 c.cert.kind, .slice B1 c.cert.x.length d1, .slice B2 c.cert.y.length d2, .slice B3 c.cert.ray.length d3] 69)).output) := HW1.out
  have HCR5 := Hd (HCR.out.of_below HRP5.out.1.2)
  clear hpt hbn hc2 r0 r1 r2 f0 f1 f2 hltr s0 s1 s2 s3 s4 s5 s6 hgC1 hgne HRP2 HPO2 HIO2 HBX2 HC1 HW1
  obtain ⟨g9, hg9⟩ : ∃ g, g = (w1.setCell ⟨Wr.heap.size, 1, none⟩ (.int .i64 (l : Int))).heap.size := ⟨_, rfl⟩
  have hg9' : g9 = w1.heap.size := by rw [hg9]; simp
  rw [← hg9] at H95
  rw [← hg9']
  generalize (w1.setCell ⟨Wr.heap.size, 1, none⟩ (.int .i64 (l : Int))).alloc (.cells #[.int .i64 c.var, .int .i64 c.zero, .int .i64 c.one, .int .i64 c.cert.kind, .slice B1 c.cert.x.length d1, .slice B2 c.cert.y.length d2, .slice B3 c.cert.ray.length d3] 69) = W5 at *
  clear hg9 hg9'
  go_loopw [10, 93] (fun v10 vi wr => ∃ i : Nat, i ≤ op.length ∧ vi = .int .i64 (i : Int) ∧ (∃ C1 e1, v10 = .slice C1 (restL (op.take i) c.var).length e1 ∧ OI W5.heap.size wr (.slice C1 (restL (op.take i) c.var).length e1) (restL (op.take i) c.var)) ∧ HS W5 [] wr) (fun _ vi _ => op.length - (intOf vi).toNat)
  case atStart => exact ⟨0, Nat.zero_le _, rfl, ⟨none, 0, rfl, OL.nil _ _ _ _ _⟩, HS.nil _⟩
  case round =>
   obtain ⟨i, hi, rfl, ⟨C1, e1, rfl, hoi⟩, hk⟩ := hrel
   have HOI := Hd hoi
   have HKi := Hd hk
   clear hoi hk
   obtain ⟨y0, y1, y2, y3, y4, y5, y6⟩ := (H95.out.below HKi.out.2 H95.out.lt).c7
   have hlt9 := (H95.out.below HKi.out.2 H95.out.lt).lt
   by_cases hlt : i < op.length
   ·obtain ⟨x, hx⟩ : ∃ x, op[i]? = some x := ⟨op[i], List.getElem?_eq_getElem hlt⟩
    obtain ⟨gx, ox, rfl, hgx, k0⟩ := IL.at1 (HIO5.out.below HKi.out.2).1 hx
    have HTK := Hd (restL_take (x := c.var) hx)
    have m1 : (i : Int) < (op.length : Int) := by omega
    have m3 : (i : Int).toNat = i := by omega
    have m4 : (0 : Int) ≤ (i : Int) := by omega
    have hol : (restL (op.take i) c.var).length ≤ 1000000000 := by have := restL_le (op.take i) c.var; rw [List.length_take] at this; omega
    obtain ⟨ol, hol2⟩ : ∃ o, o = restL (op.take i) c.var := ⟨_, rfl⟩
    rw [← hol2] at HOI HTK hol ⊢
    have HOL := Hd hol2
    clear hx hol2
    by_cases q : x = c.var
    ·have u6 : (x != c.var) = false := beqI q
     have HNX : Hid (restL (op.take (i + 1)) c.var = ol) := by unfold Hid; rw [HTK.out, if_pos q, List.append_nil]
     clear q
     go_wp2_with fail
     go_roundw
     case rel => exact ⟨i + 1, by omega, by go_num, ⟨C1, e1, by rw [HNX.out], by rw [HNX.out]; exact HOI.out⟩, HKi.out⟩
     case measure => simp [intOf]; omega
    ·have u6 : (x != c.var) = true := bneI q
     have HNX : Hid (restL (op.take (i + 1)) c.var = ol ++ [x]) := by unfold Hid; rw [HTK.out, if_neg q]
     have HNL : Hid ((restL (op.take (i + 1)) c.var).length = ol.length + 1) := by unfold Hid; rw [HNX.out]; simp
     clear q
     have hbn := below_new wr (.cells #[.int .i64 x] 3)
     have HOI2 := Hd (OL.below EI.stays HOI.out hbn)
     have HKi2 := Hd (HKi.out.step hbn)
     have hbs : W5.heap.size ≤ (wr.alloc (.cells #[.int .i64 x] 3)).heap.size := HKi2.out.2.size
     clear hbn
     go_wp2_with (at_builtin; refine wpl_appendI rfl (.tmp 101) (.tmp 103) rfl (base := W5.heap.size) (.slice C1 ol.length e1) ol rfl HOI2.out x rfl (Blk.new wr 3 #[.int .i64 x]) hol hbs ?_; intro v8 W8 hoi8 hcg8 hw8; rw [← HNX.out] at hoi8; obtain ⟨C8, e8, hv8, _⟩ := OL.slice hoi8; rw [HNL.out] at hv8; subst hv8; have HOI8 := Hd hoi8; have HK8 := Hd (HS.chg HKi2.out hcg8 (by simp) rfl hw8); clear hoi8 hcg8 hw8)
     go_wp2_with fail
     go_roundw
     case rel => exact ⟨i + 1, by omega, by go_num, ⟨C8, e8, by rw [HNL.out], by rw [HNL.out]; exact HOI8.out⟩, HK8.out⟩
     case measure => simp [intOf]; omega
   ·obtain rfl : i = op.length := by omega
    rw [List.take_length] at HOI ⊢
    have HRP6 := Hd (HRP5.out.below HKi.out.2)
    have HPO6 := Hd (PO.below HPO5.out HKi.out.2)
    have HBX6 := Hd (HBX5.out.below HKi.out.2 HBX5.out.lt)
    have H96 := Hd (H95.out.below HKi.out.2 H95.out.lt)
    have HC6 := Hd (HC5.out.trans (Chg.of_below HKi.out.2))
    have HW6 : Hid (w.os = wr.os ∧ w.tape = wr.tape ∧ w.output = wr.output) := ⟨HW5.out.1.trans (below_same HKi.out.2).1, HW5.out.2.1.trans (below_same HKi.out.2).2.1, HW5.out.2.2.trans (below_same HKi.out.2).2.2⟩
    have HI6 : Hid (IO Wr.heap.size wr (.slice C1 (restL op c.var).length e1) (restL op c.var)) := OI.io HOI.out
    have HRS : Hid (∀ x ∈ restL op c.var, x ∈ op) := fun x hx => restL_sub hx
    have HRM : Hid ((restL op c.var).length ≠ op.length → c.var ∈ op) := fun h => restL_mem h
    have hrle := restL_le op c.var
    obtain ⟨rl, hrl⟩ : ∃ l, l = restL op c.var := ⟨_, rfl⟩
    rw [← hrl] at HM HI6 HRS HRM hrle ⊢
    clear HRP5 HPO5 HIO5 HBX5 H95 HC5 HW5 HKi HOI hrl
    by_cases q1 : rl.length = op.length
    ·have u6 : ((rl.length : Int) == (op.length : Int)) = true := beqI' (by omega)
     have HE : Hid (provesM cs lim (n + 1) p (k : Int) op (l + 1) = (false, l)) := by unfold Hid; rw [HM.out, if_neg HV1.out, if_pos (.inl q1)]
     have HQ1 := Hd q1
     clear q1
     go_wp2_with fail
     go_ret
     exact ⟨by rw [HE.out]; rfl, by rw [HE.out]; exact HRP6.out, HC6.out, HW6.out⟩
    have u6 : ((rl.length : Int) == (op.length : Int)) = false := bneI' (by omega)
    by_cases q2 : c.zero ≤ (k : Int)
    ·have u7 : decide (c.zero ≤ (k : Int)) = true := decide_eq_true q2
     have HE : Hid (provesM cs lim (n + 1) p (k : Int) op (l + 1) = (false, l)) := by unfold Hid; rw [HM.out, if_neg HV1.out, if_pos (.inr (.inl q2))]
     have HQ1 := Hd q1
     clear q1
     go_wp2_with fail
     go_ret
     exact ⟨by rw [HE.out]; rfl, by rw [HE.out]; exact HRP6.out, HC6.out, HW6.out⟩
    have u7 : decide (c.zero ≤ (k : Int)) = false := decide_eq_false q2
    have u7' : (k : Int) < c.zero := by omega
    by_cases q3 : c.one ≤ (k : Int)
    ·have u8 : decide (c.one ≤ (k : Int)) = true := decide_eq_true q3
     have HE : Hid (provesM cs lim (n + 1) p (k : Int) op (l + 1) = (false, l)) := by unfold Hid; rw [HM.out, if_neg HV1.out, if_pos (.inr (.inr q3))]
     have HQ1 := Hd q1
     clear q1
     go_wp2_with fail
     go_ret
     exact ⟨by rw [HE.out]; rfl, by rw [HE.out]; exact HRP6.out, HC6.out, HW6.out⟩
    have u8 : decide (c.one ≤ (k : Int)) = false := decide_eq_false q3
    have u8' : (k : Int) < c.one := by omega
    have HM2 : Hid (provesM cs lim (n + 1) p (k : Int) op (l + 1) = if (provesM cs lim n (branchQ p c.var 0) c.zero rl l).1 = true then provesM cs lim n (branchQ p c.var 1) c.one rl (provesM cs lim n (branchQ p c.var 0) c.zero rl l).2 else (false, (provesM cs lim n (branchQ p c.var 0) c.zero rl l).2)) := by
     unfold Hid
     rw [HM.out, if_neg HV1.out, if_neg (by rintro (h | h | h); exact q1 h; exact q2 h; exact q3 h)]
    have hxv := HOP.out _ (HRM.out q1)
    have hrlt : rl.length < op.length := by omega
    have hg0 : Wr.heap.size ≤ wr.heap.size := HRP6.out.1.2.size
    clear q1 q2 q3 HM
    go_wp2_with fail
    refine wp_chainS (S := Chg Wr.heap.size 78 wr) [([0, 1, 2, 3, 5, 6, 7], 4), ([], 8), ([9, 10, 11, 12, 13, 15, 16, 17], 14), ([], 18)] [19, 20] (by kernel_rfl) (by kernel_rfl) (by kernel_rfl) rfl (Chg.of_below (Below.drew (Below.refl _ _))) ?_
    refine ⟨?_, _, ?_, rfl, ?_⟩
    rotate_left
    ·(iterate 7 ((refine ⟨_, ?_, rfl, Or.inl ⟨by rfl, ?_⟩, ?_⟩; rotate_left; focus (intro W hW; have kB := HBX6.out.chg hW (by decide); have k9 := H96.out.chg hW (by decide); obtain ⟨x0, x1, x2, x3⟩ := kB.c4; obtain ⟨y0, y1, y2, y3, y4, y5, y6⟩ := k9.c7; have l0 := kB.lt; have l1 := k9.lt; clear kB k9 hW; go_simp; try with_reducible rfl)); (try simp only [SQ])))
     exact rfl
    have hb0 : Below wr.heap.size wr wr.drew := Below.drew (Below.refl _ _)
    have HP1 := Hd (PO.below HPO6.out hb0)
    have HR1 := Hd (HRP6.out.below hb0)
    have HI1 := Hd (HI6.out.below hb0)
    have CH1 := Hd (Chg.of_below (base := Wr.heap.size) (t := 78) hb0)
    have SM1 := Hd (below_same hb0)
    have hg1 : Wr.heap.size ≤ wr.drew.heap.size := HR1.out.1.2.size
    clear hb0
    go_wp2_with fail
    refine (branch_calls Wr.heap.size _ _ p c.var 0 HP1.out hg1 HPV.out.1 HPV.out.2 hxv.1 hxv.2 (Or.inl rfl) (by omega)).mono ?_
    rintro e w2 ⟨v2, rfl, hpo, hb⟩
    have HP2 := Hd hpo
    have HR2 := Hd (HR1.out.below hb)
    have HI2 := Hd (HI1.out.below hb)
    have HPA2 := Hd (PO.below HP1.out hb)
    have CH2 := Hd (CH1.out.trans (Chg.of_below hb))
    have SM2 : Hid (wr.os = w2.os ∧ wr.tape = w2.tape ∧ wr.output = w2.output) := ⟨SM1.out.1.trans (below_same hb).1, SM1.out.2.1.trans (below_same hb).2.1, SM1.out.2.2.trans (below_same hb).2.2⟩
    clear hpo hb
    go_wp2_with fail
    refine And.intro CH2.out ⟨_, _, rfl, rfl, ?_⟩
    go_wp2_with fail
    refine (IH.out w2 v2 _ (branchQ p c.var 0) c.zero rl l HR2.out HP2.out (small_branch HSP.out _ _ (Or.inl rfl)) HI2.out (by omega) (fun x hx => HOP.out x (HRS.out x hx)) (by show (p.rows ++ [_]).length + _ ≤ _; rw [List.length_append]; simp; omega) (by omega)).mono ?_
    rintro e w3 ⟨rfl, hr, hc, hw⟩
    have HLE := Hd (provesM_le cs lim n (branchQ p c.var 0) c.zero rl l)
    obtain ⟨⟨b1, l1⟩, hbl⟩ : ∃ z, z = provesM cs lim n (branchQ p c.var 0) c.zero rl l := ⟨_, rfl⟩
    rw [← hbl] at hr HLE HM2 ⊢
    have HR3 := Hd hr
    have HI3 := Hd (HI2.out.chg hc (by decide))
    have HPA3 := Hd (PO.chg HPA2.out hc (by decide) (by decide) (by decide))
    have CH3 := Hd (CH2.out.trans hc)
    have SM3 : Hid (wr.os = w3.os ∧ wr.tape = w3.tape ∧ wr.output = w3.output) := ⟨SM2.out.1.trans hw.1, SM2.out.2.1.trans hw.2.1, SM2.out.2.2.trans hw.2.2⟩
    have hl1 : l1 ≤ l := HLE.out
    clear hr hc hw hbl HLE
    cases b1
    case false =>
     have HE : Hid (provesM cs lim (n + 1) p (k : Int) op (l + 1) = (false, l1)) := by unfold Hid; rw [HM2.out]; rfl
     go_wp2_with fail
     refine And.intro CH3.out ⟨?_, _, ?_, rfl, ?_⟩
     rotate_left
     ·((refine ⟨_, ?_, rfl, Or.inl ⟨by rfl, ?_⟩, ?_⟩; rotate_left; focus (intro W hW; have kB := HBX6.out.chg hW (by decide); have k9 := H96.out.chg hW (by decide); obtain ⟨x0, x1, x2, x3⟩ := kB.c4; obtain ⟨y0, y1, y2, y3, y4, y5, y6⟩ := k9.c7; have l0 := kB.lt; have l1 := k9.lt; clear kB k9 hW; go_simp; try with_reducible rfl)); (try simp only [SQ])); (iterate 7 ((refine ⟨_, undef, rfl, Or.inr ⟨by kernel_rfl, rfl⟩, ?_⟩); (try simp only [SQ])))
      exact rfl
     refine chain_skip (by kernel_rfl) (And.intro CH3.out ?_)
     (try simp only [SQ])
     refine ⟨_, _, rfl, rfl, ?_⟩
     refine chain_skip (by kernel_rfl) (And.intro CH3.out ?_)
     (try simp only [SQ])
     refine ⟨?_, ?_, ?_⟩
     rotate_left
     ·(iterate 2 ((refine ⟨_, ?_, rfl, Or.inl ⟨by rfl, ?_⟩, ?_⟩; rotate_left; focus (intro W hW; have kB := HBX6.out.chg hW (by decide); have k9 := H96.out.chg hW (by decide); obtain ⟨x0, x1, x2, x3⟩ := kB.c4; obtain ⟨y0, y1, y2, y3, y4, y5, y6⟩ := k9.c7; have l0 := kB.lt; have l1 := k9.lt; clear kB k9 hW; go_simp; try with_reducible rfl)); (try simp only [SQ])))
      exact rfl
     refine NoPanic.normal ?_
     go_wp2_with fail
     go_ret
     exact ⟨by rw [HE.out]; rfl, by rw [HE.out]; exact HR3.out, HC6.out.trans CH3.out, HW6.out.1.trans SM3.out.1, HW6.out.2.1.trans SM3.out.2.1, HW6.out.2.2.trans SM3.out.2.2⟩
    case true =>
     have HE : Hid (provesM cs lim (n + 1) p (k : Int) op (l + 1) = provesM cs lim n (branchQ p c.var 1) c.one rl l1) := by unfold Hid; rw [HM2.out]; rfl
     go_wp2_with fail
     refine And.intro CH3.out ⟨?_, _, ?_, rfl, ?_⟩
     rotate_left
     ·(iterate 8 ((refine ⟨_, ?_, rfl, Or.inl ⟨by rfl, ?_⟩, ?_⟩; rotate_left; focus (intro W hW; have kB := HBX6.out.chg hW (by decide); have k9 := H96.out.chg hW (by decide); obtain ⟨x0, x1, x2, x3⟩ := kB.c4; obtain ⟨y0, y1, y2, y3, y4, y5, y6⟩ := k9.c7; have l0 := kB.lt; have l1 := k9.lt; clear kB k9 hW; go_simp; try with_reducible rfl)); (try simp only [SQ])))
      exact rfl
     have hg3 : Wr.heap.size ≤ w3.heap.size := HR3.out.1.2.size
     go_wp2_with fail
     refine (branch_calls Wr.heap.size _ _ p c.var 1 HPA3.out hg3 HPV.out.1 HPV.out.2 hxv.1 hxv.2 (Or.inr rfl) (by omega)).mono ?_
     rintro e w4 ⟨v4, rfl, hpo, hb⟩
     have HP4 := Hd hpo
     have HR4 := Hd (HR3.out.below hb)
     have HI4 := Hd (HI3.out.below hb)
     have CH4 := Hd (CH3.out.trans (Chg.of_below hb))
     have SM4 : Hid (wr.os = w4.os ∧ wr.tape = w4.tape ∧ wr.output = w4.output) := ⟨SM3.out.1.trans (below_same hb).1, SM3.out.2.1.trans (below_same hb).2.1, SM3.out.2.2.trans (below_same hb).2.2⟩
     clear hpo hb
     go_wp2_with fail
     refine And.intro CH4.out ⟨_, _, rfl, rfl, ?_⟩
     go_wp2_with fail
     refine (IH.out w4 v4 _ (branchQ p c.var 1) c.one rl l1 HR4.out HP4.out (small_branch HSP.out _ _ (Or.inr rfl)) HI4.out (by omega) (fun x hx => HOP.out x (HRS.out x hx)) (by show (p.rows ++ [_]).length + _ ≤ _; rw [List.length_append]; simp; omega) (by omega)).mono ?_
     rintro e w5 ⟨rfl, hr, hc, hw⟩
     have HR5 := Hd hr
     have CH5 := Hd (CH4.out.trans hc)
     have SM5 : Hid (wr.os = w5.os ∧ wr.tape = w5.tape ∧ wr.output = w5.output) := ⟨SM4.out.1.trans hw.1, SM4.out.2.1.trans hw.2.1, SM4.out.2.2.trans hw.2.2⟩
     clear hr hc hw
     go_wp2_with fail
     refine And.intro CH5.out ?_
     refine ⟨?_, ?_, ?_⟩
     rotate_left
     ·(iterate 2 ((refine ⟨_, ?_, rfl, Or.inl ⟨by rfl, ?_⟩, ?_⟩; rotate_left; focus (intro W hW; have kB := HBX6.out.chg hW (by decide); have k9 := H96.out.chg hW (by decide); obtain ⟨x0, x1, x2, x3⟩ := kB.c4; obtain ⟨y0, y1, y2, y3, y4, y5, y6⟩ := k9.c7; have l0 := kB.lt; have l1 := k9.lt; clear kB k9 hW; go_simp; try with_reducible rfl)); (try simp only [SQ])))
      exact rfl
     refine NoPanic.normal ?_
     go_wp2_with fail
     go_ret
     exact ⟨by rw [HE.out]; rfl, by rw [HE.out]; exact HR5.out, HC6.out.trans CH5.out, HW6.out.1.trans SM5.out.1, HW6.out.2.1.trans SM5.out.2.1, HW6.out.2.2.trans SM5.out.2.2⟩
end Go.Proofs.YtfhambfgjigneaaGreat

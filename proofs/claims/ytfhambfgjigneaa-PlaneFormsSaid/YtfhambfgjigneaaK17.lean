/- Contracts of Go functions that the statement reaches, proved by walking their text, and plain laws over them (texts put together). -/
import Derived.Test.YtfhambfgjigneaaK16
set_option linter.unusedVariables false
set_option linter.unusedSimpArgs false
namespace Go.Proofs.Ytfhambfgjigneaa
open Go.RowKit
theorem Row3.chg {base t t' g n : Nat} {w w1 : World} {xs : List Rat} (h : Row3 t' EFQ w g n xs) (hc : Chg base t w w1) (hne : t' ≠ t) : Row3 t' EFQ w1 g n xs := by
  obtain ⟨cs, hk, hs, hn, hl, he⟩ := h
  refine ⟨cs, hk.chg hc hne, hs, hn, hl, fun j x hx => ?_⟩
  obtain ⟨a, b, c, e0, e1, e2, hE⟩ := he j x hx
  exact ⟨a, b, c, e0, e1, e2, FQ.keeps hE hc.1⟩
def UnitAct (w : World) (n : Nat) (v s b : Int) (gs gq : Nat) (A1 : Option Addr) (n1 c1 : Nat) (A2 : Option Addr) (n2 c2 : Nat) : Act := { tmps := #[.int .i64 (n : Int), .int .i64 v, .int .i64 s, .int .i64 b, undef, undef, undef, undef, .pointer (some ⟨w.heap.size, 0, none⟩), .pointer (some ⟨gq, 0, none⟩), undef, .int .i64 (n : Int), .slice (some ⟨gs, 0, none⟩) n n, .int .i64 s, .int .i64 b, .agg #[.bool (negQ (b : Rat)), .slice A1 n1 c1, .slice A2 n2 c2], .agg #[.slice (some ⟨gs, 0, none⟩) n n, .int .i64 s, .bool (negQ (b : Rat)), .slice A1 n1 c1, .slice A2 n2 c2], undef, undef, undef, undef, undef, undef, undef, undef, undef, undef, undef, undef, undef, undef, undef, undef, undef, undef], defers := [] }
def UnitLaid (w : World) (n : Nat) (v s b : Int) (a : Act) (W : World) : Prop := ∃ gs gq A1 n1 c1 A2 n2 c2, a = UnitAct w n v s b gs gq A1 n1 c1 A2 n2 c2 ∧ w.heap.size + 1 ≤ gs ∧ w.heap.size + 1 ≤ gq ∧ Row3 40 EFQ W gs n ([] : List Rat) ∧ Blk W gq 65 #[.slice (some ⟨gs, 0, none⟩) n n, .int .i64 s, .bool (negQ (b : Rat)), .slice A1 n1 c1, .slice A2 n2 c2] ∧ FQ W (.agg #[.bool (negQ (b : Rat)), .slice A1 n1 c1, .slice A2 n2 c2]) (b : Rat) ∧ HS w [(w.heap.size, 65, #[.slice none 0 0, .int .i64 0, .bool false, .slice none 0 0, .slice none 0 0])] W
theorem unit_laid {w W : World} {n : Nat} {v s b : Int} {a : Act} {gs gq : Nat} {A1 : Option Addr} {n1 c1 : Nat} {A2 : Option Addr} {n2 c2 : Nat} {r : Value} (hgs : w.heap.size + 1 ≤ gs) (hgq : w.heap.size + 1 ≤ gq) (hm : Row3 40 EFQ W gs n ([] : List Rat)) (hc : Blk W gq 65 #[.slice none 0 0, .int .i64 0, .bool false, .slice none 0 0, .slice none 0 0]) (hf : FQ W (.agg #[.bool (negQ (b : Rat)), .slice A1 n1 c1, .slice A2 n2 c2]) (b : Rat)) (hs : HS w [(w.heap.size, 65, #[.slice none 0 0, .int .i64 0, .bool false, .slice none 0 0, .slice none 0 0])] W)
    (ha : a = UnitAct w n v s b gs gq A1 n1 c1 A2 n2 c2) : UnitLaid w n v s b a (put5 W gq 0 (.slice (some ⟨gs, 0, none⟩) n n) (.int .i64 s) (.bool (negQ (b : Rat))) (.slice A1 n1 c1) (.slice A2 n2 c2)) := by
  have hcg := chg_put5 (base := w.heap.size) hc (by omega) rowA_words (.slice (some ⟨gs, 0, none⟩) n n) (.int .i64 s) (.bool (negQ (b : Rat))) (.slice A1 n1 c1) (.slice A2 n2 c2)
  refine ⟨gs, gq, A1, n1, c1, A2, n2, c2, ha, hgs, hgq, ?_, hc.put5 _ _ _ _ _, FQ.keeps hf hcg.1, ?_⟩
  · exact hm.chg hcg (by decide)
  · exact ((((hs.other1 (g := gq) (by omega) (by simp; omega) 0 _).other1 (g := gq) (by omega) (by simp; omega) 1 _).other1 (g := gq) (by omega) (by simp; omega) 2 _).other1 (g := gq) (by omega) (by simp; omega) 3 _).other1 (g := gq) (by omega) (by simp; omega) 4 _
theorem Row3.set {α : Type} {E : World → Array Value → α → Prop} {w : World} {g t n i : Nat} {xs : List α} (hE : Far E) (h : Row3 t E w g n xs) {x : α} {a b c : Value} (hi : i < xs.length) (hx : E w #[a, b, c] x) (hn : ∀ u ∈ #[a, b, c], notInt u = true) :
    Row3 t E (((w.setCell ⟨g, i * 3, none⟩ a).setCell ⟨g, i * 3 + 1, none⟩ b).setCell ⟨g, i * 3 + 2, none⟩ c) g n (xs.set i x) := by
  obtain ⟨cs, hk, hs, hcn, hl, he⟩ := h
  have hsz : w.heap.size ≤ (((w.setCell ⟨g, i * 3, none⟩ a).setCell ⟨g, i * 3 + 1, none⟩ b).setCell ⟨g, i * 3 + 2, none⟩ c).heap.size := by simp [World.setCell]
  have hot : ∀ k, k < w.heap.size → k ≠ g → (((w.setCell ⟨g, i * 3, none⟩ a).setCell ⟨g, i * 3 + 1, none⟩ b).setCell ⟨g, i * 3 + 2, none⟩ c).heap[k]? = w.heap[k]? := fun k _ hkg => by
    rw [Below.heap_setCell _ _ _ k hkg, Below.heap_setCell _ _ _ k hkg, Below.heap_setCell _ _ _ k hkg]
  have hset : ∀ {xs : Array Value} {i : Nat} {v : Value}, (∀ x ∈ xs, notInt x = true) → notInt v = true → ∀ x ∈ xs.setIfInBounds i v, notInt x = true := fun {xs i v} h1 h2 x hx => by
    rcases Array.mem_or_eq_of_mem_setIfInBounds hx with h | h
    · exact h1 x h
    · rw [h]; exact h2
  refine ⟨_, ((hk.put (i * 3) a).put (i * 3 + 1) b).put (i * 3 + 2) c, by simp [hs], hset (hset (hset hcn (hn _ (by simp))) (hn _ (by simp))) (hn _ (by simp)), by simpa using hl, fun j y hy => ?_⟩
  by_cases hj : j = i
  · subst hj
    rw [List.getElem?_set_self hi] at hy
    injection hy with hxy
    subst hxy
    refine ⟨a, b, c, ?_, ?_, ?_, hE _ _ _ _ _ _ _ hx hk hcn hsz hot⟩
    · rw [Array.getElem?_setIfInBounds_ne (by omega), Array.getElem?_setIfInBounds_ne (by omega), Array.getElem?_setIfInBounds_self]; rw [if_pos (by omega)]
    · rw [Array.getElem?_setIfInBounds_ne (by omega), Array.getElem?_setIfInBounds_self]; rw [if_pos (by simp; omega)]
    · rw [Array.getElem?_setIfInBounds_self]; rw [if_pos (by simp; omega)]
  · rw [List.getElem?_set_ne (by omega)] at hy
    obtain ⟨a', b', c', h0, h1, h2, h3⟩ := he j y hy
    refine ⟨a', b', c', ?_, ?_, ?_, hE _ _ _ _ _ _ _ h3 hk hcn hsz hot⟩
    · rw [Array.getElem?_setIfInBounds_ne (by omega), Array.getElem?_setIfInBounds_ne (by omega), Array.getElem?_setIfInBounds_ne (by omega)]; exact h0
    · rw [Array.getElem?_setIfInBounds_ne (by omega), Array.getElem?_setIfInBounds_ne (by omega), Array.getElem?_setIfInBounds_ne (by omega)]; exact h1
    · rw [Array.getElem?_setIfInBounds_ne (by omega), Array.getElem?_setIfInBounds_ne (by omega), Array.getElem?_setIfInBounds_ne (by omega)]; exact h2
theorem Blk.apart {w : World} {g g' t t' : Nat} {cs cs' : Array Value} (h : Blk w g t cs) (h' : Blk w g' t' cs') (hne : t ≠ t') : g ≠ g' := fun e => by
  subst e
  have := h.symm.trans h'
  injection this with this
  injection this with _ h2
  exact hne h2
theorem unitL_set (n k : Nat) : unitL n (k : Int) = (List.replicate n (0 : Rat)).set k 1 := by
  apply List.ext_getElem (by simp [unitL])
  intro i h1 h2
  simp only [unitL, List.getElem_map, List.getElem_range, List.getElem_set, List.getElem_replicate]
  by_cases e : i = k
  · subst e; simp
  · rw [if_neg (by omega), if_neg (by omega)]
theorem unit_put {w W : World} {n gs gq : Nat} {s b : Int} {A1 : Option Addr} {n1 c1 : Nat} {A2 : Option Addr} {n2 c2 : Nat} {xs : List Rat} (hgs : w.heap.size + 1 ≤ gs) (hne : gs ≠ gq) (hm : Row3 40 EFQ W gs n xs) (hc : Blk W gq 65 #[.slice (some ⟨gs, 0, none⟩) n n, .int .i64 s, .bool (negQ (b : Rat)), .slice A1 n1 c1, .slice A2 n2 c2]) (hf : FQ W (.agg #[.bool (negQ (b : Rat)), .slice A1 n1 c1, .slice A2 n2 c2]) (b : Rat)) (hs : HS w [(w.heap.size, 65, #[.slice none 0 0, .int .i64 0, .bool false, .slice none 0 0, .slice none 0 0])] W) (o : Nat) (x y z : Value) :
    Blk (((W.setCell ⟨gs, o, none⟩ x).setCell ⟨gs, o + 1, none⟩ y).setCell ⟨gs, o + 2, none⟩ z) gq 65 #[.slice (some ⟨gs, 0, none⟩) n n, .int .i64 s, .bool (negQ (b : Rat)), .slice A1 n1 c1, .slice A2 n2 c2] ∧ FQ (((W.setCell ⟨gs, o, none⟩ x).setCell ⟨gs, o + 1, none⟩ y).setCell ⟨gs, o + 2, none⟩ z) (.agg #[.bool (negQ (b : Rat)), .slice A1 n1 c1, .slice A2 n2 c2]) (b : Rat) ∧ HS w [(w.heap.size, 65, #[.slice none 0 0, .int .i64 0, .bool false, .slice none 0 0, .slice none 0 0])] (((W.setCell ⟨gs, o, none⟩ x).setCell ⟨gs, o + 1, none⟩ y).setCell ⟨gs, o + 2, none⟩ z) := by
  obtain ⟨cs, hk, hsz, hcn, _⟩ := hm
  refine ⟨((hc.other (a := ⟨gs, o, none⟩) hne.symm x).other (a := ⟨gs, o + 1, none⟩) hne.symm y).other (a := ⟨gs, o + 2, none⟩) hne.symm z, EFQ.far _ _ _ _ _ _ _ hf hk hcn (by simp [World.setCell]) (fun k _ hkg => by rw [Below.heap_setCell _ _ _ k hkg, Below.heap_setCell _ _ _ k hkg, Below.heap_setCell _ _ _ k hkg]), ?_⟩
  exact (((hs.other1 (g := gs) (by omega) (by simp; omega) o x).other1 (g := gs) (by omega) (by simp; omega) (o + 1) y).other1 (g := gs) (by omega) (by simp; omega) (o + 2) z)
set_option maxHeartbeats 16000000 in
set_option maxRecDepth 100000 in
theorem unit_calls (w : World) (n : Nat) (v s b : Int) (hn : n ≤ 1000000) (hv0 : 0 ≤ v) (hv1 : v < n) (hs : I64 s) (h0 : -9223372036854775808 ≤ b) (h1 : b < 9223372036854775808) : Calls Try.prog 47 #[.int .i64 (n : Int), .int .i64 v, .int .i64 s, .int .i64 b] w fun e w' => UPost w (unitQ n v s b) e w' := by
  have HS1 := Lib.hid hs
  clear hs
  have hmk := run_make3 23 40 _ Try.underlying23 info40m n (by omega)
  go_enter Try.func47, Try.ntmps47
  go_wp2_with fail
  have H0 := Lib.hid (HS.one (w := w) #[.slice none 0 0, .int .i64 0, .bool false, .slice none 0 0, .slice none 0 0] 65)
  have hsz1 : w.heap.size + 1 ≤ (w.alloc (.cells #[.slice none 0 0, .int .i64 0, .bool false, .slice none 0 0, .slice none 0 0] 65)).heap.size := by simp
  generalize w.alloc (.cells #[.slice none 0 0, .int .i64 0, .bool false, .slice none 0 0, .slice none 0 0] 65) = W0 at *
  refine Code.wp_mono (Q := fun e a W => e = .normal ∧ UnitLaid w n v s b a W) ?_ ?_
  rotate_left
  · refine wp_fork (l := [_, _, _, _, _, _, _, _]) (S := Below W0.heap.size W0) 7 (.three [0, 2, 3] 1 (.two [] 4 (.one [5] 6 (.fin [])) 6 (.one [] 4 (.fin [5]))) 4 (.two [] 1 (.one [5] 6 (.fin [])) 6 (.one [] 1 (.fin [5]))) 6 (.two [] 1 (.one [] 4 (.fin [5])) 4 (.one [] 1 (.fin [5])))) (by kernel_rfl) (by kernel_rfl) (by kernel_rfl) rfl (Below.drew (Below.refl _ _)) ?_
    refine ⟨?_, _, _, _, ?_, rfl, rfl, rfl, ?_, ?_, ?_⟩
    rotate_left
    · repeat (refine ⟨_, ?_, rfl, Or.inl ⟨by rfl, ?_⟩, ?_⟩; rotate_left; focus (intro W hW; have hcW := (bcell hW).1; clear hW; go_simp; try with_reducible rfl); (try simp only [Act.put, List.getElem_toArray, List.getElem_cons_succ, List.getElem_cons_zero, List.setIfInBounds_toArray, List.set_cons_zero, List.set_cons_succ]))
      exact rfl
    · have D0 : Hid (Below W0.heap.size W0 W0.drew) := Below.drew (Below.refl _ _)
      have E0 := Lib.hid (HS.step H0.out D0.out)
      have hz0 : w.heap.size + 1 ≤ W0.drew.heap.size := hsz1
      generalize W0.drew = Wx at *
      go_wp2_with fail
      have hr0 := Row3.made (E := EFQ) Wx 40 n #[.bool false, .slice none 0 0, .slice none 0 0] rfl ni40
      obtain ⟨gs, hgs⟩ : ∃ g, g = Wx.heap.size := ⟨_, rfl⟩
      have hgs2 : w.heap.size + 1 ≤ gs := by have := hz0; omega
      have hbm := below_new Wx (.cells (madeCells #[.bool false, .slice none 0 0, .slice none 0 0] (n * 3)) 40)
      have D1 := Lib.hid (below_next D0.out hbm)
      have E1 := Lib.hid (HS.step H0.out D1.out)
      have hz1 : w.heap.size + 1 ≤ (Wx.alloc (.cells (madeCells #[.bool false, .slice none 0 0, .slice none 0 0] (n * 3)) 40)).heap.size := Nat.le_trans hz0 (hbm).size
      rw [← hgs] at hr0 ⊢
      have HM1 := Lib.hid hr0
      clear hr0 hbm hgs
      generalize Wx.alloc (.cells (madeCells #[.bool false, .slice none 0 0, .slice none 0 0] (n * 3)) 40) = Wm at *
      refine And.intro D1.out ⟨_, _, _, rfl, rfl, rfl, ?_, ?_⟩
      · go_wp2_with fail
        refine (number_calls _ b h0 h1).mono ?_
        rintro e Wf ⟨u, rfl, hv, hbf⟩
        obtain ⟨A1, n1, c1, A2, n2, c2, rfl, HV⟩ := FQ.opened hv
        have D2 := Lib.hid (below_next D1.out hbf)
        have E2 := Lib.hid (HS.step H0.out D2.out)
        have hz2 : w.heap.size + 1 ≤ Wf.heap.size := Nat.le_trans hz1 (hbf).size
        have HM2 := Lib.hid (HM1.out.below EFQ.stays hbf)
        have HF2 := HV
        clear hv hbf HV
        go_wp2_with fail
        refine And.intro D2.out ⟨?_, _, ?_, rfl, ?_⟩
        rotate_left
        · repeat (refine ⟨_, ?_, rfl, Or.inl ⟨by rfl, ?_⟩, ?_⟩; rotate_left; focus (intro W hW; have hcW := (bcell hW).1; clear hW; go_simp; try with_reducible rfl); (try simp only [Act.put, List.getElem_toArray, List.getElem_cons_succ, List.getElem_cons_zero, List.setIfInBounds_toArray, List.set_cons_zero, List.set_cons_succ]))
          exact rfl
        go_wp2_with fail
        have hBq := Blk.new Wf 65 #[.slice none 0 0, .int .i64 0, .bool false, .slice none 0 0, .slice none 0 0]
        obtain ⟨gq, hgq⟩ : ∃ g, g = Wf.heap.size := ⟨_, rfl⟩
        have hgq2 : w.heap.size + 1 ≤ gq := by have := hz2; omega
        have hba := below_new Wf (.cells #[.slice none 0 0, .int .i64 0, .bool false, .slice none 0 0, .slice none 0 0] 65)
        have D3 := Lib.hid (below_next D2.out hba)
        have E3 := Lib.hid (HS.step H0.out D3.out)
        have hz3 : w.heap.size + 1 ≤ (Wf.alloc (.cells #[.slice none 0 0, .int .i64 0, .bool false, .slice none 0 0, .slice none 0 0] 65)).heap.size := Nat.le_trans hz2 (hba).size
        have HM3 := Lib.hid (HM2.out.below EFQ.stays hba)
        have HF3 := Lib.hid (HF2.out.of_below hba)
        rw [← hgq] at hBq ⊢
        have HC3 := Lib.hid hBq
        clear hBq hba hgq
        generalize Wf.alloc (.cells #[.slice none 0 0, .int .i64 0, .bool false, .slice none 0 0, .slice none 0 0] 65) = Wc at *
        refine And.intro D3.out ⟨_, rfl, ?_⟩
        obtain ⟨i0, i1, i2, i3, i4⟩ := HC3.out.c5
        obtain ⟨g0, g1, g2, g3, g4⟩ := HC3.out.f5
        have hltq := HC3.out.lt
        go_wp2_with fail
        refine NoPanic.normal ?_
        exact ⟨rfl, unit_laid (r := .slice (some ⟨gs, 0, none⟩) n n) hgs2 hgq2 HM3.out HC3.out HF3.out E3.out rfl⟩
      · go_wp2_with fail
        have hBq := Blk.new Wm 65 #[.slice none 0 0, .int .i64 0, .bool false, .slice none 0 0, .slice none 0 0]
        obtain ⟨gq, hgq⟩ : ∃ g, g = Wm.heap.size := ⟨_, rfl⟩
        have hgq2 : w.heap.size + 1 ≤ gq := by have := hz1; omega
        have hba := below_new Wm (.cells #[.slice none 0 0, .int .i64 0, .bool false, .slice none 0 0, .slice none 0 0] 65)
        have D2 := Lib.hid (below_next D1.out hba)
        have E2 := Lib.hid (HS.step H0.out D2.out)
        have hz2 : w.heap.size + 1 ≤ (Wm.alloc (.cells #[.slice none 0 0, .int .i64 0, .bool false, .slice none 0 0, .slice none 0 0] 65)).heap.size := Nat.le_trans hz1 (hba).size
        have HM2 := Lib.hid (HM1.out.below EFQ.stays hba)
        rw [← hgq] at hBq ⊢
        have HC2 := Lib.hid hBq
        clear hBq hba hgq
        generalize Wm.alloc (.cells #[.slice none 0 0, .int .i64 0, .bool false, .slice none 0 0, .slice none 0 0] 65) = Wc at *
        refine And.intro D2.out ⟨_, _, rfl, rfl, ?_⟩
        go_wp2_with fail
        refine (number_calls _ b h0 h1).mono ?_
        rintro e Wf ⟨u, rfl, hv, hbf⟩
        obtain ⟨A1, n1, c1, A2, n2, c2, rfl, HV⟩ := FQ.opened hv
        have D3 := Lib.hid (below_next D2.out hbf)
        have E3 := Lib.hid (HS.step H0.out D3.out)
        have hz3 : w.heap.size + 1 ≤ Wf.heap.size := Nat.le_trans hz2 (hbf).size
        have HM3 := Lib.hid (HM2.out.below EFQ.stays hbf)
        have HC3 := Lib.hid (HC2.out.below hbf HC2.out.lt)
        have HF3 := HV
        clear hv hbf HV
        go_wp2_with fail
        refine And.intro D3.out ⟨?_, ?_, ?_⟩
        rotate_left
        · repeat (refine ⟨_, ?_, rfl, Or.inl ⟨by rfl, ?_⟩, ?_⟩; rotate_left; focus (intro W hW; have hcW := (bcell hW).1; clear hW; go_simp; try with_reducible rfl); (try simp only [Act.put, List.getElem_toArray, List.getElem_cons_succ, List.getElem_cons_zero, List.setIfInBounds_toArray, List.set_cons_zero, List.set_cons_succ]))
          exact rfl
        obtain ⟨i0, i1, i2, i3, i4⟩ := HC3.out.c5
        obtain ⟨g0, g1, g2, g3, g4⟩ := HC3.out.f5
        have hltq := HC3.out.lt
        go_wp2_with fail
        refine NoPanic.normal ?_
        exact ⟨rfl, unit_laid (r := .slice (some ⟨gs, 0, none⟩) n n) hgs2 hgq2 HM3.out HC3.out HF3.out E3.out rfl⟩
    · have D0 : Hid (Below W0.heap.size W0 W0.drew) := Below.drew (Below.refl _ _)
      have E0 := Lib.hid (HS.step H0.out D0.out)
      have hz0 : w.heap.size + 1 ≤ W0.drew.heap.size := hsz1
      generalize W0.drew = Wx at *
      go_wp2_with fail
      refine (number_calls _ b h0 h1).mono ?_
      rintro e Wf ⟨u, rfl, hv, hbf⟩
      obtain ⟨A1, n1, c1, A2, n2, c2, rfl, HV⟩ := FQ.opened hv
      have D1 := Lib.hid (below_next D0.out hbf)
      have E1 := Lib.hid (HS.step H0.out D1.out)
      have hz1 : w.heap.size + 1 ≤ Wf.heap.size := Nat.le_trans hz0 (hbf).size
      have HF1 := HV
      clear hv hbf HV
      go_wp2_with fail
      refine And.intro D1.out ⟨_, _, _, rfl, rfl, rfl, ?_, ?_⟩
      · go_wp2_with fail
        have hr0 := Row3.made (E := EFQ) Wf 40 n #[.bool false, .slice none 0 0, .slice none 0 0] rfl ni40
        obtain ⟨gs, hgs⟩ : ∃ g, g = Wf.heap.size := ⟨_, rfl⟩
        have hgs2 : w.heap.size + 1 ≤ gs := by have := hz1; omega
        have hbm := below_new Wf (.cells (madeCells #[.bool false, .slice none 0 0, .slice none 0 0] (n * 3)) 40)
        have D2 := Lib.hid (below_next D1.out hbm)
        have E2 := Lib.hid (HS.step H0.out D2.out)
        have hz2 : w.heap.size + 1 ≤ (Wf.alloc (.cells (madeCells #[.bool false, .slice none 0 0, .slice none 0 0] (n * 3)) 40)).heap.size := Nat.le_trans hz1 (hbm).size
        have HF2 := Lib.hid (HF1.out.of_below hbm)
        rw [← hgs] at hr0 ⊢
        have HM2 := Lib.hid hr0
        clear hr0 hbm hgs
        generalize Wf.alloc (.cells (madeCells #[.bool false, .slice none 0 0, .slice none 0 0] (n * 3)) 40) = Wm at *
        refine And.intro D2.out ⟨?_, _, ?_, rfl, ?_⟩
        rotate_left
        · repeat (refine ⟨_, ?_, rfl, Or.inl ⟨by rfl, ?_⟩, ?_⟩; rotate_left; focus (intro W hW; have hcW := (bcell hW).1; clear hW; go_simp; try with_reducible rfl); (try simp only [Act.put, List.getElem_toArray, List.getElem_cons_succ, List.getElem_cons_zero, List.setIfInBounds_toArray, List.set_cons_zero, List.set_cons_succ]))
          exact rfl
        go_wp2_with fail
        have hBq := Blk.new Wm 65 #[.slice none 0 0, .int .i64 0, .bool false, .slice none 0 0, .slice none 0 0]
        obtain ⟨gq, hgq⟩ : ∃ g, g = Wm.heap.size := ⟨_, rfl⟩
        have hgq2 : w.heap.size + 1 ≤ gq := by have := hz2; omega
        have hba := below_new Wm (.cells #[.slice none 0 0, .int .i64 0, .bool false, .slice none 0 0, .slice none 0 0] 65)
        have D3 := Lib.hid (below_next D2.out hba)
        have E3 := Lib.hid (HS.step H0.out D3.out)
        have hz3 : w.heap.size + 1 ≤ (Wm.alloc (.cells #[.slice none 0 0, .int .i64 0, .bool false, .slice none 0 0, .slice none 0 0] 65)).heap.size := Nat.le_trans hz2 (hba).size
        have HF3 := Lib.hid (HF2.out.of_below hba)
        have HM3 := Lib.hid (HM2.out.below EFQ.stays hba)
        rw [← hgq] at hBq ⊢
        have HC3 := Lib.hid hBq
        clear hBq hba hgq
        generalize Wm.alloc (.cells #[.slice none 0 0, .int .i64 0, .bool false, .slice none 0 0, .slice none 0 0] 65) = Wc at *
        refine And.intro D3.out ⟨_, rfl, ?_⟩
        obtain ⟨i0, i1, i2, i3, i4⟩ := HC3.out.c5
        obtain ⟨g0, g1, g2, g3, g4⟩ := HC3.out.f5
        have hltq := HC3.out.lt
        go_wp2_with fail
        refine NoPanic.normal ?_
        exact ⟨rfl, unit_laid (r := .slice (some ⟨gs, 0, none⟩) n n) hgs2 hgq2 HM3.out HC3.out HF3.out E3.out rfl⟩
      · go_wp2_with fail
        have hBq := Blk.new Wf 65 #[.slice none 0 0, .int .i64 0, .bool false, .slice none 0 0, .slice none 0 0]
        obtain ⟨gq, hgq⟩ : ∃ g, g = Wf.heap.size := ⟨_, rfl⟩
        have hgq2 : w.heap.size + 1 ≤ gq := by have := hz1; omega
        have hba := below_new Wf (.cells #[.slice none 0 0, .int .i64 0, .bool false, .slice none 0 0, .slice none 0 0] 65)
        have D2 := Lib.hid (below_next D1.out hba)
        have E2 := Lib.hid (HS.step H0.out D2.out)
        have hz2 : w.heap.size + 1 ≤ (Wf.alloc (.cells #[.slice none 0 0, .int .i64 0, .bool false, .slice none 0 0, .slice none 0 0] 65)).heap.size := Nat.le_trans hz1 (hba).size
        have HF2 := Lib.hid (HF1.out.of_below hba)
        rw [← hgq] at hBq ⊢
        have HC2 := Lib.hid hBq
        clear hBq hba hgq
        generalize Wf.alloc (.cells #[.slice none 0 0, .int .i64 0, .bool false, .slice none 0 0, .slice none 0 0] 65) = Wc at *
        refine And.intro D2.out ⟨_, _, rfl, rfl, ?_⟩
        go_wp2_with fail
        have hr0 := Row3.made (E := EFQ) Wc 40 n #[.bool false, .slice none 0 0, .slice none 0 0] rfl ni40
        obtain ⟨gs, hgs⟩ : ∃ g, g = Wc.heap.size := ⟨_, rfl⟩
        have hgs2 : w.heap.size + 1 ≤ gs := by have := hz2; omega
        have hbm := below_new Wc (.cells (madeCells #[.bool false, .slice none 0 0, .slice none 0 0] (n * 3)) 40)
        have D3 := Lib.hid (below_next D2.out hbm)
        have E3 := Lib.hid (HS.step H0.out D3.out)
        have hz3 : w.heap.size + 1 ≤ (Wc.alloc (.cells (madeCells #[.bool false, .slice none 0 0, .slice none 0 0] (n * 3)) 40)).heap.size := Nat.le_trans hz2 (hbm).size
        have HF3 := Lib.hid (HF2.out.of_below hbm)
        have HC3 := Lib.hid (HC2.out.below hbm HC2.out.lt)
        rw [← hgs] at hr0 ⊢
        have HM3 := Lib.hid hr0
        clear hr0 hbm hgs
        generalize Wc.alloc (.cells (madeCells #[.bool false, .slice none 0 0, .slice none 0 0] (n * 3)) 40) = Wm at *
        refine And.intro D3.out ⟨?_, ?_, ?_⟩
        rotate_left
        · repeat (refine ⟨_, ?_, rfl, Or.inl ⟨by rfl, ?_⟩, ?_⟩; rotate_left; focus (intro W hW; have hcW := (bcell hW).1; clear hW; go_simp; try with_reducible rfl); (try simp only [Act.put, List.getElem_toArray, List.getElem_cons_succ, List.getElem_cons_zero, List.setIfInBounds_toArray, List.set_cons_zero, List.set_cons_succ]))
          exact rfl
        obtain ⟨i0, i1, i2, i3, i4⟩ := HC3.out.c5
        obtain ⟨g0, g1, g2, g3, g4⟩ := HC3.out.f5
        have hltq := HC3.out.lt
        go_wp2_with fail
        refine NoPanic.normal ?_
        exact ⟨rfl, unit_laid (r := .slice (some ⟨gs, 0, none⟩) n n) hgs2 hgq2 HM3.out HC3.out HF3.out E3.out rfl⟩
    · have D0 : Hid (Below W0.heap.size W0 W0.drew) := Below.drew (Below.refl _ _)
      have E0 := Lib.hid (HS.step H0.out D0.out)
      have hz0 : w.heap.size + 1 ≤ W0.drew.heap.size := hsz1
      generalize W0.drew = Wx at *
      go_wp2_with fail
      have hBq := Blk.new Wx 65 #[.slice none 0 0, .int .i64 0, .bool false, .slice none 0 0, .slice none 0 0]
      obtain ⟨gq, hgq⟩ : ∃ g, g = Wx.heap.size := ⟨_, rfl⟩
      have hgq2 : w.heap.size + 1 ≤ gq := by have := hz0; omega
      have hba := below_new Wx (.cells #[.slice none 0 0, .int .i64 0, .bool false, .slice none 0 0, .slice none 0 0] 65)
      have D1 := Lib.hid (below_next D0.out hba)
      have E1 := Lib.hid (HS.step H0.out D1.out)
      have hz1 : w.heap.size + 1 ≤ (Wx.alloc (.cells #[.slice none 0 0, .int .i64 0, .bool false, .slice none 0 0, .slice none 0 0] 65)).heap.size := Nat.le_trans hz0 (hba).size
      rw [← hgq] at hBq ⊢
      have HC1 := Lib.hid hBq
      clear hBq hba hgq
      generalize Wx.alloc (.cells #[.slice none 0 0, .int .i64 0, .bool false, .slice none 0 0, .slice none 0 0] 65) = Wc at *
      refine And.intro D1.out ⟨_, _, _, rfl, rfl, rfl, ?_, ?_⟩
      · go_wp2_with fail
        have hr0 := Row3.made (E := EFQ) Wc 40 n #[.bool false, .slice none 0 0, .slice none 0 0] rfl ni40
        obtain ⟨gs, hgs⟩ : ∃ g, g = Wc.heap.size := ⟨_, rfl⟩
        have hgs2 : w.heap.size + 1 ≤ gs := by have := hz1; omega
        have hbm := below_new Wc (.cells (madeCells #[.bool false, .slice none 0 0, .slice none 0 0] (n * 3)) 40)
        have D2 := Lib.hid (below_next D1.out hbm)
        have E2 := Lib.hid (HS.step H0.out D2.out)
        have hz2 : w.heap.size + 1 ≤ (Wc.alloc (.cells (madeCells #[.bool false, .slice none 0 0, .slice none 0 0] (n * 3)) 40)).heap.size := Nat.le_trans hz1 (hbm).size
        have HC2 := Lib.hid (HC1.out.below hbm HC1.out.lt)
        rw [← hgs] at hr0 ⊢
        have HM2 := Lib.hid hr0
        clear hr0 hbm hgs
        generalize Wc.alloc (.cells (madeCells #[.bool false, .slice none 0 0, .slice none 0 0] (n * 3)) 40) = Wm at *
        refine And.intro D2.out ⟨_, _, rfl, rfl, ?_⟩
        go_wp2_with fail
        refine (number_calls _ b h0 h1).mono ?_
        rintro e Wf ⟨u, rfl, hv, hbf⟩
        obtain ⟨A1, n1, c1, A2, n2, c2, rfl, HV⟩ := FQ.opened hv
        have D3 := Lib.hid (below_next D2.out hbf)
        have E3 := Lib.hid (HS.step H0.out D3.out)
        have hz3 : w.heap.size + 1 ≤ Wf.heap.size := Nat.le_trans hz2 (hbf).size
        have HC3 := Lib.hid (HC2.out.below hbf HC2.out.lt)
        have HM3 := Lib.hid (HM2.out.below EFQ.stays hbf)
        have HF3 := HV
        clear hv hbf HV
        go_wp2_with fail
        refine And.intro D3.out ⟨?_, ?_, ?_⟩
        rotate_left
        · repeat (refine ⟨_, ?_, rfl, Or.inl ⟨by rfl, ?_⟩, ?_⟩; rotate_left; focus (intro W hW; have hcW := (bcell hW).1; clear hW; go_simp; try with_reducible rfl); (try simp only [Act.put, List.getElem_toArray, List.getElem_cons_succ, List.getElem_cons_zero, List.setIfInBounds_toArray, List.set_cons_zero, List.set_cons_succ]))
          exact rfl
        obtain ⟨i0, i1, i2, i3, i4⟩ := HC3.out.c5
        obtain ⟨g0, g1, g2, g3, g4⟩ := HC3.out.f5
        have hltq := HC3.out.lt
        go_wp2_with fail
        refine NoPanic.normal ?_
        exact ⟨rfl, unit_laid (r := .slice (some ⟨gs, 0, none⟩) n n) hgs2 hgq2 HM3.out HC3.out HF3.out E3.out rfl⟩
      · go_wp2_with fail
        refine (number_calls _ b h0 h1).mono ?_
        rintro e Wf ⟨u, rfl, hv, hbf⟩
        obtain ⟨A1, n1, c1, A2, n2, c2, rfl, HV⟩ := FQ.opened hv
        have D2 := Lib.hid (below_next D1.out hbf)
        have E2 := Lib.hid (HS.step H0.out D2.out)
        have hz2 : w.heap.size + 1 ≤ Wf.heap.size := Nat.le_trans hz1 (hbf).size
        have HC2 := Lib.hid (HC1.out.below hbf HC1.out.lt)
        have HF2 := HV
        clear hv hbf HV
        go_wp2_with fail
        refine And.intro D2.out ⟨_, _, rfl, rfl, ?_⟩
        go_wp2_with fail
        have hr0 := Row3.made (E := EFQ) Wf 40 n #[.bool false, .slice none 0 0, .slice none 0 0] rfl ni40
        obtain ⟨gs, hgs⟩ : ∃ g, g = Wf.heap.size := ⟨_, rfl⟩
        have hgs2 : w.heap.size + 1 ≤ gs := by have := hz2; omega
        have hbm := below_new Wf (.cells (madeCells #[.bool false, .slice none 0 0, .slice none 0 0] (n * 3)) 40)
        have D3 := Lib.hid (below_next D2.out hbm)
        have E3 := Lib.hid (HS.step H0.out D3.out)
        have hz3 : w.heap.size + 1 ≤ (Wf.alloc (.cells (madeCells #[.bool false, .slice none 0 0, .slice none 0 0] (n * 3)) 40)).heap.size := Nat.le_trans hz2 (hbm).size
        have HC3 := Lib.hid (HC2.out.below hbm HC2.out.lt)
        have HF3 := Lib.hid (HF2.out.of_below hbm)
        rw [← hgs] at hr0 ⊢
        have HM3 := Lib.hid hr0
        clear hr0 hbm hgs
        generalize Wf.alloc (.cells (madeCells #[.bool false, .slice none 0 0, .slice none 0 0] (n * 3)) 40) = Wm at *
        refine And.intro D3.out ⟨?_, ?_, ?_⟩
        rotate_left
        · repeat (refine ⟨_, ?_, rfl, Or.inl ⟨by rfl, ?_⟩, ?_⟩; rotate_left; focus (intro W hW; have hcW := (bcell hW).1; clear hW; go_simp; try with_reducible rfl); (try simp only [Act.put, List.getElem_toArray, List.getElem_cons_succ, List.getElem_cons_zero, List.setIfInBounds_toArray, List.set_cons_zero, List.set_cons_succ]))
          exact rfl
        obtain ⟨i0, i1, i2, i3, i4⟩ := HC3.out.c5
        obtain ⟨g0, g1, g2, g3, g4⟩ := HC3.out.f5
        have hltq := HC3.out.lt
        go_wp2_with fail
        refine NoPanic.normal ?_
        exact ⟨rfl, unit_laid (r := .slice (some ⟨gs, 0, none⟩) n n) hgs2 hgq2 HM3.out HC3.out HF3.out E3.out rfl⟩
  rintro e a W ⟨rfl, gs, gq, A1, n1, c1, A2, n2, c2, rfl, hgs, hgq, hm, hc, hf, hs⟩
  unfold UnitAct
  obtain ⟨k, rfl⟩ := Int.eq_ofNat_of_zero_le hv0
  have hne : gs ≠ gq := by obtain ⟨cs, hk, _⟩ := hm; exact hk.apart hc (by decide)
  have HM0 := Lib.hid hm
  have HC0 := Lib.hid hc
  have HF0 := Lib.hid hf
  have HK0 := Lib.hid hs
  clear hm hc hf hs hmk H0 hsz1
  obtain ⟨i0, i1, i2, i3, i4⟩ := HC0.out.c5
  have hltq := HC0.out.lt
  go_wp2_with fail
  clear i0 i1 i2 i3 i4 hltq
  go_loopw [20] (fun vi wr => ∃ i : Nat, i ≤ n ∧ vi = .int .i64 (i : Int) ∧ Row3 40 EFQ wr gs n (List.replicate i (0 : Rat)) ∧ Blk wr gq 65 #[.slice (some ⟨gs, 0, none⟩) n n, .int .i64 s, .bool (negQ (b : Rat)), .slice A1 n1 c1, .slice A2 n2 c2] ∧ FQ wr (.agg #[.bool (negQ (b : Rat)), .slice A1 n1 c1, .slice A2 n2 c2]) (b : Rat) ∧ HS w [(w.heap.size, 65, #[.slice none 0 0, .int .i64 0, .bool false, .slice none 0 0, .slice none 0 0])] wr) (fun vi _ => n - (intOf vi).toNat)
  case atStart => exact ⟨0, Nat.zero_le _, rfl, HM0.out, HC0.out, HF0.out, HK0.out⟩
  case round =>
    obtain ⟨i, hi, rfl, hm, hc, hf, hs⟩ := hrel
    have HM := Lib.hid hm
    have HC := Lib.hid hc
    have HF := Lib.hid hf
    have HK := Lib.hid hs
    clear hm hc hf hs HM0 HC0 HF0 HK0
    obtain ⟨i0, i1, i2, i3, i4⟩ := HC.out.c5
    have hltq := HC.out.lt
    by_cases hlt : i < n
    · have m1 : (i : Int) < (n : Int) := by omega
      have m3 : (i : Int).toNat = i := by omega
      have m4 : (0 : Int) ≤ (i : Int) := by omega
      go_wp2_with fail
      refine wp_chainF (l := [_, _, _, _, _, _]) (S := Below wr.heap.size wr) 4 [([0, 1, 2], 3)] [] (by kernel_rfl) (by kernel_rfl) (by kernel_rfl) rfl (Below.drew (Below.refl _ _)) ?_
      refine ⟨?_, _, ?_, rfl, ?_⟩
      rotate_left
      · repeat (refine ⟨_, ?_, rfl, Or.inl ⟨by rfl, ?_⟩, ?_⟩; rotate_left; focus (intro W hW; have hcW := (bcell hW).1; clear hW; go_simp; try with_reducible rfl); (try simp only [Act.put, List.getElem_toArray, List.getElem_cons_succ, List.getElem_cons_zero, List.setIfInBounds_toArray, List.set_cons_zero, List.set_cons_succ]))
        exact rfl
      have D0 : Hid (Below wr.heap.size wr wr.drew) := Below.drew (Below.refl _ _)
      go_wp2_with fail
      refine (number_calls _ 0 (by decide) (by decide)).mono ?_
      rintro e W3 ⟨u, rfl, hv, hb⟩
      have hcast : ((0 : Int) : Rat) = (0 : Rat) := by norm_cast
      rw [hcast] at hv
      obtain ⟨B1, m1', d1, B2, m2', d2, rfl, HV3⟩ := FQ.opened hv
      have D3 := Lib.hid (below_next D0.out hb)
      clear hv hb hcast
      have HM3 := Lib.hid (HM.out.below EFQ.stays D3.out)
      have HC3 := Lib.hid (HC.out.below D3.out HC.out.lt)
      have HF3 := Lib.hid (HF.out.of_below D3.out)
      have HK3 := Lib.hid (HK.out.step D3.out)
      go_wp2_with fail
      refine And.intro D3.out ⟨_, rfl, ?_⟩
      obtain ⟨a, b', d, e0, e1, e2, f0, f1, f2⟩ := HM3.out.cells i hlt
      have hlg := HM3.out.lt
      go_wp2_with fail
      refine NoPanic.normal ?_
      have HP := Lib.hid (unit_put hgs hne HM3.out HC3.out HF3.out HK3.out (i * 3) (.bool (negQ 0)) (.slice B1 m1' d1) (.slice B2 m2' d2))
      have HR := HM3.out.push EFQ.far (by rw [List.length_replicate]; exact hlt) HV3.out (by simp [notInt])
      rw [List.length_replicate] at HR
      have HR' := Lib.hid HR
      clear HR e0 e1 e2 f0 f1 f2 i0 i1 i2 i3 i4
      go_wp2_with fail
      go_roundw
      case rel => exact ⟨i + 1, by omega, by go_num, by rw [List.replicate_succ']; exact HR'.out, HP.out⟩
      case measure => simp [intOf]; omega
    · obtain rfl : i = n := by omega
      have m1 : (k : Int) < (i : Int) := hv1
      have m3 : (k : Int).toNat = k := by omega
      have m4 : (0 : Int) ≤ (k : Int) := by omega
      have hki : k < i := by omega
      go_wp2_with fail
      refine wp_chainF (l := [_, _, _, _, _, _]) (S := Below wr.heap.size wr) 4 [([0, 1, 2], 3)] [] (by kernel_rfl) (by kernel_rfl) (by kernel_rfl) rfl (Below.drew (Below.refl _ _)) ?_
      refine ⟨?_, _, ?_, rfl, ?_⟩
      rotate_left
      · repeat (refine ⟨_, ?_, rfl, Or.inl ⟨by rfl, ?_⟩, ?_⟩; rotate_left; focus (intro W hW; have hcW := (bcell hW).1; clear hW; go_simp; try with_reducible rfl); (try simp only [Act.put, List.getElem_toArray, List.getElem_cons_succ, List.getElem_cons_zero, List.setIfInBounds_toArray, List.set_cons_zero, List.set_cons_succ]))
        exact rfl
      have D0 : Hid (Below wr.heap.size wr wr.drew) := Below.drew (Below.refl _ _)
      go_wp2_with fail
      refine (number_calls _ 1 (by decide) (by decide)).mono ?_
      rintro e W3 ⟨u, rfl, hv, hb⟩
      have hcast : ((1 : Int) : Rat) = (1 : Rat) := by norm_cast
      rw [hcast] at hv
      obtain ⟨B1, m1', d1, B2, m2', d2, rfl, HV3⟩ := FQ.opened hv
      have D3 := Lib.hid (below_next D0.out hb)
      clear hv hb hcast
      have HM3 := Lib.hid (HM.out.below EFQ.stays D3.out)
      have HC3 := Lib.hid (HC.out.below D3.out HC.out.lt)
      have HF3 := Lib.hid (HF.out.of_below D3.out)
      have HK3 := Lib.hid (HK.out.step D3.out)
      go_wp2_with fail
      refine And.intro D3.out ⟨_, rfl, ?_⟩
      obtain ⟨a, b', d, e0, e1, e2, f0, f1, f2⟩ := HM3.out.cells k hki
      have hlg := HM3.out.lt
      go_wp2_with fail
      refine NoPanic.normal ?_
      have HP := Lib.hid (unit_put hgs hne HM3.out HC3.out HF3.out HK3.out (k * 3) (.bool (negQ 1)) (.slice B1 m1' d1) (.slice B2 m2' d2))
      have HR := Lib.hid (HM3.out.set (i := k) EFQ.far (by rw [List.length_replicate]; exact hki) HV3.out (by simp [notInt]))
      clear e0 e1 e2 f0 f1 f2 i0 i1 i2 i3 i4 hltq
      generalize ((W3.setCell ⟨gs, k * 3, none⟩ (.bool (negQ 1))).setCell ⟨gs, k * 3 + 1, none⟩ (.slice B1 m1' d1)).setCell ⟨gs, k * 3 + 2, none⟩ (.slice B2 m2' d2) = W4 at *
      have HC4 := Lib.hid HP.out.1
      have HF4 := Lib.hid HP.out.2.1
      have HK4 := Lib.hid HP.out.2.2
      rw [← unitL_set] at HR
      obtain ⟨i0, i1, i2, i3, i4⟩ := HC4.out.c5
      have hltq := HC4.out.lt
      obtain ⟨f0, f1, f2, f3, f4⟩ := (HK4.out.blk 0 rfl).f5
      obtain ⟨j0, j1, j2, j3, j4⟩ := (HK4.out.blk 0 rfl).c5
      have hlt0 := (HK4.out.blk 0 rfl).lt
      clear HM3 HC3 HF3 HK3 D0 D3 HP
      go_wp2_with fail
      have hcg := chg_put5 (base := w.heap.size) (HK4.out.blk 0 rfl) (by simp) rowA_words (.slice (some ⟨gs, 0, none⟩) i i) (.int .i64 s) (.bool (negQ (b : Rat))) (.slice A1 n1 c1) (.slice A2 n2 c2)
      have hq := Row3.own HR.out (unitL_length _ _) (show w.heap.size ≤ gs by omega) (by unfold maxLen; omega)
      exact ret65 Try.results47 rfl ((HK4.out.blk 0 rfl).put5 _ _ _ _ _) ⟨_, rfl, ⟨_, _, _, _, _, _, _, rfl, HS1.out, QO.chg hq hcg (by decide), FQ.keeps HF4.out hcg.1⟩, below_put5 HK4.out.2 (by simp) _ _ _ _ _⟩
end Go.Proofs.Ytfhambfgjigneaa
set_option linter.unusedVariables false
set_option linter.unusedSimpArgs false
namespace Go.Proofs.Ytfhambfgjigneaa
open Go.RowKit
def bitsB (l : List Int) : Bool := l.all fun b => decide (b = 0 ∨ b = 1)
def fixCode (p : ProgF) (xs bs : List Int) : Int :=
  if rightP p ≠ 0 then rightP p else if xs.length ≠ bs.length ∨ distinctB p.vars xs = false then 20 else if bitsB bs = false then 20 else if 400 < p.rows.length + xs.length then 1 else 0
def fixRows (n : Nat) (xs bs : List Int) : List RowQ := (xs.zip bs).map fun y => unitQ n y.1 0 y.2
noncomputable def fixedP (p : ProgF) (xs bs : List Int) : ProgQ := if fixCode p xs bs = 0 then ⟨p.vars, p.free, p.goal.map fixQ, p.rows.map cleanR ++ fixRows p.vars.toNat xs bs⟩ else zeroP
set_option maxHeartbeats 32000000 in
set_option maxRecDepth 100000 in
theorem pfixed_calls (w : World) (v vx vb : Value) (p : ProgF) (xs bs : List Int) (h : PR w v p) (hx : IL w vx xs) (hb : IL w vb bs) (hxl : xs.length ≤ 4000000000000000) (hbl : bs.length ≤ 4000000000000000) (hxi : ∀ x ∈ xs, I64 x) (hbi : ∀ x ∈ bs, I64 x) : Calls Try.prog 16 #[v, vx, vb] w fun e w' => NPost w (fixedP p xs bs) (fixCode p xs bs) e w' := by
  have HP := Lib.hid h
  have HX := Lib.hid hx
  have HBS := Lib.hid hb
  have HXI := Lib.hid hxi
  have HBI := Lib.hid hbi
  obtain ⟨X1, xc, rfl, _⟩ := hx.slice
  obtain ⟨Y1, yc, rfl, _⟩ := hb.slice
  obtain ⟨A1, c1, A2, c2, A3, c3, rfl, HI, H1, H2, H3⟩ := h.opened
  clear h hx hb hxi hbi
  obtain ⟨vars, hv⟩ : ∃ n, n = p.vars := ⟨_, rfl⟩
  rw [← hv] at HP ⊢
  have HV := Lib.hid hv
  clear hv
  go_enter Try.func16, Try.ntmps16
  go_wp2_with fail
  have H0 := Lib.hid (HS.two (w := w) #[.int .i64 vars, .slice A1 p.free.length c1, .slice A2 p.goal.length c2, .slice A3 p.rows.length c3] #[.int .i64 0, .slice none 0 0, .slice none 0 0, .slice none 0 0] 26 26)
  have hsz0 : ((w.alloc (.cells #[.int .i64 vars, .slice A1 p.free.length c1, .slice A2 p.goal.length c2, .slice A3 p.rows.length c3] 26)).alloc (.cells #[.int .i64 0, .slice none 0 0, .slice none 0 0, .slice none 0 0] 26)).heap.size = w.heap.size + 2 := by simp
  generalize (w.alloc (.cells #[.int .i64 vars, .slice A1 p.free.length c1, .slice A2 p.goal.length c2, .slice A3 p.rows.length c3] 26)).alloc (.cells #[.int .i64 0, .slice none 0 0, .slice none 0 0, .slice none 0 0] 26) = W0 at *
  have hsz1 : w.heap.size + 2 ≤ W0.heap.size := by omega
  clear hsz0
  refine (pright_calls W0 _ p (HP.out.of_below H0.out.2)).mono ?_
  rintro e w1 ⟨rfl, hb⟩
  have K1 := Lib.hid (H0.out.step hb)
  obtain ⟨x0, x1, x2, x3⟩ := K1.out.c4 1 rfl
  have hlt1 := (K1.out.blk 1 rfl).lt
  clear hb hsz1 H0
  by_cases q1 : rightP p = 0
  case neg =>
    have u1 : (rightP p != 0) = true := bneI q1
    have HC : Hid (fixCode p xs bs = rightP p) := by unfold Hid fixCode; rw [if_pos q1]
    have HN : Hid (fixedP p xs bs = zeroP) := by unfold Hid fixedP; rw [HC.out, if_neg q1]
    have KK := K1
    clear q1
    obtain ⟨j0, j1, j2, j3⟩ := (KK.out.blk 0 rfl).c4
    obtain ⟨f0, f1, f2, f3⟩ := (KK.out.blk 0 rfl).f4
    have hlt0 := (KK.out.blk 0 rfl).lt
    go_wp2_with fail
    rw [HN.out, HC.out]
    exact ret26i Try.results16 rfl rfl ((KK.out.blk 0 rfl).put4 _ _ _ _) ⟨_, rfl, PO.zero _ _, below_put4 KK.out.2 (by simp) _ _ _ _⟩
  have u1 : (rightP p != 0) = false := beqI q1
  have hrl := rightP_len q1
  have HRZ := Lib.hid q1
  have hlf : p.free.length ≤ 1000 := by have := hrl.1; have := hrl.2.2.2.1; omega
  have hlg : p.goal.length ≤ 1000 := by have := hrl.2.1; have := hrl.2.2.2.1; omega
  have hlr : p.rows.length ≤ 1000 := by have := hrl.2.2.2.2.1; omega
  have HLA : Hid (∀ r ∈ p.rows, r.a.length ≤ 1000) := fun r hr => by have := (hrl.2.2.2.2.2 r hr).1; have := hrl.2.2.2.1; omega
  have HVB : Hid (1 ≤ vars ∧ vars ≤ 160) := by unfold Hid; rw [HV.out]; exact ⟨hrl.2.2.1, hrl.2.2.2.1⟩
  clear q1 hrl
  by_cases q2 : xs.length = bs.length
  case neg =>
    have u2 : (((xs.length : Int)) != (bs.length : Int)) = true := bneI (by omega)
    have HC : Hid (fixCode p xs bs = 20) := by unfold Hid fixCode; rw [if_neg (by simp [HRZ.out]), if_pos (.inl q2)]
    have HN : Hid (fixedP p xs bs = zeroP) := by unfold Hid fixedP; rw [HC.out]; rfl
    have KK := K1
    clear q2
    obtain ⟨j0, j1, j2, j3⟩ := (KK.out.blk 0 rfl).c4
    obtain ⟨f0, f1, f2, f3⟩ := (KK.out.blk 0 rfl).f4
    have hlt0 := (KK.out.blk 0 rfl).lt
    go_wp2_with fail
    rw [HN.out, HC.out]
    exact ret26i Try.results16 rfl rfl ((KK.out.blk 0 rfl).put4 _ _ _ _) ⟨_, rfl, PO.zero _ _, below_put4 KK.out.2 (by simp) _ _ _ _⟩
  have u2 : (((xs.length : Int)) != (bs.length : Int)) = false := beqI (by omega)
  have HQ2 := Lib.hid q2
  clear q2
  go_wp2_with fail
  refine (distinct_calls w1 _ xs vars (HX.out.below EI.stays K1.out.2) hxl HXI.out).mono ?_
  rintro e w2 ⟨rfl, hb⟩
  have K2 := Lib.hid (K1.out.step hb)
  clear hb x0 x1 x2 x3 hlt1 K1
  obtain ⟨x0, x1, x2, x3⟩ := K2.out.c4 1 rfl
  have hlt1 := (K2.out.blk 1 rfl).lt
  cases hd : distinctB vars xs
  case false =>
    have HC : Hid (fixCode p xs bs = 20) := by unfold Hid fixCode; rw [if_neg (by simp [HRZ.out]), if_pos (.inr (by rw [← HV.out]; exact hd))]
    have HN : Hid (fixedP p xs bs = zeroP) := by unfold Hid fixedP; rw [HC.out]; rfl
    have KK := K2
    clear hd
    obtain ⟨j0, j1, j2, j3⟩ := (KK.out.blk 0 rfl).c4
    obtain ⟨f0, f1, f2, f3⟩ := (KK.out.blk 0 rfl).f4
    have hlt0 := (KK.out.blk 0 rfl).lt
    go_wp2_with fail
    rw [HN.out, HC.out]
    exact ret26i Try.results16 rfl rfl ((KK.out.blk 0 rfl).put4 _ _ _ _) ⟨_, rfl, PO.zero _ _, below_put4 KK.out.2 (by simp) _ _ _ _⟩
  have HD := Lib.hid hd
  clear hd
  go_wp2_with fail
  clear x0 x1 x2 x3 hlt1
  go_loopw [35] (fun vi wr => ∃ i : Nat, i ≤ bs.length ∧ vi = .int .i64 (i : Int) ∧ (∀ (j : Nat) (x : Int), j < i → bs[j]? = some x → x = 0 ∨ x = 1) ∧ HS w [(w.heap.size + 1, 26, #[.int .i64 0, .slice none 0 0, .slice none 0 0, .slice none 0 0]), (w.heap.size, 26, #[.int .i64 vars, .slice A1 p.free.length c1, .slice A2 p.goal.length c2, .slice A3 p.rows.length c3])] wr) (fun vi _ => bs.length - (intOf vi).toNat)
  case atStart => exact ⟨0, Nat.zero_le _, rfl, fun j _ h => absurd h (Nat.not_lt_zero _), K2.out⟩
  case round =>
    obtain ⟨i, hi, rfl, hall, hs⟩ := hrel
    have HA := Lib.hid hall
    have KK := Lib.hid hs
    clear hall hs K2
    obtain ⟨x0, x1, x2, x3⟩ := KK.out.c4 1 rfl
    have hlt1 := (KK.out.blk 1 rfl).lt
    by_cases hlt : i < bs.length
    · obtain ⟨x, hx⟩ : ∃ x, bs[i]? = some x := ⟨bs[i], List.getElem?_eq_getElem hlt⟩
      obtain ⟨g, o, rfl, hg, k0⟩ := IL.at1 (HBS.out.below EI.stays KK.out.2) hx
      have HX1 := Lib.hid hx
      clear hx
      have m1 : (i : Int) < (bs.length : Int) := by omega
      have m3 : (i : Int).toNat = i := by omega
      have m4 : (0 : Int) ≤ (i : Int) := by omega
      by_cases q3 : x = 0 ∨ x = 1
      · have HQ3 := Lib.hid q3
        have HNX : Hid (∀ (j : Nat) (y : Int), j < i + 1 → bs[j]? = some y → y = 0 ∨ y = 1) := fun j y hj hy => by
          by_cases hji : j = i
          · rw [hji, HX1.out] at hy
            injection hy with e
            rw [← e]
            exact HQ3.out
          · exact HA.out j y (by omega) hy
        rcases q3 with q3 | q3
        · have u3 : (x != 0) = false := beqI q3
          clear q3
          go_wp2_with fail
          go_roundw
          case rel => exact ⟨i + 1, by omega, by go_num, HNX.out, KK.out⟩
          case measure => simp [intOf]; omega
        · have u3 : (x != 0) = true := bneI (by omega)
          have u4 : (x != 1) = false := beqI q3
          clear q3
          go_wp2_with fail
          go_roundw
          case rel => exact ⟨i + 1, by omega, by go_num, HNX.out, KK.out⟩
          case measure => simp [intOf]; omega
      · have u3 : (x != 0) = true := bneI (by omega)
        have u4 : (x != 1) = true := bneI (by omega)
        have hbf : bitsB bs = false := by
          unfold bitsB
          rw [List.all_eq_false]
          exact ⟨x, List.mem_of_getElem? HX1.out, by simpa using q3⟩
        have HC : Hid (fixCode p xs bs = 20) := by unfold Hid fixCode; rw [if_neg (by simp [HRZ.out]), if_neg (by rw [← HV.out, HD.out]; simp [HQ2.out]), if_pos hbf]
        have HN : Hid (fixedP p xs bs = zeroP) := by unfold Hid fixedP; rw [HC.out]; rfl
        clear q3 hbf
        obtain ⟨j0, j1, j2, j3⟩ := (KK.out.blk 0 rfl).c4
        obtain ⟨f0, f1, f2, f3⟩ := (KK.out.blk 0 rfl).f4
        have hlt0 := (KK.out.blk 0 rfl).lt
        go_wp2_with fail
        rw [HN.out, HC.out]
        exact ret26i Try.results16 rfl rfl ((KK.out.blk 0 rfl).put4 _ _ _ _) ⟨_, rfl, PO.zero _ _, below_put4 KK.out.2 (by simp) _ _ _ _⟩
    · obtain rfl : i = bs.length := by omega
      have hbt : bitsB bs = true := by
        unfold bitsB
        rw [List.all_eq_true]
        intro x hx
        obtain ⟨j, hj⟩ := List.getElem?_of_mem hx
        exact decide_eq_true (HA.out j x (List.getElem?_eq_some_iff.1 hj).1 hj)
      have HBT := Lib.hid hbt
      clear hbt
      by_cases q5 : 400 < p.rows.length + xs.length
      · have m5 : (400 : Int) < (p.rows.length : Int) + (xs.length : Int) := by omega
        have HC : Hid (fixCode p xs bs = 1) := by unfold Hid fixCode; rw [if_neg (by simp [HRZ.out]), if_neg (by rw [← HV.out, HD.out]; simp [HQ2.out]), if_neg (by simp [HBT.out]), if_pos q5]
        have HN : Hid (fixedP p xs bs = zeroP) := by unfold Hid fixedP; rw [HC.out]; rfl
        clear q5
        obtain ⟨j0, j1, j2, j3⟩ := (KK.out.blk 0 rfl).c4
        obtain ⟨f0, f1, f2, f3⟩ := (KK.out.blk 0 rfl).f4
        have hlt0 := (KK.out.blk 0 rfl).lt
        go_wp2_with fail
        rw [HN.out, HC.out]
        exact ret26i Try.results16 rfl rfl ((KK.out.blk 0 rfl).put4 _ _ _ _) ⟨_, rfl, PO.zero _ _, below_put4 KK.out.2 (by simp) _ _ _ _⟩
      have m5 : ¬ ((400 : Int) < (p.rows.length : Int) + (xs.length : Int)) := by omega
      go_wp2_with fail
      refine (clean_calls _ _ p (HP.out.of_below KK.out.2) hlf hlg hlr HLA.out).mono ?_
      rintro e w2 ⟨v1, v2, v3, rfl, hfr, hq, hro, hb⟩
      rw [show (cleanQ p).vars = vars from HV.out.symm]
      have hq' : QO w.heap.size w2 v2 (p.goal.map fixQ) := hq.lower KK.out.2.size
      have hro' : RO w.heap.size w2 v3 (p.rows.map cleanR) := RO.lower hro KK.out.2.size
      obtain ⟨B2, d2, ev2, _⟩ := hq'.slice
      rw [List.length_map] at ev2
      subst ev2
      obtain ⟨B3, d3, ev3, _⟩ := OL.slice hro'
      rw [List.length_map] at ev3
      subst ev3
      have hfr' : FrO 0 w2 v1 p.free := hfr
      obtain ⟨B1, d1, rfl, _⟩ := hfr'.1.slice
      have K2 := Lib.hid (KK.out.step hb)
      have hsz3 : w.heap.size + 2 ≤ w2.heap.size := by have : w.heap.size + 1 < w2.heap.size := (K2.out.blk 0 rfl).lt; omega
      obtain ⟨x0, x1, x2, x3⟩ := K2.out.c4 1 rfl
      have hlt2 := (K2.out.blk 1 rfl).lt
      clear hq hro hb hfr
      go_wp2_with fail
      have hbn := below_new w2 (.cells #[.int .i64 vars, .slice B1 p.free.length d1, .slice B2 p.goal.length d2, .slice B3 p.rows.length d3] 26)
      have HBc := Lib.hid (Blk.new w2 26 #[.int .i64 vars, .slice B1 p.free.length d1, .slice B2 p.goal.length d2, .slice B3 p.rows.length d3])
      have HFc := Lib.hid (hfr'.below hbn)
      have HQc := Lib.hid (OL.below EFQ.stays hq' hbn)
      have HRc := Lib.hid (OL.below ERO.stays hro' hbn)
      have HSc := Lib.hid (K2.out.step hbn)
      obtain ⟨gq, hgq⟩ : ∃ g, g = w2.heap.size := ⟨_, rfl⟩
      rw [← hgq] at HBc
      have hgq2 : w.heap.size + 2 ≤ gq := by omega
      generalize w2.alloc (.cells #[.int .i64 vars, .slice B1 p.free.length d1, .slice B2 p.goal.length d2, .slice B3 p.rows.length d3] 26) = Wc at *
      rw [← hgq]
      clear hgq hbn hfr' hq' hro' x0 x1 x2 x3 hlt2 K2 hsz3
      obtain ⟨n, rfl⟩ : ∃ n : Nat, vars = n := ⟨vars.toNat, by have := HVB.out.1; omega⟩
      have hn2 : n ≤ 160 := by have := HVB.out.2; omega
      obtain ⟨qg, hqg⟩ : ∃ q, q = p.goal.map fixQ := ⟨_, rfl⟩
      rw [← hqg] at HQc
      have HQG := Lib.hid hqg
      obtain ⟨rq, hrq⟩ : ∃ q, q = p.rows.map cleanR := ⟨_, rfl⟩
      rw [← hrq] at HRc
      have HRQ := Lib.hid hrq
      have HRL : Hid (rq.length = p.rows.length) := by unfold Hid; rw [hrq, List.length_map]
      obtain ⟨fr, hfr⟩ : ∃ q, q = fixRows n xs bs := ⟨_, rfl⟩
      have HFR0 := Lib.hid hfr
      have HFL : Hid (fr.length = xs.length) := by unfold Hid; rw [hfr]; unfold fixRows; rw [List.length_map, List.length_zip, HQ2.out]; simp
      clear hqg hrq hfr m5 KK HA
      go_loopw [59] (fun vi wr => ∃ i : Nat, i ≤ xs.length ∧ vi = .int .i64 (i : Int) ∧ (∃ A5 c5, Blk wr gq 26 #[.int .i64 (n : Int), .slice B1 p.free.length d1, .slice B2 p.goal.length d2, .slice A5 (p.rows.length + i) c5] ∧ RO w.heap.size wr (.slice A5 (p.rows.length + i) c5) (rq ++ fr.take i)) ∧ FrO 0 wr (.slice B1 p.free.length d1) p.free ∧ QO w.heap.size wr (.slice B2 p.goal.length d2) qg ∧ HS w [(w.heap.size + 1, 26, #[.int .i64 0, .slice none 0 0, .slice none 0 0, .slice none 0 0]), (w.heap.size, 26, #[.int .i64 (n : Int), .slice A1 p.free.length c1, .slice A2 p.goal.length c2, .slice A3 p.rows.length c3])] wr) (fun vi _ => xs.length - (intOf vi).toNat)
      case atStart => exact ⟨0, Nat.zero_le _, rfl, ⟨B3, d3, HBc.out, by rw [List.take_zero, List.append_nil]; exact HRc.out⟩, HFc.out, HQc.out, HSc.out⟩
      case round =>
        obtain ⟨i, hi, rfl, ⟨A5, c5, hbq, hro⟩, hfr, hqo, hs⟩ := hrel
        have HBQ := Lib.hid hbq
        have HRO := Lib.hid hro
        have HFR := Lib.hid hfr
        have HQO := Lib.hid hqo
        have HK := Lib.hid hs
        clear hbq hro hfr hqo hs HBc HFc HQc HSc HRc
        obtain ⟨x0, x1, x2, x3⟩ := HK.out.c4 1 rfl
        have hltp := (HK.out.blk 1 rfl).lt
        obtain ⟨i0, i1, i2, i3⟩ := HBQ.out.c4
        have hltq := HBQ.out.lt
        by_cases hlt : i < xs.length
        · obtain ⟨x, hx⟩ : ∃ x, xs[i]? = some x := ⟨xs[i], List.getElem?_eq_getElem hlt⟩
          obtain ⟨y, hy⟩ : ∃ y, bs[i]? = some y := ⟨bs[i]'(by rw [← HQ2.out]; exact hlt), List.getElem?_eq_getElem _⟩
          obtain ⟨gx, ox, rfl, hgx, k0⟩ := IL.at1 (HX.out.below EI.stays HK.out.2) hx
          obtain ⟨gy, oy, rfl, hgy, k1⟩ := IL.at1 (HBS.out.below EI.stays HK.out.2) hy
          have hxr : 0 ≤ x ∧ x < (n : Int) := by
            have := HD.out
            unfold distinctB at this
            exact (of_decide_eq_true this).1 x (List.mem_of_getElem? hx)
          have hyi := HBI.out y (List.mem_of_getElem? hy)
          have HNX : Hid (rq ++ fr.take (i + 1) = rq ++ fr.take i ++ [unitQ n x 0 y]) := by
            unfold Hid
            rw [List.take_add_one, HFR0.out]
            unfold fixRows
            rw [List.getElem?_map, (List.getElem?_zip_eq_some (z := (x, y))).2 ⟨hx, hy⟩, List.append_assoc]
            rfl
          have hrl : (rq ++ fr.take i).length ≤ 1000000000 := by rw [List.length_append, HRL.out, List.length_take, HFL.out]; omega
          have m1 : (i : Int) < (xs.length : Int) := by omega
          have m2 : (i : Int) < (bs.length : Int) := by have := HQ2.out; omega
          have m3 : (i : Int).toNat = i := by omega
          have m4 : (0 : Int) ≤ (i : Int) := by omega
          clear hx hy
          go_wp2_with fail
          refine wp_chainF (l := [_, _, _, _, _, _, _, _, _, _, _, _, _, _]) (S := Below wr.heap.size wr) 11 [([0, 1, 2, 3, 4, 5, 6, 7, 8], 9), ([], 10)] [] (by kernel_rfl) (by kernel_rfl) (by kernel_rfl) rfl (Below.drew (Below.refl _ _)) ?_
          refine ⟨?_, _, ?_, rfl, ?_⟩
          rotate_left
          · repeat (refine ⟨_, ?_, rfl, Or.inl ⟨by rfl, ?_⟩, ?_⟩; rotate_left; focus (intro W hW; have hcW := (bcell hW).1; clear hW; go_simp; try with_reducible rfl); (try simp only [Act.put, List.getElem_toArray, List.getElem_cons_succ, List.getElem_cons_zero, List.setIfInBounds_toArray, List.set_cons_zero, List.set_cons_succ]))
            exact rfl
          have D0 : Hid (Below wr.heap.size wr wr.drew) := Below.drew (Below.refl _ _)
          go_wp2_with fail
          refine (unit_calls _ n x 0 y (by omega) hxr.1 hxr.2 (by unfold I64; omega) hyi.1 (by have := hyi.2; omega)).mono ?_
          rintro e W3 ⟨vs, rfl, her, hb⟩
          obtain ⟨v5, C5, n5, e5, C6, n6, e6, rfl, HIS, hqa, hfb⟩ := her
          have HQA := Lib.hid (hqa.lower (base' := w.heap.size) (Nat.le_trans HK.out.2.size D0.out.size))
          obtain ⟨C4, e4, rfl, _⟩ := hqa.slice
          have HV3 := Lib.hid hfb
          have D3 := Lib.hid (below_next D0.out hb)
          clear hqa hfb hb
          go_wp2_with fail
          refine And.intro D3.out ⟨_, _, rfl, rfl, ?_⟩
          go_wp2_with fail
          have HL4 := Lib.hid (Blk.new W3 65 #[.slice C4 (unitQ n x 0 y).a.length e4, .int .i64 (unitQ n x 0 y).s, .bool (negQ (unitQ n x 0 y).b), .slice C5 n5 e5, .slice C6 n6 e6])
          have hbn := below_new W3 (.cells #[.slice C4 (unitQ n x 0 y).a.length e4, .int .i64 (unitQ n x 0 y).s, .bool (negQ (unitQ n x 0 y).b), .slice C5 n5 e5, .slice C6 n6 e6] 65)
          have D4 := Lib.hid (below_next D3.out hbn)
          have HQ4 := Lib.hid (HQA.out.below EFQ.stays hbn)
          have HV4 := Lib.hid (HV3.out.of_below hbn)
          obtain ⟨gl, hgl⟩ : ∃ g, g = W3.heap.size := ⟨_, rfl⟩
          rw [← hgl] at HL4 ⊢
          generalize W3.alloc (.cells #[.slice C4 (unitQ n x 0 y).a.length e4, .int .i64 (unitQ n x 0 y).s, .bool (negQ (unitQ n x 0 y).b), .slice C5 n5 e5, .slice C6 n6 e6] 65) = W4 at *
          clear hgl hbn
          refine And.intro D4.out ⟨_, rfl, ?_⟩
          have HBQ4 := Lib.hid (HBQ.out.below D4.out HBQ.out.lt)
          have HRO4 := Lib.hid (HRO.out.below ERO.stays D4.out)
          have HFR4 := Lib.hid (HFR.out.below D4.out)
          have HQO4 := Lib.hid (HQO.out.below EFQ.stays D4.out)
          have HK4 := Lib.hid (HK.out.step D4.out)
          have hbase4 : w.heap.size ≤ W4.heap.size := HK4.out.2.size
          have HER : Hid (ERO w.heap.size W4 #[.slice C4 (unitQ n x 0 y).a.length e4, .int .i64 (unitQ n x 0 y).s, .bool (negQ (unitQ n x 0 y).b), .slice C5 n5 e5, .slice C6 n6 e6] (unitQ n x 0 y)) := ⟨_, _, _, _, _, _, _, rfl, HIS, HQ4.out, HV4.out⟩
          have HRL2 : Hid ((rq ++ fr.take (i + 1)).length = p.rows.length + (i + 1)) := by unfold Hid; rw [List.length_append, HRL.out, List.length_take, HFL.out]; omega
          simp only [Act.put, List.getElem_toArray, List.getElem_cons_succ, List.getElem_cons_zero, List.setIfInBounds_toArray, List.set_cons_zero, List.set_cons_succ, List.drop_succ_cons, List.drop_zero]
          clear i0 i1 i2 i3 x0 x1 x2 x3
          go_wp2_with (at_builtin; refine wpl_appendR5 rfl (.tmp 65) (.tmp 74) rfl (base := w.heap.size) (.slice A5 (p.rows.length + i) c5) (rq ++ fr.take i) rfl HRO4.out (unitQ n x 0 y) rfl HL4.out HER.out hrl hbase4 ?_; intro v6 W6 hro6 hcg6 hw6 hob6; obtain ⟨A6, c6, hv6, _⟩ := hro6.slice; rw [← HNX.out] at hro6 hv6; rw [HRL2.out] at hv6; subst hv6; have HRO6 := Lib.hid hro6; have HBQ6 := Lib.hid (HBQ4.out.chg hcg6 (by decide)); have HFR6 := Lib.hid (HFR4.out.chg hcg6 (by decide)); have HQO6 := Lib.hid (QO.chg HQO4.out hcg6 (by decide)); have HK6 := Lib.hid (HS.chg HK4.out hcg6 (by simp) rfl hw6); obtain ⟨i0, i1, i2, i3⟩ := HBQ6.out.c4; obtain ⟨f0, f1, f2, f3⟩ := HBQ6.out.f4; have hltq6 := HBQ6.out.lt; clear hro6 hcg6 hw6 hob6)
          refine NoPanic.normal ?_
          have hcp := chg_put1 (base := w.heap.size) (j := 3) HBQ6.out (by omega) prog_words (.slice A6 (p.rows.length + (i + 1)) c6)
          have HX1 := Lib.hid (HBQ6.out.put 3 (.slice A6 (p.rows.length + (i + 1)) c6))
          have HX2 := Lib.hid (RO.chg HRO6.out hcp (by decide) (by decide))
          have HX3 := Lib.hid (HFR6.out.chg hcp (by decide))
          have HX4 := Lib.hid (QO.chg HQO6.out hcp (by decide))
          have HX5 := Lib.hid (HK6.out.other1 (g := gq) (by omega) (by simp; omega) 3 (.slice A6 (p.rows.length + (i + 1)) c6))
          clear hcp
          go_wp2_with fail
          go_roundw
          case rel => exact ⟨i + 1, by omega, by go_num, ⟨A6, c6, HX1.out, HX2.out⟩, HX3.out, HX4.out, HX5.out⟩
          case measure => simp [intOf]; omega
        · obtain rfl : i = xs.length := by omega
          have hfa : fr.take xs.length = fr := List.take_of_length_le (by rw [HFL.out]; exact Nat.le_refl _)
          rw [hfa] at HRO
          clear hfa x0 x1 x2 x3 hltp
          have HC : Hid (fixCode p xs bs = 0) := by unfold Hid fixCode; rw [if_neg (by simp [HRZ.out]), if_neg (by rw [← HV.out, HD.out]; simp [HQ2.out]), if_neg (by simp [HBT.out]), if_neg q5]
          have HN : Hid (fixedP p xs bs = ⟨p.vars, p.free, p.goal.map fixQ, p.rows.map cleanR ++ fixRows p.vars.toNat xs bs⟩) := by unfold Hid fixedP; rw [if_pos HC.out]
          have HFE : Hid (p.rows.map cleanR ++ fixRows p.vars.toNat xs bs = rq ++ fr) := by unfold Hid; rw [HRQ.out, HFR0.out, ← HV.out]; rfl
          clear q5
          obtain ⟨j0, j1, j2, j3⟩ := (HK.out.blk 0 rfl).c4
          obtain ⟨f0, f1, f2, f3⟩ := (HK.out.blk 0 rfl).f4
          have hlt0 := (HK.out.blk 0 rfl).lt
          go_wp2_with fail
          have hcg := chg_put4 (base := w.heap.size) (HK.out.blk 0 rfl) (by simp) prog_words (.int .i64 (n : Int)) (.slice B1 p.free.length d1) (.slice B2 p.goal.length d2) (.slice A5 (p.rows.length + xs.length) c5)
          rw [HN.out, HC.out, HFE.out]
          exact ret26i Try.results16 rfl rfl ((HK.out.blk 0 rfl).put4 _ _ _ _) ⟨_, rfl, ⟨_, _, _, by show _ = Value.agg #[.int .i64 p.vars, _, _, _]; rw [← HV.out], HI.out, (HFR.out.chg hcg (by decide)).raise (by simp), by show QO _ _ _ (p.goal.map fixQ); rw [← HQG.out]; exact QO.chg HQO.out hcg (by decide), RO.chg HRO.out hcg (by decide) (by decide)⟩, below_put4 HK.out.2 (by simp) _ _ _ _⟩
end Go.Proofs.Ytfhambfgjigneaa
set_option linter.unusedVariables false
set_option linter.unusedSimpArgs false
namespace Go.Proofs.Ytfhambfgjigneaa
open Go.RowKit

theorem distinct_mk {n : Int} {l : List Int} (h : ∀ (j : Nat) (x : Int), l[j]? = some x → 0 ≤ x ∧ x < n ∧ hasB (l.take j) x = false) : distinctB n l = true := by
  unfold distinctB
  refine decide_eq_true ⟨fun x hx => ?_, nodup_take fun i x hi => (h i x hi).2.2⟩
  obtain ⟨j, hj⟩ := List.getElem?_of_mem hx
  exact ⟨(h j x hj).1, (h j x hj).2.1⟩
theorem distinct_no {n : Int} {l : List Int} {j : Nat} {x : Int} (hj : l[j]? = some x) (h : x < 0 ∨ n ≤ x ∨ hasB (l.take j) x = true) : distinctB n l = false := by
  unfold distinctB
  refine decide_eq_false fun hd => ?_
  have hm := hd.1 x (List.mem_of_getElem? hj)
  rcases h with h | h | h
  · omega
  · omega
  · exact not_nodup hj h hd.2
theorem fix_code20 {p : ProgF} {xs bs : List Int} (hr : rightP p = 0) (h : distinctB p.vars xs = false ∨ bitsB bs = false) : fixCode p xs bs = 20 := by
  unfold fixCode
  rw [if_neg (by simp [hr])]
  by_cases q : xs.length ≠ bs.length ∨ distinctB p.vars xs = false
  · rw [if_pos q]
  · rw [if_neg q]
    rcases h with h | h
    · exact absurd (.inr h) q
    · rw [if_pos h]
theorem fix_zero {p : ProgF} {xs bs : List Int} (h : fixCode p xs bs ≠ 0) : fixedP p xs bs = zeroP := by
  unfold fixedP
  rw [if_neg h]
set_option maxHeartbeats 32000000 in
set_option maxRecDepth 100000 in
theorem rfixed_calls (w : World) (v vx vb : Value) (p : ProgF) (xs bs : List Int) (h : PR w v p) (hx : IL w vx xs) (hb : IL w vb bs) (hxl : xs.length ≤ 4000000000000000) (hbl : bs.length ≤ 4000000000000000) (hxi : ∀ x ∈ xs, I64 x) (hbi : ∀ x ∈ bs, I64 x) : Calls Try.prog 17 #[v, vx, vb] w fun e w' => NPost w (fixedP p xs bs) (fixCode p xs bs) e w' := by
  have HP := Lib.hid h
  have HX := Lib.hid hx
  have HBS := Lib.hid hb
  have HXI := Lib.hid hxi
  have HBI := Lib.hid hbi
  obtain ⟨X1, xc, rfl, hxc⟩ := hx.slice
  obtain ⟨Y1, yc, rfl, _⟩ := hb.slice
  obtain ⟨A1, c1, A2, c2, A3, c3, rfl, HI, H1, H2, H3⟩ := h.opened
  clear h hx hb hxi hbi
  obtain ⟨vars, hv⟩ : ∃ n, n = p.vars := ⟨_, rfl⟩
  rw [← hv] at HP ⊢
  have HV := Lib.hid hv
  clear hv
  go_enter Try.func17, Try.ntmps17
  go_wp2_with fail
  have H0 := Lib.hid (HS.two (w := w) #[.int .i64 vars, .slice A1 p.free.length c1, .slice A2 p.goal.length c2, .slice A3 p.rows.length c3] #[.int .i64 0, .slice none 0 0, .slice none 0 0, .slice none 0 0] 26 26)
  have hsz0 : ((w.alloc (.cells #[.int .i64 vars, .slice A1 p.free.length c1, .slice A2 p.goal.length c2, .slice A3 p.rows.length c3] 26)).alloc (.cells #[.int .i64 0, .slice none 0 0, .slice none 0 0, .slice none 0 0] 26)).heap.size = w.heap.size + 2 := by simp
  generalize (w.alloc (.cells #[.int .i64 vars, .slice A1 p.free.length c1, .slice A2 p.goal.length c2, .slice A3 p.rows.length c3] 26)).alloc (.cells #[.int .i64 0, .slice none 0 0, .slice none 0 0, .slice none 0 0] 26) = W0 at *
  have hsz1 : w.heap.size + 2 ≤ W0.heap.size := by omega
  clear hsz0
  refine (r2right_calls W0 _ p (HP.out.of_below H0.out.2)).mono ?_
  rintro e w1 ⟨rfl, hb⟩
  have K1 := Lib.hid (H0.out.step hb)
  obtain ⟨x0, x1, x2, x3⟩ := K1.out.c4 1 rfl
  have hlt1 := (K1.out.blk 1 rfl).lt
  clear hb hsz1 H0
  by_cases q1 : rightP p = 0
  case neg =>
    have u1 : (rightP p != 0) = true := bneI q1
    have HC : Hid (fixCode p xs bs = rightP p) := by unfold Hid fixCode; rw [if_pos q1]
    have HN : Hid (fixedP p xs bs = zeroP) := by unfold Hid fixedP; rw [HC.out, if_neg q1]
    have KK := K1
    clear q1
    obtain ⟨j0, j1, j2, j3⟩ := (KK.out.blk 0 rfl).c4
    obtain ⟨f0, f1, f2, f3⟩ := (KK.out.blk 0 rfl).f4
    have hlt0 := (KK.out.blk 0 rfl).lt
    go_wp2_with fail
    rw [HN.out, HC.out]
    exact ret26i Try.results17 rfl rfl ((KK.out.blk 0 rfl).put4 _ _ _ _) ⟨_, rfl, PO.zero _ _, below_put4 KK.out.2 (by simp) _ _ _ _⟩
  have u1 : (rightP p != 0) = false := beqI q1
  have hrl := rightP_len q1
  have HRZ := Lib.hid q1
  have hlf : p.free.length ≤ 1000 := by have := hrl.1; have := hrl.2.2.2.1; omega
  have hlg : p.goal.length ≤ 1000 := by have := hrl.2.1; have := hrl.2.2.2.1; omega
  have hlr : p.rows.length ≤ 1000 := by have := hrl.2.2.2.2.1; omega
  have HLA : Hid (∀ r ∈ p.rows, r.a.length ≤ 1000) := fun r hr => by have := (hrl.2.2.2.2.2 r hr).1; have := hrl.2.2.2.1; omega
  have HVB : Hid (1 ≤ vars ∧ vars ≤ 160) := by unfold Hid; rw [HV.out]; exact ⟨hrl.2.2.1, hrl.2.2.2.1⟩
  clear q1 hrl
  by_cases q2 : xs.length = bs.length
  case neg =>
    have u2 : (((xs.length : Int)) != (bs.length : Int)) = true := bneI (by omega)
    have HC : Hid (fixCode p xs bs = 20) := by unfold Hid fixCode; rw [if_neg (by simp [HRZ.out]), if_pos (.inl q2)]
    have HN : Hid (fixedP p xs bs = zeroP) := by unfold Hid fixedP; rw [HC.out]; rfl
    have KK := K1
    clear q2
    obtain ⟨j0, j1, j2, j3⟩ := (KK.out.blk 0 rfl).c4
    obtain ⟨f0, f1, f2, f3⟩ := (KK.out.blk 0 rfl).f4
    have hlt0 := (KK.out.blk 0 rfl).lt
    go_wp2_with fail
    rw [HN.out, HC.out]
    exact ret26i Try.results17 rfl rfl ((KK.out.blk 0 rfl).put4 _ _ _ _) ⟨_, rfl, PO.zero _ _, below_put4 KK.out.2 (by simp) _ _ _ _⟩
  have u2 : (((xs.length : Int)) != (bs.length : Int)) = false := beqI (by omega)
  have HQ2 := Lib.hid q2
  clear q2
  go_wp2_with fail
  clear x0 x1 x2 x3 hlt1
  go_loopw [28] (fun vi wr => ∃ i : Nat, i ≤ xs.length ∧ vi = .int .i64 (i : Int) ∧ (∀ (j : Nat) (x : Int), j < i → xs[j]? = some x → 0 ≤ x ∧ x < vars ∧ hasB (xs.take j) x = false) ∧ (∀ (j : Nat) (x : Int), j < i → bs[j]? = some x → x = 0 ∨ x = 1) ∧ HS w [(w.heap.size + 1, 26, #[.int .i64 0, .slice none 0 0, .slice none 0 0, .slice none 0 0]), (w.heap.size, 26, #[.int .i64 vars, .slice A1 p.free.length c1, .slice A2 p.goal.length c2, .slice A3 p.rows.length c3])] wr) (fun vi _ => xs.length - (intOf vi).toNat)
  case atStart => exact ⟨0, Nat.zero_le _, rfl, fun j _ h => absurd h (Nat.not_lt_zero _), fun j _ h => absurd h (Nat.not_lt_zero _), K1.out⟩
  case round =>
    obtain ⟨i, hi, rfl, hal, hall, hs⟩ := hrel
    have HA := Lib.hid hall
    have HAX := Lib.hid hal
    have KK := Lib.hid hs
    clear hall hal hs K1
    obtain ⟨x0, x1, x2, x3⟩ := KK.out.c4 1 rfl
    have hlt1 := (KK.out.blk 1 rfl).lt
    by_cases hlt : i < xs.length
    · obtain ⟨x, hx⟩ : ∃ x, xs[i]? = some x := ⟨xs[i], List.getElem?_eq_getElem hlt⟩
      obtain ⟨y, hy⟩ : ∃ y, bs[i]? = some y := ⟨bs[i]'(by rw [← HQ2.out]; exact hlt), List.getElem?_eq_getElem _⟩
      obtain ⟨gx, ox, rfl, hgx, k0⟩ := IL.at1 (HX.out.below EI.stays KK.out.2) hx
      obtain ⟨gy, oy, rfl, hgy, k1⟩ := IL.at1 (HBS.out.below EI.stays KK.out.2) hy
      have HX1 := Lib.hid hx
      have HY1 := Lib.hid hy
      clear hx hy
      have m1 : (i : Int) < (xs.length : Int) := by omega
      have m2 : (i : Int) < (bs.length : Int) := by have := HQ2.out; omega
      have m3 : (i : Int).toNat = i := by omega
      have m4 : (0 : Int) ≤ (i : Int) := by omega
      by_cases q3 : x < 0
      · have q3' : decide (x < 0) = true := decide_eq_true q3
        have HC : Hid (fixCode p xs bs = 20) := fix_code20 HRZ.out (.inl (distinct_no HX1.out (.inl q3)))
        have HN : Hid (fixedP p xs bs = zeroP) := fix_zero (by rw [HC.out]; decide)
        clear q3
        obtain ⟨j0, j1, j2, j3⟩ := (KK.out.blk 0 rfl).c4
        obtain ⟨f0, f1, f2, f3⟩ := (KK.out.blk 0 rfl).f4
        have hlt0 := (KK.out.blk 0 rfl).lt
        go_wp2_with fail
        rw [HN.out, HC.out]
        exact ret26i Try.results17 rfl rfl ((KK.out.blk 0 rfl).put4 _ _ _ _) ⟨_, rfl, PO.zero _ _, below_put4 KK.out.2 (by simp) _ _ _ _⟩
      have q3' : decide (x < 0) = false := decide_eq_false q3
      have q3'' : 0 ≤ x := by omega
      by_cases q4 : vars ≤ x
      · have q4' : decide (vars ≤ x) = true := decide_eq_true q4
        have HC : Hid (fixCode p xs bs = 20) := fix_code20 HRZ.out (.inl (distinct_no HX1.out (.inr (.inl (by rw [← HV.out]; exact q4)))))
        have HN : Hid (fixedP p xs bs = zeroP) := fix_zero (by rw [HC.out]; decide)
        clear q3 q4 q3''
        obtain ⟨j0, j1, j2, j3⟩ := (KK.out.blk 0 rfl).c4
        obtain ⟨f0, f1, f2, f3⟩ := (KK.out.blk 0 rfl).f4
        have hlt0 := (KK.out.blk 0 rfl).lt
        go_wp2_with fail
        rw [HN.out, HC.out]
        exact ret26i Try.results17 rfl rfl ((KK.out.blk 0 rfl).put4 _ _ _ _) ⟨_, rfl, PO.zero _ _, below_put4 KK.out.2 (by simp) _ _ _ _⟩
      have q4' : decide (vars ≤ x) = false := decide_eq_false q4
      have q4'' : x < vars := by omega
      clear q3 q4
      go_wp2_with fail
      refine (has_calls _ _ (xs.take i) x (SL.take (HX.out.below EI.stays KK.out.2) i (Nat.le_of_lt hlt) (Nat.le_trans (Nat.le_of_lt hlt) hxc)) (by rw [List.length_take]; omega)).mono ?_
      rintro e w2 ⟨rfl, hb⟩
      have K2 := Lib.hid (KK.out.step hb)
      have k1' : w2.cell? ⟨gy, oy + i, none⟩ = some (.int .i64 y) := by rw [(bcell hb).1 gy _ hgy]; exact k1
      clear hb x0 x1 x2 x3 hlt1 k0 k1
      obtain ⟨x0, x1, x2, x3⟩ := K2.out.c4 1 rfl
      have hlt1 := (K2.out.blk 1 rfl).lt
      cases hh : hasB (xs.take i) x
      case true =>
        have HC : Hid (fixCode p xs bs = 20) := fix_code20 HRZ.out (.inl (distinct_no HX1.out (.inr (.inr hh))))
        have HN : Hid (fixedP p xs bs = zeroP) := fix_zero (by rw [HC.out]; decide)
        have KK := K2
        clear hh
        obtain ⟨j0, j1, j2, j3⟩ := (KK.out.blk 0 rfl).c4
        obtain ⟨f0, f1, f2, f3⟩ := (KK.out.blk 0 rfl).f4
        have hlt0 := (KK.out.blk 0 rfl).lt
        go_wp2_with fail
        rw [HN.out, HC.out]
        exact ret26i Try.results17 rfl rfl ((KK.out.blk 0 rfl).put4 _ _ _ _) ⟨_, rfl, PO.zero _ _, below_put4 KK.out.2 (by simp) _ _ _ _⟩
      have HH := Lib.hid hh
      clear hh
      by_cases q5 : y = 0 ∨ y = 1
      · have HQ3 := Lib.hid q5
        have HNX : Hid (∀ (j : Nat) (z : Int), j < i + 1 → bs[j]? = some z → z = 0 ∨ z = 1) := fun j z hj hz => by
          by_cases hji : j = i
          · rw [hji, HY1.out] at hz
            injection hz with e
            rw [← e]
            exact HQ3.out
          · exact HA.out j z (by omega) hz
        have HNY : Hid (∀ (j : Nat) (z : Int), j < i + 1 → xs[j]? = some z → 0 ≤ z ∧ z < vars ∧ hasB (xs.take j) z = false) := fun j z hj hz => by
          by_cases hji : j = i
          · rw [hji, HX1.out] at hz
            injection hz with e
            rw [← e, hji]
            exact ⟨q3'', q4'', HH.out⟩
          · exact HAX.out j z (by omega) hz
        rcases q5 with q5 | q5
        · have u3 : (y != 0) = false := beqI q5
          clear q5
          go_wp2_with fail
          go_roundw
          case rel => exact ⟨i + 1, by omega, by go_num, HNY.out, HNX.out, K2.out⟩
          case measure => simp [intOf]; omega
        · have u3 : (y != 0) = true := bneI (by omega)
          have u4 : (y != 1) = false := beqI q5
          clear q5
          go_wp2_with fail
          go_roundw
          case rel => exact ⟨i + 1, by omega, by go_num, HNY.out, HNX.out, K2.out⟩
          case measure => simp [intOf]; omega
      · have u3 : (y != 0) = true := bneI (by omega)
        have u4 : (y != 1) = true := bneI (by omega)
        have hbf : bitsB bs = false := by
          unfold bitsB
          rw [List.all_eq_false]
          exact ⟨y, List.mem_of_getElem? HY1.out, by simpa using q5⟩
        have HC : Hid (fixCode p xs bs = 20) := fix_code20 HRZ.out (.inr hbf)
        have HN : Hid (fixedP p xs bs = zeroP) := fix_zero (by rw [HC.out]; decide)
        have KK := K2
        clear q5 hbf
        obtain ⟨j0, j1, j2, j3⟩ := (KK.out.blk 0 rfl).c4
        obtain ⟨f0, f1, f2, f3⟩ := (KK.out.blk 0 rfl).f4
        have hlt0 := (KK.out.blk 0 rfl).lt
        go_wp2_with fail
        rw [HN.out, HC.out]
        exact ret26i Try.results17 rfl rfl ((KK.out.blk 0 rfl).put4 _ _ _ _) ⟨_, rfl, PO.zero _ _, below_put4 KK.out.2 (by simp) _ _ _ _⟩
    · obtain rfl : i = xs.length := by omega
      have hbt : bitsB bs = true := by
        unfold bitsB
        rw [List.all_eq_true]
        intro x hx
        obtain ⟨j, hj⟩ := List.getElem?_of_mem hx
        exact decide_eq_true (HA.out j x (by rw [HQ2.out]; exact (List.getElem?_eq_some_iff.1 hj).1) hj)
      have HBT := Lib.hid hbt
      have HD := Lib.hid (distinct_mk (n := vars) (l := xs) fun j x hj => HAX.out j x (List.getElem?_eq_some_iff.1 hj).1 hj)
      clear hbt
      by_cases q5 : 400 < p.rows.length + xs.length
      · have m5 : (400 : Int) < (p.rows.length : Int) + (xs.length : Int) := by omega
        have HC : Hid (fixCode p xs bs = 1) := by unfold Hid fixCode; rw [if_neg (by simp [HRZ.out]), if_neg (by rw [← HV.out, HD.out]; simp [HQ2.out]), if_neg (by simp [HBT.out]), if_pos q5]
        have HN : Hid (fixedP p xs bs = zeroP) := by unfold Hid fixedP; rw [HC.out]; rfl
        clear q5
        obtain ⟨j0, j1, j2, j3⟩ := (KK.out.blk 0 rfl).c4
        obtain ⟨f0, f1, f2, f3⟩ := (KK.out.blk 0 rfl).f4
        have hlt0 := (KK.out.blk 0 rfl).lt
        go_wp2_with fail
        rw [HN.out, HC.out]
        exact ret26i Try.results17 rfl rfl ((KK.out.blk 0 rfl).put4 _ _ _ _) ⟨_, rfl, PO.zero _ _, below_put4 KK.out.2 (by simp) _ _ _ _⟩
      have m5 : ¬ ((400 : Int) < (p.rows.length : Int) + (xs.length : Int)) := by omega
      go_wp2_with fail
      refine (rclean_v wr vars _ _ _ _ _ _ p HV.out (HP.out.of_below KK.out.2) hlf hlg hlr HLA.out).mono ?_
      rintro e w2 ⟨v2, v3, rfl, hq, hro, hb⟩
      rw [show (cleanQ p).vars = vars from HV.out.symm]
      have hq' : QO w.heap.size w2 v2 (p.goal.map fixQ) := hq.lower KK.out.2.size
      have hro' : RO w.heap.size w2 v3 (p.rows.map cleanR) := RO.lower hro KK.out.2.size
      obtain ⟨B2, d2, ev2, _⟩ := hq'.slice
      rw [List.length_map] at ev2
      subst ev2
      obtain ⟨B3, d3, ev3, _⟩ := OL.slice hro'
      rw [List.length_map] at ev3
      subst ev3
      have K2 := Lib.hid (KK.out.step hb)
      have hfr' : FrO w.heap.size w2 (.slice A1 p.free.length c1) p.free := (FrO.old H1.out).below K2.out.2
      have hsz3 : w.heap.size + 2 ≤ w2.heap.size := by have : w.heap.size + 1 < w2.heap.size := (K2.out.blk 0 rfl).lt; omega
      obtain ⟨x0, x1, x2, x3⟩ := K2.out.c4 1 rfl
      have hlt2 := (K2.out.blk 1 rfl).lt
      clear hq hro hb
      go_wp2_with fail
      have hbn := below_new w2 (.cells #[.int .i64 vars, .slice A1 p.free.length c1, .slice B2 p.goal.length d2, .slice B3 p.rows.length d3] 26)
      have HBc := Lib.hid (Blk.new w2 26 #[.int .i64 vars, .slice A1 p.free.length c1, .slice B2 p.goal.length d2, .slice B3 p.rows.length d3])
      have HFc := Lib.hid (hfr'.below hbn)
      have HQc := Lib.hid (OL.below EFQ.stays hq' hbn)
      have HRc := Lib.hid (OL.below ERO.stays hro' hbn)
      have HSc := Lib.hid (K2.out.step hbn)
      obtain ⟨gq, hgq⟩ : ∃ g, g = w2.heap.size := ⟨_, rfl⟩
      rw [← hgq] at HBc
      have hgq2 : w.heap.size + 2 ≤ gq := by omega
      generalize w2.alloc (.cells #[.int .i64 vars, .slice A1 p.free.length c1, .slice B2 p.goal.length d2, .slice B3 p.rows.length d3] 26) = Wc at *
      rw [← hgq]
      clear hgq hbn hfr' hq' hro' x0 x1 x2 x3 hlt2 K2 hsz3
      obtain ⟨n, rfl⟩ : ∃ n : Nat, vars = n := ⟨vars.toNat, by have := HVB.out.1; omega⟩
      have hn2 : n ≤ 160 := by have := HVB.out.2; omega
      obtain ⟨qg, hqg⟩ : ∃ q, q = p.goal.map fixQ := ⟨_, rfl⟩
      rw [← hqg] at HQc
      have HQG := Lib.hid hqg
      obtain ⟨rq, hrq⟩ : ∃ q, q = p.rows.map cleanR := ⟨_, rfl⟩
      rw [← hrq] at HRc
      have HRQ := Lib.hid hrq
      have HRL : Hid (rq.length = p.rows.length) := by unfold Hid; rw [hrq, List.length_map]
      obtain ⟨fr, hfr⟩ : ∃ q, q = fixRows n xs bs := ⟨_, rfl⟩
      have HFR0 := Lib.hid hfr
      have HFL : Hid (fr.length = xs.length) := by unfold Hid; rw [hfr]; unfold fixRows; rw [List.length_map, List.length_zip, HQ2.out]; simp
      clear hqg hrq hfr m5 KK HA
      go_loopw [76] (fun vi wr => ∃ i : Nat, i ≤ xs.length ∧ vi = .int .i64 (i : Int) ∧ (∃ A5 c5, Blk wr gq 26 #[.int .i64 (n : Int), .slice A1 p.free.length c1, .slice B2 p.goal.length d2, .slice A5 (p.rows.length + i) c5] ∧ RO w.heap.size wr (.slice A5 (p.rows.length + i) c5) (rq ++ fr.take i)) ∧ FrO w.heap.size wr (.slice A1 p.free.length c1) p.free ∧ QO w.heap.size wr (.slice B2 p.goal.length d2) qg ∧ HS w [(w.heap.size + 1, 26, #[.int .i64 0, .slice none 0 0, .slice none 0 0, .slice none 0 0]), (w.heap.size, 26, #[.int .i64 (n : Int), .slice A1 p.free.length c1, .slice A2 p.goal.length c2, .slice A3 p.rows.length c3])] wr) (fun vi _ => xs.length - (intOf vi).toNat)
      case atStart => exact ⟨0, Nat.zero_le _, rfl, ⟨B3, d3, HBc.out, by rw [List.take_zero, List.append_nil]; exact HRc.out⟩, HFc.out, HQc.out, HSc.out⟩
      case round =>
        obtain ⟨i, hi, rfl, ⟨A5, c5, hbq, hro⟩, hfr, hqo, hs⟩ := hrel
        have HBQ := Lib.hid hbq
        have HRO := Lib.hid hro
        have HFR := Lib.hid hfr
        have HQO := Lib.hid hqo
        have HK := Lib.hid hs
        clear hbq hro hfr hqo hs HBc HFc HQc HSc HRc
        obtain ⟨x0, x1, x2, x3⟩ := HK.out.c4 1 rfl
        have hltp := (HK.out.blk 1 rfl).lt
        obtain ⟨i0, i1, i2, i3⟩ := HBQ.out.c4
        have hltq := HBQ.out.lt
        by_cases hlt : i < xs.length
        · obtain ⟨x, hx⟩ : ∃ x, xs[i]? = some x := ⟨xs[i], List.getElem?_eq_getElem hlt⟩
          obtain ⟨y, hy⟩ : ∃ y, bs[i]? = some y := ⟨bs[i]'(by rw [← HQ2.out]; exact hlt), List.getElem?_eq_getElem _⟩
          obtain ⟨gx, ox, rfl, hgx, k0⟩ := IL.at1 (HX.out.below EI.stays HK.out.2) hx
          obtain ⟨gy, oy, rfl, hgy, k1⟩ := IL.at1 (HBS.out.below EI.stays HK.out.2) hy
          have hxr : 0 ≤ x ∧ x < (n : Int) := by
            have := HD.out
            unfold distinctB at this
            exact (of_decide_eq_true this).1 x (List.mem_of_getElem? hx)
          have hyi := HBI.out y (List.mem_of_getElem? hy)
          have HNX : Hid (rq ++ fr.take (i + 1) = rq ++ fr.take i ++ [unitQ n x 0 y]) := by
            unfold Hid
            rw [List.take_add_one, HFR0.out]
            unfold fixRows
            rw [List.getElem?_map, (List.getElem?_zip_eq_some (z := (x, y))).2 ⟨hx, hy⟩, List.append_assoc]
            rfl
          have hrl : (rq ++ fr.take i).length ≤ 1000000000 := by rw [List.length_append, HRL.out, List.length_take, HFL.out]; omega
          have m1 : (i : Int) < (xs.length : Int) := by omega
          have m2 : (i : Int) < (bs.length : Int) := by have := HQ2.out; omega
          have m3 : (i : Int).toNat = i := by omega
          have m4 : (0 : Int) ≤ (i : Int) := by omega
          clear hx hy
          go_wp2_with fail
          refine wp_chainF (l := [_, _, _, _, _, _, _, _, _, _, _, _, _, _]) (S := Below wr.heap.size wr) 11 [([0, 1, 2, 3, 4, 5, 6, 7, 8], 9), ([], 10)] [] (by kernel_rfl) (by kernel_rfl) (by kernel_rfl) rfl (Below.drew (Below.refl _ _)) ?_
          refine ⟨?_, _, ?_, rfl, ?_⟩
          rotate_left
          · repeat (refine ⟨_, ?_, rfl, Or.inl ⟨by rfl, ?_⟩, ?_⟩; rotate_left; focus (intro W hW; have hcW := (bcell hW).1; clear hW; go_simp; try with_reducible rfl); (try simp only [Act.put, List.getElem_toArray, List.getElem_cons_succ, List.getElem_cons_zero, List.setIfInBounds_toArray, List.set_cons_zero, List.set_cons_succ]))
            exact rfl
          have D0 : Hid (Below wr.heap.size wr wr.drew) := Below.drew (Below.refl _ _)
          go_wp2_with fail
          refine (runit_calls _ n x 0 y (by omega) (by unfold I64; omega) hyi.1 (by have := hyi.2; omega)).mono ?_
          rintro e W3 ⟨vs, rfl, her, hb⟩
          obtain ⟨v5, C5, n5, e5, C6, n6, e6, rfl, HIS, hqa, hfb⟩ := her
          have HQA := Lib.hid (hqa.lower (base' := w.heap.size) (Nat.le_trans HK.out.2.size D0.out.size))
          obtain ⟨C4, e4, rfl, _⟩ := hqa.slice
          have HV3 := Lib.hid hfb
          have D3 := Lib.hid (below_next D0.out hb)
          clear hqa hfb hb
          go_wp2_with fail
          refine And.intro D3.out ⟨_, _, rfl, rfl, ?_⟩
          go_wp2_with fail
          have HL4 := Lib.hid (Blk.new W3 65 #[.slice C4 (unitQ n x 0 y).a.length e4, .int .i64 (unitQ n x 0 y).s, .bool (negQ (unitQ n x 0 y).b), .slice C5 n5 e5, .slice C6 n6 e6])
          have hbn := below_new W3 (.cells #[.slice C4 (unitQ n x 0 y).a.length e4, .int .i64 (unitQ n x 0 y).s, .bool (negQ (unitQ n x 0 y).b), .slice C5 n5 e5, .slice C6 n6 e6] 65)
          have D4 := Lib.hid (below_next D3.out hbn)
          have HQ4 := Lib.hid (HQA.out.below EFQ.stays hbn)
          have HV4 := Lib.hid (HV3.out.of_below hbn)
          obtain ⟨gl, hgl⟩ : ∃ g, g = W3.heap.size := ⟨_, rfl⟩
          rw [← hgl] at HL4 ⊢
          generalize W3.alloc (.cells #[.slice C4 (unitQ n x 0 y).a.length e4, .int .i64 (unitQ n x 0 y).s, .bool (negQ (unitQ n x 0 y).b), .slice C5 n5 e5, .slice C6 n6 e6] 65) = W4 at *
          clear hgl hbn
          refine And.intro D4.out ⟨_, rfl, ?_⟩
          have HBQ4 := Lib.hid (HBQ.out.below D4.out HBQ.out.lt)
          have HRO4 := Lib.hid (HRO.out.below ERO.stays D4.out)
          have HFR4 := Lib.hid (HFR.out.below D4.out)
          have HQO4 := Lib.hid (HQO.out.below EFQ.stays D4.out)
          have HK4 := Lib.hid (HK.out.step D4.out)
          have hbase4 : w.heap.size ≤ W4.heap.size := HK4.out.2.size
          have HER : Hid (ERO w.heap.size W4 #[.slice C4 (unitQ n x 0 y).a.length e4, .int .i64 (unitQ n x 0 y).s, .bool (negQ (unitQ n x 0 y).b), .slice C5 n5 e5, .slice C6 n6 e6] (unitQ n x 0 y)) := ⟨_, _, _, _, _, _, _, rfl, HIS, HQ4.out, HV4.out⟩
          have HRL2 : Hid ((rq ++ fr.take (i + 1)).length = p.rows.length + (i + 1)) := by unfold Hid; rw [List.length_append, HRL.out, List.length_take, HFL.out]; omega
          simp only [Act.put, List.getElem_toArray, List.getElem_cons_succ, List.getElem_cons_zero, List.setIfInBounds_toArray, List.set_cons_zero, List.set_cons_succ, List.drop_succ_cons, List.drop_zero]
          clear i0 i1 i2 i3 x0 x1 x2 x3
          go_wp2_with (at_builtin; refine wpl_appendR5 rfl (.tmp 82) (.tmp 91) rfl (base := w.heap.size) (.slice A5 (p.rows.length + i) c5) (rq ++ fr.take i) rfl HRO4.out (unitQ n x 0 y) rfl HL4.out HER.out hrl hbase4 ?_; intro v6 W6 hro6 hcg6 hw6 hob6; obtain ⟨A6, c6, hv6, _⟩ := hro6.slice; rw [← HNX.out] at hro6 hv6; rw [HRL2.out] at hv6; subst hv6; have HRO6 := Lib.hid hro6; have HBQ6 := Lib.hid (HBQ4.out.chg hcg6 (by decide)); have HFR6 := Lib.hid (HFR4.out.chg hcg6 (by decide)); have HQO6 := Lib.hid (QO.chg HQO4.out hcg6 (by decide)); have HK6 := Lib.hid (HS.chg HK4.out hcg6 (by simp) rfl hw6); obtain ⟨i0, i1, i2, i3⟩ := HBQ6.out.c4; obtain ⟨f0, f1, f2, f3⟩ := HBQ6.out.f4; have hltq6 := HBQ6.out.lt; clear hro6 hcg6 hw6 hob6)
          refine NoPanic.normal ?_
          have hcp := chg_put1 (base := w.heap.size) (j := 3) HBQ6.out (by omega) prog_words (.slice A6 (p.rows.length + (i + 1)) c6)
          have HX1 := Lib.hid (HBQ6.out.put 3 (.slice A6 (p.rows.length + (i + 1)) c6))
          have HX2 := Lib.hid (RO.chg HRO6.out hcp (by decide) (by decide))
          have HX3 := Lib.hid (HFR6.out.chg hcp (by decide))
          have HX4 := Lib.hid (QO.chg HQO6.out hcp (by decide))
          have HX5 := Lib.hid (HK6.out.other1 (g := gq) (by omega) (by simp; omega) 3 (.slice A6 (p.rows.length + (i + 1)) c6))
          clear hcp
          go_wp2_with fail
          go_roundw
          case rel => exact ⟨i + 1, by omega, by go_num, ⟨A6, c6, HX1.out, HX2.out⟩, HX3.out, HX4.out, HX5.out⟩
          case measure => simp [intOf]; omega
        · obtain rfl : i = xs.length := by omega
          have hfa : fr.take xs.length = fr := List.take_of_length_le (by rw [HFL.out]; exact Nat.le_refl _)
          rw [hfa] at HRO
          clear hfa x0 x1 x2 x3 hltp
          have HC : Hid (fixCode p xs bs = 0) := by unfold Hid fixCode; rw [if_neg (by simp [HRZ.out]), if_neg (by rw [← HV.out, HD.out]; simp [HQ2.out]), if_neg (by simp [HBT.out]), if_neg q5]
          have HN : Hid (fixedP p xs bs = ⟨p.vars, p.free, p.goal.map fixQ, p.rows.map cleanR ++ fixRows p.vars.toNat xs bs⟩) := by unfold Hid fixedP; rw [if_pos HC.out]
          have HFE : Hid (p.rows.map cleanR ++ fixRows p.vars.toNat xs bs = rq ++ fr) := by unfold Hid; rw [HRQ.out, HFR0.out, ← HV.out]; rfl
          clear q5
          obtain ⟨j0, j1, j2, j3⟩ := (HK.out.blk 0 rfl).c4
          obtain ⟨f0, f1, f2, f3⟩ := (HK.out.blk 0 rfl).f4
          have hlt0 := (HK.out.blk 0 rfl).lt
          go_wp2_with fail
          have hcg := chg_put4 (base := w.heap.size) (HK.out.blk 0 rfl) (by simp) prog_words (.int .i64 (n : Int)) (.slice A1 p.free.length c1) (.slice B2 p.goal.length d2) (.slice A5 (p.rows.length + xs.length) c5)
          rw [HN.out, HC.out, HFE.out]
          exact ret26i Try.results17 rfl rfl ((HK.out.blk 0 rfl).put4 _ _ _ _) ⟨_, rfl, ⟨_, _, _, by show _ = Value.agg #[.int .i64 p.vars, _, _, _]; rw [← HV.out], HI.out, HFR.out.chg hcg (by decide), by show QO _ _ _ (p.goal.map fixQ); rw [← HQG.out]; exact QO.chg HQO.out hcg (by decide), RO.chg HRO.out hcg (by decide) (by decide)⟩, below_put4 HK.out.2 (by simp) _ _ _ _⟩
end Go.Proofs.Ytfhambfgjigneaa
set_option linter.unusedVariables false
set_option linter.unusedSimpArgs false
namespace Go.Proofs.Ytfhambfgjigneaa
open Go.RowKit
abbrev OB (base : Nat) (w : World) (v : Value) (bs : List Bool) : Prop := OL 1 4 EB base w v bs
theorem OB.chg {base t : Nat} {w w1 : World} {v : Value} {bs : List Bool} (h : OB base w v bs) (hc : Chg base t w w1) (hne : 4 ≠ t) : OB base w1 v bs := by
  obtain ⟨xs, h1, h2⟩ := h
  refine ⟨xs, h1.chg hc hne, fun j a hj => ?_⟩
  obtain ⟨vs, h3, h4, h5⟩ := h2 j a hj
  exact ⟨vs, h3, h4, h5⟩
theorem OB.fr {base b0 : Nat} {w : World} {v : Value} {bs : List Bool} (h : OB base w v bs) : FrO b0 w v bs := by
  refine ⟨OL.sl h, fun g hg hl => .inr ?_⟩
  obtain ⟨xs, h1, _⟩ := h
  rcases h1.2 with ⟨rfl, _⟩ | ⟨g', cap, cur, rfl, _, hb, _⟩
  · simp [Value.ownBlock] at hg
  · simp only [Value.ownBlock] at hg
    injection hg with hg
    subst hg
    exact ⟨cur, hb⟩
theorem QO.changes {base : Nat} {w w1 : World} {v : Value} {qs : List Rat} (h : QO base w v qs) (hg : w.grownBy w1 v.ownBlock) (hk : Keeps w w1) : Chg base 40 w w1 := by
  obtain ⟨xs, h1, _⟩ := h
  exact h1.changes hg hk
/-- 'append(bs, b)' where bs is a list of the call's own. -/
theorem wpl_appendB {ops : Array Oper} {rest : List Oper} {o : Oper} {a : Act} {Q : Exit → Act → World → Prop} {W : World} (hgd : o.guard = none) (s x : Operand) (ho : o.op = .call { callee := .builtin .append, args := #[s, x], argTypes := #[22, 22] }) {base : Nat}
    (v : Value) (bs : List Bool) (hs : a.eval s = v) (hown : OB base W v bs) {g : Nat} (b : Bool) (hx : a.eval x = .slice (some ⟨g, 0, none⟩) 1 1) (hk : Blk W g 4 #[.bool b])
    (hl : bs.length ≤ 1000000000) (hbase : base ≤ W.heap.size)
    (h : ∀ v' w', OB base w' v' (bs ++ [b]) → Chg base 4 W w' → (W.os = w'.os ∧ W.tape = w'.tape ∧ W.output = w'.output) → wpList Try.prog ops Q rest (a.put o.dst v') w') : wpList Try.prog ops Q (o :: rest) a W := by
  obtain ⟨xs, h1, h2⟩ := hown
  refine wpl_appendR hgd s x 22 ho (base := base) (.bool false) 1 Try.underlying22 info4 rfl (by intro u hu; simp [Value.cells] at hu; subst hu; rfl) v bs.length xs hs h1 ⟨g, 0, none⟩ 1 1 [.bool b] hx rfl (lit_cells hk) (by intro u hu; simp at hu; subst hu; rfl) (by intro u hu; simp at hu; subst hu; rfl) (by decide) (by omega) (by omega) hbase fun v' w' h3 h4 h5 h6 => h v' w' ?_ (h1.changes h4 h5) ⟨h4.os.symm, h4.tape.symm, h4.output.symm⟩
  exact OL.pushT (fun _ _ _ _ h _ => h) (k := 1) (e := 4) (vs := #[.bool b]) h1 h2 rfl rfl (h1.changes h4 h5) h3
/-- 'append(l, f)' as wpl_appendQ, told by what changes. -/
theorem wpl_appendQ2 {ops : Array Oper} {rest : List Oper} {o : Oper} {a : Act} {Q : Exit → Act → World → Prop} {W : World} (hgd : o.guard = none) (s x : Operand) (ho : o.op = .call { callee := .builtin .append, args := #[s, x], argTypes := #[23, 23] }) {base : Nat}
    (v : Value) (fs : List Rat) (hs : a.eval s = v) (hown : QO base W v fs) {g : Nat} {b : Bool} {A1 A2 : Option Addr} {n1 c1 n2 c2 : Nat} (f : Rat) (hx : a.eval x = .slice (some ⟨g, 0, none⟩) 1 1) (hk : Blk W g 40 #[.bool b, .slice A1 n1 c1, .slice A2 n2 c2]) (hf : FQ W (.agg #[.bool b, .slice A1 n1 c1, .slice A2 n2 c2]) f)
    (hl : fs.length ≤ 1000000000) (hbase : base ≤ W.heap.size)
    (h : ∀ v' w', QO base w' v' (fs ++ [f]) → Chg base 40 W w' → (W.os = w'.os ∧ W.tape = w'.tape ∧ W.output = w'.output) → wpList Try.prog ops Q rest (a.put o.dst v') w') : wpList Try.prog ops Q (o :: rest) a W :=
  wpl_appendQ hgd s x ho v fs hs hown f hx hk hf hl hbase fun v' w' h3 h4 h5 _ => h v' w' h3 (QO.changes hown h4 h5) ⟨h4.os.symm, h4.tape.symm, h4.output.symm⟩
theorem OB.lower {w : World} {base base' : Nat} {v : Value} {bs : List Bool} (h : OB base w v bs) (hb : base' ≤ base) : OB base' w v bs := by
  obtain ⟨xs, h1, h2⟩ := h
  exact ⟨xs, h1.lower hb, h2⟩
theorem QO.at3 {base : Nat} {w : World} {A : Option Addr} {n c : Nat} {qs : List Rat} (h : QO base w (.slice A n c) qs) {j : Nat} {q : Rat} (hj : qs[j]? = some q) :
    ∃ g o A1 n1 c1 A2 n2 c2, A = some ⟨g, o, none⟩ ∧ g < w.heap.size ∧ w.cell? ⟨g, o + j * 3, none⟩ = some (.bool (negQ q)) ∧ w.cell? ⟨g, o + j * 3 + 1, none⟩ = some (.slice A1 n1 c1) ∧ w.cell? ⟨g, o + j * 3 + 2, none⟩ = some (.slice A2 n2 c2) ∧ Hid (FQ w (.agg #[.bool (negQ q), .slice A1 n1 c1, .slice A2 n2 c2]) q) := by
  obtain ⟨g, o, vs, e, hg, hs, hc, hf⟩ := (OL.sl h).at_ hj
  have hf' : FQ w (.agg vs) q := hf
  obtain ⟨A1, n1, c1, A2, n2, c2, e2, H⟩ := hf'.opened
  injection e2 with e2
  subst e2
  exact ⟨g, o, A1, n1, c1, A2, n2, c2, e, hg, hc 0 _ rfl, hc 1 _ rfl, hc 2 _ rfl, H⟩
def dualRow (n : ProgQ) (v : Nat) : RowQ := ⟨n.rows.map fun r => -(r.a.getD v 0), if n.free.getD v false = true then 0 else -1, -(n.goal.getD v 0)⟩
def dualQ (n : ProgQ) : ProgQ := ⟨n.rows.length, n.rows.map fun r => r.s == 0, n.rows.map fun r => -r.b, (List.range n.goal.length).map (dualRow n)⟩
noncomputable def dualCode (p : ProgF) : Int := if rightP p ≠ 0 then rightP p else if p.rows.length = 0 then 20 else if 160 < p.rows.length then 1 else 0
noncomputable def dualP (p : ProgF) : ProgQ := if dualCode p = 0 then dualQ (normalR p) else zeroP
theorem small_normal (p : ProgF) : SmallP (normalR p) := by
  unfold normalR
  split
  · exact small_norm (small_clean p)
  · exact ⟨by intro q h; simp [zeroP] at h, by intro r h; simp [zeroP] at h⟩
structure DualN (n : ProgQ) (k m : Nat) : Prop where
  vars : n.vars = (k : Int)
  free : n.free.length = k
  goal : n.goal.length = k
  rows : n.rows.length = m
  a : ∀ r ∈ n.rows, r.a.length = k
  k1 : k ≤ 160
  m1 : m ≤ 400
theorem dual_n {p : ProgF} (h : rightP p = 0) : DualN (normalR p) p.vars.toNat p.rows.length := by
  obtain ⟨h1, h2, h3, h4, h5, h6⟩ := rightP_len h
  have e : normalR p = normQ (cleanQ p) := if_pos h
  rw [e]
  refine ⟨by show p.vars = _; omega, by show p.free.length = _; omega, ?_, ?_, fun r hr => ?_, by omega, h5⟩
  · show (p.goal.map fixQ).length = _
    rw [List.length_map]; omega
  · show ((p.rows.map cleanR).map normR).length = _
    rw [List.length_map, List.length_map]
  · obtain ⟨r1, hr1, rfl⟩ := List.mem_map.1 hr
    obtain ⟨r2, hr2, rfl⟩ := List.mem_map.1 hr1
    have h7 := (h6 r2 hr2).1
    unfold normR
    split
    · simp only [cleanR, List.length_map]; omega
    · simp only [cleanR, List.length_map]; omega
set_option maxHeartbeats 32000000 in
set_option maxRecDepth 100000 in
theorem pdual_calls (w : World) (v : Value) (p : ProgF) (h : PR w v p) : Calls Try.prog 14 #[v] w fun e w' => NPost w (dualP p) (dualCode p) e w' := by
  have HP := Lib.hid h
  obtain ⟨A1, c1, A2, c2, A3, c3, rfl, HI, H1, H2, H3⟩ := h.opened
  clear h
  obtain ⟨vars, hv⟩ : ∃ n, n = p.vars := ⟨_, rfl⟩
  rw [← hv] at HP ⊢
  have HV := Lib.hid hv
  clear hv
  go_enter Try.func14, Try.ntmps14
  go_wp2_with fail
  have H0 := Lib.hid (HS.two (w := w) #[.int .i64 vars, .slice A1 p.free.length c1, .slice A2 p.goal.length c2, .slice A3 p.rows.length c3] #[.int .i64 0, .slice none 0 0, .slice none 0 0, .slice none 0 0] 26 26)
  generalize (w.alloc (.cells #[.int .i64 vars, .slice A1 p.free.length c1, .slice A2 p.goal.length c2, .slice A3 p.rows.length c3] 26)).alloc (.cells #[.int .i64 0, .slice none 0 0, .slice none 0 0, .slice none 0 0] 26) = W0 at *
  refine (pnormal_calls W0 _ p (HP.out.of_below H0.out.2)).mono ?_
  rintro e w1 ⟨v1, rfl, hpo, hb⟩
  have KK := Lib.hid (H0.out.step hb)
  clear hb
  by_cases q1 : rightP p = 0
  case neg =>
    obtain ⟨B1, d1, B2, d2, B3, d3, rfl, HI2, HF, HG, HR⟩ := hpo.opened
    clear hpo
    have u1 : (rightP p != 0) = true := bneI q1
    have HC : Hid (dualCode p = rightP p) := by unfold Hid dualCode; rw [if_pos q1]
    have HN : Hid (dualP p = zeroP) := by unfold Hid dualP; rw [HC.out, if_neg q1]
    clear q1
    obtain ⟨j0, j1, j2, j3⟩ := (KK.out.blk 0 rfl).c4
    obtain ⟨f0, f1, f2, f3⟩ := (KK.out.blk 0 rfl).f4
    have hlt0 := (KK.out.blk 0 rfl).lt
    go_wp2_with fail
    rw [HN.out, HC.out]
    exact ret26i Try.results14 rfl rfl (((KK.out.blk 0 rfl).put4 _ _ _ _).below (below_new _ _) ((KK.out.blk 0 rfl).put4 _ _ _ _).lt) ⟨_, rfl, PO.zero _ _, below_next (below_put4 KK.out.2 (by simp) _ _ _ _) (below_new _ _)⟩
  have u1 : (rightP p != 0) = false := beqI q1
  have HRZ := Lib.hid q1
  obtain ⟨k, hk⟩ : ∃ k, k = p.vars.toNat := ⟨_, rfl⟩
  obtain ⟨m, hm⟩ : ∃ m, m = p.rows.length := ⟨_, rfl⟩
  obtain ⟨nq, hnq⟩ : ∃ n, n = normalR p := ⟨_, rfl⟩
  have HDN : Hid (DualN nq k m) := by unfold Hid; rw [hnq, hk, hm]; exact dual_n q1
  have HSM : Hid (SmallP nq) := by unfold Hid; rw [hnq]; exact small_normal p
  rw [← hnq] at hpo
  have HNQ := Lib.hid hnq
  have HM := Lib.hid hm
  obtain ⟨B1, d1, B2, d2, B3, d3, rfl, HI2, HF, HG, HR⟩ := hpo.opened
  rw [HDN.out.vars, HDN.out.free, HDN.out.goal, HDN.out.rows]
  rw [HDN.out.free] at HF
  rw [HDN.out.goal] at HG
  rw [HDN.out.rows] at HR
  clear q1 hpo hnq hk hm
  have hk160 := HDN.out.k1
  have hm400 := HDN.out.m1
  by_cases q2 : m = 0
  case pos =>
    have u2 : ((m : Int) == 0) = true := beqI' (by omega)
    have HC : Hid (dualCode p = 20) := by unfold Hid dualCode; rw [if_neg (by simp [HRZ.out]), if_pos (by rw [← HM.out]; exact q2)]
    have HN : Hid (dualP p = zeroP) := by unfold Hid dualP; rw [HC.out]; rfl
    clear q2
    obtain ⟨j0, j1, j2, j3⟩ := (KK.out.blk 0 rfl).c4
    obtain ⟨f0, f1, f2, f3⟩ := (KK.out.blk 0 rfl).f4
    have hlt0 := (KK.out.blk 0 rfl).lt
    go_wp2_with fail
    rw [HN.out, HC.out]
    exact ret26i Try.results14 rfl rfl (((KK.out.blk 0 rfl).put4 _ _ _ _).below (below_new _ _) ((KK.out.blk 0 rfl).put4 _ _ _ _).lt) ⟨_, rfl, PO.zero _ _, below_next (below_put4 KK.out.2 (by simp) _ _ _ _) (below_new _ _)⟩
  have u2 : ((m : Int) == 0) = false := bneI' (by omega)
  by_cases q3 : 160 < m
  case pos =>
    have u3 : (160 : Int) < (m : Int) := by omega
    have HC : Hid (dualCode p = 1) := by unfold Hid dualCode; rw [if_neg (by simp [HRZ.out]), if_neg (by rw [← HM.out]; exact q2), if_pos (by rw [← HM.out]; exact q3)]
    have HN : Hid (dualP p = zeroP) := by unfold Hid dualP; rw [HC.out]; rfl
    clear q2 q3
    obtain ⟨j0, j1, j2, j3⟩ := (KK.out.blk 0 rfl).c4
    obtain ⟨f0, f1, f2, f3⟩ := (KK.out.blk 0 rfl).f4
    have hlt0 := (KK.out.blk 0 rfl).lt
    go_wp2_with fail
    rw [HN.out, HC.out]
    exact ret26i Try.results14 rfl rfl (((KK.out.blk 0 rfl).put4 _ _ _ _).below (below_new _ _) ((KK.out.blk 0 rfl).put4 _ _ _ _).lt) ⟨_, rfl, PO.zero _ _, below_next (below_put4 KK.out.2 (by simp) _ _ _ _) (below_new _ _)⟩
  have u3 : ¬ ((160 : Int) < (m : Int)) := by omega
  have HC : Hid (dualCode p = 0) := by unfold Hid dualCode; rw [if_neg (by simp [HRZ.out]), if_neg (by rw [← HM.out]; exact q2), if_neg (by rw [← HM.out]; exact q3)]
  have HN : Hid (dualP p = dualQ nq) := by unfold Hid dualP; rw [if_pos HC.out, HNQ.out]
  have hm160 : m ≤ 160 := by omega
  clear q2 q3
  go_wp2_with fail
  have HNB := Lib.hid (Blk.new w1 26 #[.int .i64 (k : Int), .slice B1 k d1, .slice B2 k d2, .slice B3 m d3])
  have hbn := below_new w1 (.cells #[.int .i64 (k : Int), .slice B1 k d1, .slice B2 k d2, .slice B3 m d3] 26)
  have HNF := Lib.hid (HF.out.below hbn)
  have HNG := Lib.hid (OL.below EFQ.stays HG.out hbn)
  have HNR := Lib.hid (OL.below ERO.stays HR.out hbn)
  have HZ := Lib.hid (KK.out.step hbn)
  have HSN : Hid ((w1.alloc (.cells #[.int .i64 (k : Int), .slice B1 k d1, .slice B2 k d2, .slice B3 m d3] 26)).heap.size = w1.heap.size + 1) := by unfold Hid; simp
  obtain ⟨gn, hgn⟩ : ∃ g, g = w1.heap.size := ⟨_, rfl⟩
  rw [← hgn] at HNB HSN ⊢
  have HGN : Hid (w.heap.size + 2 ≤ gn) := by have : w.heap.size + 1 < w1.heap.size := (KK.out.blk 0 rfl).lt; unfold Hid; omega
  generalize w1.alloc (.cells #[.int .i64 (k : Int), .slice B1 k d1, .slice B2 k d2, .slice B3 m d3] 26) = Wn at *
  clear hgn hbn HF HG HR KK
  have HD0 := Lib.hid (Blk.new Wn 26 #[.int .i64 (m : Int), .slice none 0 0, .slice none 0 0, .slice none 0 0])
  rw [HSN.out] at HD0
  have HK0 := Lib.hid ((HS.nil Wn).step (below_new Wn (.cells #[.int .i64 (m : Int), .slice none 0 0, .slice none 0 0, .slice none 0 0] 26)))
  generalize Wn.alloc (.cells #[.int .i64 (m : Int), .slice none 0 0, .slice none 0 0, .slice none 0 0] 26) = Wd at *
  obtain ⟨fb, hfb⟩ : ∃ l, l = nq.rows.map fun r => r.s == 0 := ⟨_, rfl⟩
  obtain ⟨gb, hgb⟩ : ∃ l, l = nq.rows.map fun r => -r.b := ⟨_, rfl⟩
  have HFB := Lib.hid hfb
  have HGB := Lib.hid hgb
  have HFL : Hid (fb.length = m) := by unfold Hid; rw [hfb, List.length_map]; exact HDN.out.rows
  have HGL : Hid (gb.length = m) := by unfold Hid; rw [hgb, List.length_map]; exact HDN.out.rows
  clear hfb hgb
  go_loopw [42] (fun vi wr => ∃ i : Nat, i ≤ m ∧ vi = .int .i64 (i : Int) ∧ (∃ C1 e1 C2 e2, Blk wr (gn + 1) 26 #[.int .i64 (m : Int), .slice C1 i e1, .slice C2 i e2, .slice none 0 0] ∧ OB (gn + 1) wr (.slice C1 i e1) (fb.take i) ∧ QO (gn + 1) wr (.slice C2 i e2) (gb.take i)) ∧ HS Wn [] wr) (fun vi _ => m - (intOf vi).toNat)
  case atStart => exact ⟨0, Nat.zero_le _, rfl, ⟨none, 0, none, 0, HD0.out, OL.nil _ _ _ _ _, OL.nil _ _ _ _ _⟩, HK0.out⟩
  case round =>
    obtain ⟨i, hi, rfl, ⟨C1, e1, C2, e2, hbd, hfo, hgo⟩, hk⟩ := hrel
    have HD := Lib.hid hbd
    have HFO := Lib.hid hfo
    have HGO := Lib.hid hgo
    have HK := Lib.hid hk
    clear hbd hfo hgo hk HD0 HK0
    obtain ⟨i0, i1, i2, i3⟩ := HD.out.c4
    have hltd := HD.out.lt
    by_cases hlt : i < m
    · obtain ⟨r, hr⟩ : ∃ r, nq.rows[i]? = some r := ⟨nq.rows[i]'(by rw [HDN.out.rows]; exact hlt), List.getElem?_eq_getElem _⟩
      obtain ⟨g5, C3, e3, C4, n4, e4, C5, n5, e5, rfl, hg5, hg5l, k0, k1, k2, k3, k4, _, HIS, HRA, HRB⟩ := RO.at5 (OL.below ERO.stays HNR.out HK.out.2) hr
      have HSB : Hid (sizeQ r.b ≤ 4096) := (HSM.out.2 r (List.mem_of_getElem? hr)).2
      have HFN : Hid (fb.take (i + 1) = fb.take i ++ [r.s == 0]) := by unfold Hid; rw [List.take_add_one, HFB.out, List.getElem?_map, hr]; rfl
      have HGNX : Hid (gb.take (i + 1) = gb.take i ++ [-r.b]) := by unfold Hid; rw [List.take_add_one, HGB.out, List.getElem?_map, hr]; rfl
      have hfl : (fb.take i).length ≤ 1000000000 := by rw [List.length_take]; omega
      have hgl : (gb.take i).length ≤ 1000000000 := by rw [List.length_take]; omega
      have HFT : Hid ((fb.take (i + 1)).length = i + 1) := by unfold Hid; rw [List.length_take, HFL.out]; omega
      have HGT : Hid ((gb.take (i + 1)).length = i + 1) := by unfold Hid; rw [List.length_take, HGL.out]; omega
      have m1 : (i : Int) < (m : Int) := by omega
      have m3 : (i : Int).toNat = i := by omega
      have m4 : (0 : Int) ≤ (i : Int) := by omega
      clear hr
      have hbA := below_new wr (.cells #[.slice C3 r.a.length e3, .int .i64 r.s, .bool (negQ r.b), .slice C4 n4 e4, .slice C5 n5 e5] 65)
      have HDx1 := Lib.hid (HD.out.below hbA HD.out.lt)
      have HFOx2 := Lib.hid (OL.below EB.stays HFO.out hbA)
      have HGOx3 := Lib.hid (OL.below EFQ.stays HGO.out hbA)
      have HKx4 := Lib.hid (HK.out.step hbA)
      have HRBx5 := Lib.hid (HRB.out.of_below hbA)
      have HR8 := Lib.hid (Blk.new wr 65 #[.slice C3 r.a.length e3, .int .i64 r.s, .bool (negQ r.b), .slice C4 n4 e4, .slice C5 n5 e5])
      have hbB := below_new (wr.alloc (.cells #[.slice C3 r.a.length e3, .int .i64 r.s, .bool (negQ r.b), .slice C4 n4 e4, .slice C5 n5 e5] 65)) (.cells #[.bool (r.s == 0)] 4)
      have HDx6 := Lib.hid (HDx1.out.below hbB HDx1.out.lt)
      clear HDx1
      have HFOx7 := Lib.hid (OL.below EB.stays HFOx2.out hbB)
      clear HFOx2
      have HGOx8 := Lib.hid (OL.below EFQ.stays HGOx3.out hbB)
      clear HGOx3
      have HKx9 := Lib.hid (HKx4.out.step hbB)
      clear HKx4
      have HRBx10 := Lib.hid (HRBx5.out.of_below hbB)
      clear HRBx5
      have HR8x11 := Lib.hid (HR8.out.below hbB HR8.out.lt)
      clear HR8
      clear hbA hbB
      -- step
      go_wp2_with (at_builtin; refine wpl_appendB rfl (.tmp 47) (.tmp 51) rfl (base := gn + 1) (.slice C1 i e1) (fb.take i) rfl HFOx7.out (r.s == 0) rfl (Blk.newAt (by simp)) hfl (by simp; omega) ?_; intro v6 W6 hfo6 hcg6 hw6; rw [← HFN.out] at hfo6; obtain ⟨C6, e6, hv6, _⟩ := OL.slice hfo6; rw [HFT.out] at hv6; subst hv6; have HFO6 := Lib.hid hfo6; have HDx101 := Lib.hid (HDx6.out.chg hcg6 (by decide)); clear HDx6; have HGOx102 := Lib.hid (QO.chg HGOx8.out hcg6 (by decide)); clear HGOx8; have HKx103 := Lib.hid (HS.chg HKx9.out hcg6 (by simp) HSN.out.symm hw6); clear HKx9; have HRBx104 := Lib.hid (HRBx10.out.keeps hcg6.1); clear HRBx10; have HR8x105 := Lib.hid (HR8x11.out.chg hcg6 (by decide)); clear HR8x11; obtain ⟨i0, i1, i2, i3⟩ := HDx101.out.c4; obtain ⟨f0, f1, f2, f3⟩ := HDx101.out.f4; have hltd := HDx101.out.lt; clear hfo6 hcg6 hw6)
      have hcpx201 := chg_put1 (base := gn + 1) (j := 1) HDx101.out (Nat.le_refl _) prog_words (.slice C6 (i + 1) e6)
      have HDx202 := Lib.hid (HDx101.out.put 1 (.slice C6 (i + 1) e6))
      clear HDx101
      have HGOx203 := Lib.hid (QO.chg HGOx102.out hcpx201 (by decide))
      clear HGOx102
      have HKx204 := Lib.hid (HKx103.out.other1 (g := (gn + 1)) (by rw [HSN.out]; exact Nat.le_refl _) (by simp) 1 (.slice C6 (i + 1) e6))
      clear HKx103
      have HRBx205 := Lib.hid (HRBx104.out.keeps hcpx201.1)
      clear HRBx104
      have HR8x206 := Lib.hid (HR8x105.out.chg hcpx201 (by decide))
      clear HR8x105
      have HFOx207 := Lib.hid (OB.chg HFO6.out hcpx201 (by decide))
      clear HFO6
      clear hcpx201
      obtain ⟨i0, i1, i2, i3⟩ := HDx202.out.c4
      obtain ⟨y0, y1, y2, y3, y4⟩ := HR8x206.out.c5
      have hltd := HDx202.out.lt
      have hlt8 := HR8x206.out.lt
      generalize W6.setCell ⟨gn + 1, 1, none⟩ (.slice C6 (i + 1) e6) = W7 at *
      obtain ⟨g8, hg8⟩ : ∃ g, g = wr.heap.size := ⟨_, rfl⟩
      rw [← hg8] at HR8x206 y0 y1 y2 y3 y4 hlt8 ⊢
      clear hg8
      refine wp_chainF (l := [_, _, _, _, _, _, _, _, _]) (S := Below W7.heap.size W7) 6 [([0, 1, 2, 3], 4), ([], 5)] [] (by kernel_rfl) (by kernel_rfl) (by kernel_rfl) rfl (Below.drew (Below.refl _ _)) ?_
      refine ⟨?_, _, ?_, rfl, ?_⟩
      rotate_left
      · repeat (refine ⟨_, ?_, rfl, Or.inl ⟨by rfl, ?_⟩, ?_⟩; rotate_left; focus (intro W hW; have hcW := (bcell hW).1; clear hW; go_simp; try with_reducible rfl); (try simp only [Act.put, List.getElem_toArray, List.getElem_cons_succ, List.getElem_cons_zero, List.setIfInBounds_toArray, List.set_cons_zero, List.set_cons_succ]))
        exact rfl
      have hb0 : Below W7.heap.size W7 W7.drew := Below.drew (Below.refl _ _)
      have D0 := Lib.hid hb0
      have HDx208 := Lib.hid (HDx202.out.below hb0 HDx202.out.lt)
      clear HDx202
      have HGOx209 := Lib.hid (OL.below EFQ.stays HGOx203.out hb0)
      clear HGOx203
      have HKx210 := Lib.hid (HKx204.out.step hb0)
      clear HKx204
      have HRBx211 := Lib.hid (HRBx205.out.of_below hb0)
      clear HRBx205
      have HR8x212 := Lib.hid (HR8x206.out.below hb0 HR8x206.out.lt)
      clear HR8x206
      have HFOx213 := Lib.hid (OL.below EB.stays HFOx207.out hb0)
      clear HFOx207
      clear hb0
      go_wp2_with fail
      refine (fneg_calls _ _ (rawQ r.b) (FR.of_fq HRBx211.out HSB.out)).mono ?_
      rintro e W3 ⟨v, rfl, hv, hb⟩
      rw [fixQ_raw _ HSB.out] at hv
      obtain ⟨P7, q7, r7, P8, q8, r8, rfl, HV3⟩ := hv.opened
      have D3 := Lib.hid (below_next D0.out hb)
      have HDx214 := Lib.hid (HDx208.out.below hb HDx208.out.lt)
      clear HDx208
      have HGOx215 := Lib.hid (OL.below EFQ.stays HGOx209.out hb)
      clear HGOx209
      have HKx216 := Lib.hid (HKx210.out.step hb)
      clear HKx210
      have HRBx217 := Lib.hid (HRBx211.out.of_below hb)
      clear HRBx211
      have HR8x218 := Lib.hid (HR8x212.out.below hb HR8x212.out.lt)
      clear HR8x212
      have HFOx219 := Lib.hid (OL.below EB.stays HFOx213.out hb)
      clear HFOx213
      clear hv hb
      go_wp2_with fail
      refine And.intro D3.out ⟨_, _, rfl, rfl, ?_⟩
      go_wp2_with fail
      have hbn := below_new W3 (.cells #[.bool (negQ (-r.b)), .slice P7 q7 r7, .slice P8 q8 r8] 40)
      have D4 := Lib.hid (below_next D3.out hbn)
      have HDx220 := Lib.hid (HDx214.out.below hbn HDx214.out.lt)
      clear HDx214
      have HGOx221 := Lib.hid (OL.below EFQ.stays HGOx215.out hbn)
      clear HGOx215
      have HKx222 := Lib.hid (HKx216.out.step hbn)
      clear HKx216
      have HRBx223 := Lib.hid (HRBx217.out.of_below hbn)
      clear HRBx217
      have HR8x224 := Lib.hid (HR8x218.out.below hbn HR8x218.out.lt)
      clear HR8x218
      have HFOx225 := Lib.hid (OL.below EB.stays HFOx219.out hbn)
      clear HFOx219
      have HV3x226 := Lib.hid (HV3.out.of_below hbn)
      clear HV3
      have HL4 := Lib.hid (Blk.new W3 40 #[.bool (negQ (-r.b)), .slice P7 q7 r7, .slice P8 q8 r8])
      obtain ⟨gl, hgl⟩ : ∃ g, g = W3.heap.size := ⟨_, rfl⟩
      rw [← hgl] at HL4 ⊢
      generalize W3.alloc (.cells #[.bool (negQ (-r.b)), .slice P7 q7 r7, .slice P8 q8 r8] 40) = W4 at *
      clear hgl hbn
      refine And.intro D4.out ⟨_, rfl, ?_⟩
      have hbase4 : gn + 1 ≤ W4.heap.size := by have := HKx222.out.2.size; rw [HSN.out] at this; exact this
      simp only [Act.put, List.getElem_toArray, List.getElem_cons_succ, List.getElem_cons_zero, List.setIfInBounds_toArray, List.set_cons_zero, List.set_cons_succ, List.drop_succ_cons, List.drop_zero]
      go_wp2_with (at_builtin; refine wpl_appendQ2 rfl (.tmp 55) (.tmp 59) rfl (base := gn + 1) (.slice C2 i e2) (gb.take i) rfl HGOx221.out (-r.b) rfl HL4.out HV3x226.out hgl hbase4 ?_; intro v8 W8 hgo8 hcg8 hw8; rw [← HGNX.out] at hgo8; obtain ⟨C8, e8, hv8, _⟩ := OL.slice hgo8; rw [HGT.out] at hv8; subst hv8; have HGO8 := Lib.hid hgo8; have HDx301 := Lib.hid (HDx220.out.chg hcg8 (by decide)); clear HDx220; have HKx302 := Lib.hid (HS.chg HKx222.out hcg8 (by simp) HSN.out.symm hw8); clear HKx222; have HR8x303 := Lib.hid (HR8x224.out.chg hcg8 (by decide)); clear HR8x224; have HFOx304 := Lib.hid (OB.chg HFOx225.out hcg8 (by decide)); clear HFOx225; obtain ⟨i0, i1, i2, i3⟩ := HDx301.out.c4; obtain ⟨f0, f1, f2, f3⟩ := HDx301.out.f4; have hltd := HDx301.out.lt; clear hgo8 hcg8 hw8)
      refine NoPanic.normal ?_
      have hcpx401 := chg_put1 (base := gn + 1) (j := 2) HDx301.out (Nat.le_refl _) prog_words (.slice C8 (i + 1) e8)
      have HDx402 := Lib.hid (HDx301.out.put 2 (.slice C8 (i + 1) e8))
      clear HDx301
      have HKx403 := Lib.hid (HKx302.out.other1 (g := (gn + 1)) (by rw [HSN.out]; exact Nat.le_refl _) (by simp) 2 (.slice C8 (i + 1) e8))
      clear HKx302
      have HFOx404 := Lib.hid (OB.chg HFOx304.out hcpx401 (by decide))
      clear HFOx304
      have HGOx405 := Lib.hid (QO.chg HGO8.out hcpx401 (by decide))
      clear HGO8
      clear hcpx401
      go_wp2_with fail
      go_roundw
      case rel => exact ⟨i + 1, by omega, by go_num, ⟨C6, e6, C8, e8, HDx402.out, HFOx404.out, HGOx405.out⟩, HKx403.out⟩
      case measure => simp [intOf]; omega
    · obtain rfl : m = i := by omega
      have hft : fb.take m = fb := List.take_of_length_le (by rw [HFL.out]; exact Nat.le_refl _)
      have hgt : gb.take m = gb := List.take_of_length_le (by rw [HGL.out]; exact Nat.le_refl _)
      rw [hft] at HFO
      rw [hgt] at HGO
      clear hft hgt i0 i1 i2 i3 hltd hlt hi
      obtain ⟨dr, hdr⟩ : ∃ l, l = (List.range k).map (dualRow nq) := ⟨_, rfl⟩
      have HDR := Lib.hid hdr
      have HDL : Hid (dr.length = k) := by unfold Hid; rw [hdr]; simp
      clear hdr
      obtain ⟨x0, x1, x2, x3⟩ := (HNB.out.below HK.out.2 HNB.out.lt).c4
      have hltn := (HNB.out.below HK.out.2 HNB.out.lt).lt
      go_wp2_with fail
      clear x0 x1 x2 x3 hltn
      go_loopw [65] (fun vi wr => ∃ v : Nat, v ≤ k ∧ vi = .int .i64 (v : Int) ∧ (∃ C3 e3, Blk wr (gn + 1) 26 #[.int .i64 (m : Int), .slice C1 m e1, .slice C2 m e2, .slice C3 v e3] ∧ RO (gn + 1) wr (.slice C3 v e3) (dr.take v)) ∧ OB (gn + 1) wr (.slice C1 m e1) fb ∧ QO (gn + 1) wr (.slice C2 m e2) gb ∧ HS Wn [] wr) (fun vi _ => k - (intOf vi).toNat)
      case atStart => exact ⟨0, Nat.zero_le _, rfl, ⟨none, 0, HD.out, OL.nil _ _ _ _ _⟩, HFO.out, HGO.out, HK.out⟩
      case round =>
        obtain ⟨v, hi, rfl, ⟨C3, e3, hbd, hro⟩, hfo, hgo, hk⟩ := hrel
        clear HD HFO HGO HK
        have HD := Lib.hid hbd
        have HRO := Lib.hid hro
        have HFO := Lib.hid hfo
        have HGO := Lib.hid hgo
        have HK := Lib.hid hk
        clear hbd hro hfo hgo hk
        obtain ⟨x0, x1, x2, x3⟩ := (HNB.out.below HK.out.2 HNB.out.lt).c4
        have hltn := (HNB.out.below HK.out.2 HNB.out.lt).lt
        by_cases hlt : v < k
        · obtain ⟨gv, hgv⟩ : ∃ x, nq.goal[v]? = some x := ⟨nq.goal[v]'(by rw [HDN.out.goal]; exact hlt), List.getElem?_eq_getElem _⟩
          obtain ⟨fv, hfv⟩ : ∃ x, nq.free[v]? = some x := ⟨nq.free[v]'(by rw [HDN.out.free]; exact hlt), List.getElem?_eq_getElem _⟩
          obtain ⟨gG, oG, C4, n4, e4, C5, n5, e5, rfl, hgG, k0, k1, k2, HGV⟩ := QO.at3 (OL.below EFQ.stays HNG.out HK.out.2) hgv
          obtain ⟨gF, oF, rfl, hgF, k3⟩ := BL.at1 (HNF.out.below HK.out.2).1 hfv
          have HSV : Hid (sizeQ gv ≤ 4096) := HSM.out.1 gv (List.mem_of_getElem? hgv)
          have HGVV := Lib.hid hgv
          have HFVV := Lib.hid hfv
          have m1 : (v : Int) < (k : Int) := by omega
          have m3 : (v : Int).toNat = v := by omega
          have m4 : (0 : Int) ≤ (v : Int) := by omega
          clear hgv hfv
          go_wp2_with fail
          refine (fneg_calls _ _ (rawQ gv) (FR.of_fq HGV.out HSV.out)).mono ?_
          rintro e W1 ⟨v9, rfl, hv, hb⟩
          rw [fixQ_raw _ HSV.out] at hv
          obtain ⟨A7, n7, c7, A8, n8, c8, rfl, HV1⟩ := hv.opened
          have HKo := Lib.hid ((HS.nil wr).step hb)
          have hk3 : W1.cell? ⟨gF, oF + v, none⟩ = some (.bool fv) := by rw [(bcell hb).1 gF _ hgF]; exact k3
          have hb2 := HK.out.2
          clear hv hb k0 k1 k2 k3 x0 x1 x2 x3 hltn
          obtain ⟨x0, x1, x2, x3⟩ := ((HNB.out.below HK.out.2 HNB.out.lt).below HKo.out.2 (HNB.out.below HK.out.2 HNB.out.lt).lt).c4
          have hltn := ((HNB.out.below HK.out.2 HNB.out.lt).below HKo.out.2 (HNB.out.below HK.out.2 HNB.out.lt).lt).lt
          have hgF2 : gF < W1.heap.size := Nat.lt_of_lt_of_le hgF HKo.out.2.size
          obtain ⟨wo, rfl⟩ : ∃ wo, wo = wr := ⟨_, rfl⟩
          have HW1 : Hid (wo.heap.size ≤ W1.heap.size) := HKo.out.2.size
          clear hb2
          cases fv
          case' false =>
            go_wp2_with fail
            have hbn := below_new W1 (.cells #[.slice none 0 0, .int .i64 (-1), .bool (negQ (-gv)), .slice A7 n7 c7, .slice A8 n8 c8] 65)
            have HRX : Hid (∃ s : Int, s = (if false = true then (0 : Int) else -1) ∧ Blk (W1.alloc (.cells #[.slice none 0 0, .int .i64 (-1), .bool (negQ (-gv)), .slice A7 n7 c7, .slice A8 n8 c8] 65)) W1.heap.size 65 #[.slice none 0 0, .int .i64 s, .bool (negQ (-gv)), .slice A7 n7 c7, .slice A8 n8 c8]) := ⟨(-1), rfl, Blk.new _ _ _⟩
            have HKp := Lib.hid (HKo.out.step hbn)
            have HV2 := Lib.hid (HV1.out.of_below hbn)
            generalize W1.alloc (.cells #[.slice none 0 0, .int .i64 (-1), .bool (negQ (-gv)), .slice A7 n7 c7, .slice A8 n8 c8] 65) = W2 at *
            clear hbn HKo HV1
          case' true =>
            go_wp2_with fail
            have hbn := below_new W1 (.cells #[.slice none 0 0, .int .i64 0, .bool (negQ (-gv)), .slice A7 n7 c7, .slice A8 n8 c8] 65)
            have HRX : Hid (∃ s : Int, s = (if true = true then (0 : Int) else -1) ∧ Blk (W1.alloc (.cells #[.slice none 0 0, .int .i64 0, .bool (negQ (-gv)), .slice A7 n7 c7, .slice A8 n8 c8] 65)) W1.heap.size 65 #[.slice none 0 0, .int .i64 s, .bool (negQ (-gv)), .slice A7 n7 c7, .slice A8 n8 c8]) := ⟨0, rfl, Blk.new _ _ _⟩
            have HKp := Lib.hid (HKo.out.step hbn)
            have HV2 := Lib.hid (HV1.out.of_below hbn)
            generalize W1.alloc (.cells #[.slice none 0 0, .int .i64 0, .bool (negQ (-gv)), .slice A7 n7 c7, .slice A8 n8 c8] 65) = W2 at *
            clear hbn HKo HV1
          all_goals
            obtain ⟨s, hs, hblk⟩ := HRX.out
            have HSS := Lib.hid hs
            have HB10 := Lib.hid hblk
            clear hs hblk HRX x0 x1 x2 x3 hltn hk3 hgF2
            obtain ⟨g10, hg10⟩ : ∃ g, g = W1.heap.size := ⟨_, rfl⟩
            have HG10 : Hid (wo.heap.size ≤ g10) := by unfold Hid; rw [hg10]; exact HW1.out
            rw [← hg10] at HB10 ⊢
            clear hg10 HW1
            obtain ⟨ab, hab⟩ : ∃ l, l = nq.rows.map fun r => -(r.a.getD v 0) := ⟨_, rfl⟩
            have HAB := Lib.hid hab
            have HAL : Hid (ab.length = m) := by unfold Hid; rw [hab, List.length_map]; exact HDN.out.rows
            clear hab
            go_loopw [84] (fun vi wr => ∃ i : Nat, i ≤ m ∧ vi = .int .i64 (i : Int) ∧ (∃ C6 e6, Blk wr g10 65 #[.slice C6 i e6, .int .i64 s, .bool (negQ (-gv)), .slice A7 n7 c7, .slice A8 n8 c8] ∧ QO wo.heap.size wr (.slice C6 i e6) (ab.take i)) ∧ FQ wr (.agg #[.bool (negQ (-gv)), .slice A7 n7 c7, .slice A8 n8 c8]) (-gv) ∧ HS wo [] wr) (fun vi _ => m - (intOf vi).toNat)
            case atStart => exact ⟨0, Nat.zero_le _, rfl, ⟨none, 0, HB10.out, OL.nil _ _ _ _ _⟩, HV2.out, HKp.out⟩
            case round =>
              obtain ⟨i, hi, rfl, ⟨C6, e6, hbr, hqo⟩, hfq, hk⟩ := hrel
              clear HB10 HV2 HKp
              have HBR := Lib.hid hbr
              have HQO := Lib.hid hqo
              have HFQ := Lib.hid hfq
              have HKi := Lib.hid hk
              have HKW := Lib.hid (HK.out.step hk.2)
              clear hbr hqo hfq hk
              obtain ⟨y0, y1, y2, y3, y4⟩ := HBR.out.c5
              have hltr := HBR.out.lt
              by_cases hlt : i < m
              · obtain ⟨r, hr⟩ : ∃ r, nq.rows[i]? = some r := ⟨nq.rows[i]'(by rw [HDN.out.rows]; exact hlt), List.getElem?_eq_getElem _⟩
                obtain ⟨g5, C9, e9, C10, n10, e10, C11, n11, e11, rfl, hg5, hg5l, k0, k1, k2, k3, k4, _, HIS, HRA, HRB⟩ := RO.at5 (OL.below ERO.stays HNR.out HKW.out.2) hr
                have hral : r.a.length = k := HDN.out.a r (List.mem_of_getElem? hr)
                obtain ⟨av, hav⟩ : ∃ x, r.a[v]? = some x := ⟨r.a[v]'(by rw [hral]; assumption), List.getElem?_eq_getElem _⟩
                rw [hral] at k0 HRA
                have HSA : Hid (sizeQ av ≤ 4096) := (HSM.out.2 r (List.mem_of_getElem? hr)).1 av (List.mem_of_getElem? hav)
                have HNX : Hid (ab.take (i + 1) = ab.take i ++ [-av]) := by unfold Hid; rw [List.take_add_one, HAB.out, List.getElem?_map, hr]; show _ ++ [-(r.a.getD v 0)] = _; rw [List.getD_eq_getElem?_getD, hav]; rfl
                have hal : (ab.take i).length ≤ 1000000000 := by rw [List.length_take]; omega
                have HAT : Hid ((ab.take (i + 1)).length = i + 1) := by unfold Hid; rw [List.length_take, HAL.out]; omega
                obtain ⟨gA, oA, C12, n12, e12, C13, n13, e13, rfl, hgA, l0, l1, l2, HAV⟩ := QO.at3 HRA.out hav
                obtain ⟨sr, hsr⟩ : ∃ x, x = r.s := ⟨_, rfl⟩
                obtain ⟨nr, hnr⟩ : ∃ x, x = negQ r.b := ⟨_, rfl⟩
                rw [← hsr] at k1
                rw [← hnr] at k2
                have m1' : (i : Int) < (m : Int) := by omega
                have m3' : (i : Int).toNat = i := by omega
                have m4' : (0 : Int) ≤ (i : Int) := by omega
                clear hr hav hral hsr hnr HRA HRB HIS
                go_wp2_with fail
                have hbA := below_new wr (.cells #[.slice (some ⟨gA, oA, none⟩) k e9, .int .i64 sr, .bool nr, .slice C10 n10 e10, .slice C11 n11 e11] 65)
                have HBRx501 := Lib.hid (HBR.out.below hbA HBR.out.lt)
                clear HBR
                have HQOx502 := Lib.hid (OL.below EFQ.stays HQO.out hbA)
                clear HQO
                have HFQx503 := Lib.hid (HFQ.out.of_below hbA)
                clear HFQ
                have HKix504 := Lib.hid (HKi.out.step hbA)
                clear HKi
                have HAVx505 := Lib.hid (HAV.out.of_below hbA)
                clear HAV
                have HR12 := Lib.hid (Blk.new wr 65 #[.slice (some ⟨gA, oA, none⟩) k e9, .int .i64 sr, .bool nr, .slice C10 n10 e10, .slice C11 n11 e11])
                obtain ⟨g12, hg12⟩ : ∃ g, g = wr.heap.size := ⟨_, rfl⟩
                have z0 : (wr.alloc (.cells #[.slice (some ⟨gA, oA, none⟩) k e9, .int .i64 sr, .bool nr, .slice C10 n10 e10, .slice C11 n11 e11] 65)).cell? ⟨gA, oA + v * 3, none⟩ = _ := ((bcell hbA).1 gA _ hgA).trans l0
                have z1 : (wr.alloc (.cells #[.slice (some ⟨gA, oA, none⟩) k e9, .int .i64 sr, .bool nr, .slice C10 n10 e10, .slice C11 n11 e11] 65)).cell? ⟨gA, oA + v * 3 + 1, none⟩ = _ := ((bcell hbA).1 gA _ hgA).trans l1
                have z2 : (wr.alloc (.cells #[.slice (some ⟨gA, oA, none⟩) k e9, .int .i64 sr, .bool nr, .slice C10 n10 e10, .slice C11 n11 e11] 65)).cell? ⟨gA, oA + v * 3 + 2, none⟩ = _ := ((bcell hbA).1 gA _ hgA).trans l2
                have hgA2 : gA < (wr.alloc (.cells #[.slice (some ⟨gA, oA, none⟩) k e9, .int .i64 sr, .bool nr, .slice C10 n10 e10, .slice C11 n11 e11] 65)).heap.size := Nat.lt_of_lt_of_le hgA hbA.size
                rw [← hg12] at HR12 ⊢
                clear hg12 hbA l0 l1 l2 k0 k1 k2 k3 k4 y0 y1 y2 y3 y4 hltr hg5l hgA
                generalize wr.alloc (.cells #[.slice (some ⟨gA, oA, none⟩) k e9, .int .i64 sr, .bool nr, .slice C10 n10 e10, .slice C11 n11 e11] 65) = W7 at *
                obtain ⟨y0, y1, y2, y3, y4⟩ := HBRx501.out.c5
                have hltr := HBRx501.out.lt
                obtain ⟨j0, j1, j2, j3, j4⟩ := HR12.out.c5
                have hlt12 := HR12.out.lt
                refine wp_chainF (l := [_, _, _, _, _, _, _, _, _, _, _, _]) (S := Below W7.heap.size W7) 9 [([0, 1, 2, 3, 4, 5, 6], 7), ([], 8)] [] (by kernel_rfl) (by kernel_rfl) (by kernel_rfl) rfl (Below.drew (Below.refl _ _)) ?_
                refine ⟨?_, _, ?_, rfl, ?_⟩
                rotate_left
                · repeat (refine ⟨_, ?_, rfl, Or.inl ⟨by rfl, ?_⟩, ?_⟩; rotate_left; focus (intro W hW; have hcW := (bcell hW).1; clear hW; go_simp; try with_reducible rfl); (try simp only [Act.put, List.getElem_toArray, List.getElem_cons_succ, List.getElem_cons_zero, List.setIfInBounds_toArray, List.set_cons_zero, List.set_cons_succ]))
                  exact rfl
                have hb0 : Below W7.heap.size W7 W7.drew := Below.drew (Below.refl _ _)
                have D0 := Lib.hid hb0
                have HBRx506 := Lib.hid (HBRx501.out.below hb0 HBRx501.out.lt)
                clear HBRx501
                have HQOx507 := Lib.hid (OL.below EFQ.stays HQOx502.out hb0)
                clear HQOx502
                have HFQx508 := Lib.hid (HFQx503.out.of_below hb0)
                clear HFQx503
                have HKix509 := Lib.hid (HKix504.out.step hb0)
                clear HKix504
                have HAVx510 := Lib.hid (HAVx505.out.of_below hb0)
                clear HAVx505
                have HR12x511 := Lib.hid (HR12.out.below hb0 HR12.out.lt)
                clear HR12
                clear hb0
                go_wp2_with fail
                refine (fneg_calls _ _ (rawQ av) (FR.of_fq HAVx510.out HSA.out)).mono ?_
                rintro e W3 ⟨v, rfl, hv, hb⟩
                rw [fixQ_raw _ HSA.out] at hv
                obtain ⟨P7, q7, r7, P8, q8, r8, rfl, HV3⟩ := hv.opened
                have D3 := Lib.hid (below_next D0.out hb)
                have HBRx512 := Lib.hid (HBRx506.out.below hb HBRx506.out.lt)
                clear HBRx506
                have HQOx513 := Lib.hid (OL.below EFQ.stays HQOx507.out hb)
                clear HQOx507
                have HFQx514 := Lib.hid (HFQx508.out.of_below hb)
                clear HFQx508
                have HKix515 := Lib.hid (HKix509.out.step hb)
                clear HKix509
                have HAVx516 := Lib.hid (HAVx510.out.of_below hb)
                clear HAVx510
                clear hv hb
                go_wp2_with fail
                refine And.intro D3.out ⟨_, _, rfl, rfl, ?_⟩
                go_wp2_with fail
                have hbn := below_new W3 (.cells #[.bool (negQ (-av)), .slice P7 q7 r7, .slice P8 q8 r8] 40)
                have D4 := Lib.hid (below_next D3.out hbn)
                have HBRx517 := Lib.hid (HBRx512.out.below hbn HBRx512.out.lt)
                clear HBRx512
                have HQOx518 := Lib.hid (OL.below EFQ.stays HQOx513.out hbn)
                clear HQOx513
                have HFQx519 := Lib.hid (HFQx514.out.of_below hbn)
                clear HFQx514
                have HKix520 := Lib.hid (HKix515.out.step hbn)
                clear HKix515
                have HAVx521 := Lib.hid (HAVx516.out.of_below hbn)
                clear HAVx516
                have HV3x522 := Lib.hid (HV3.out.of_below hbn)
                clear HV3
                have HL4 := Lib.hid (Blk.new W3 40 #[.bool (negQ (-av)), .slice P7 q7 r7, .slice P8 q8 r8])
                obtain ⟨gl, hgl⟩ : ∃ g, g = W3.heap.size := ⟨_, rfl⟩
                rw [← hgl] at HL4 ⊢
                generalize W3.alloc (.cells #[.bool (negQ (-av)), .slice P7 q7 r7, .slice P8 q8 r8] 40) = W4 at *
                clear hgl hbn
                refine And.intro D4.out ⟨_, rfl, ?_⟩
                have hbase4 : wo.heap.size ≤ W4.heap.size := HKix520.out.2.size
                simp only [Act.put, List.getElem_toArray, List.getElem_cons_succ, List.getElem_cons_zero, List.setIfInBounds_toArray, List.set_cons_zero, List.set_cons_succ, List.drop_succ_cons, List.drop_zero]
                go_wp2_with (at_builtin; refine wpl_appendQ2 rfl (.tmp 89) (.tmp 96) rfl (base := wo.heap.size) (.slice C6 i e6) (ab.take i) rfl HQOx518.out (-av) rfl HL4.out HV3x522.out hal hbase4 ?_; intro v8 W8 hgo8 hcg8 hw8; rw [← HNX.out] at hgo8; obtain ⟨C8, e8, hv8, _⟩ := OL.slice hgo8; rw [HAT.out] at hv8; subst hv8; have HGO8 := Lib.hid hgo8; have HBRx601 := Lib.hid (HBRx517.out.chg hcg8 (by decide)); clear HBRx517; have HFQx602 := Lib.hid (HFQx519.out.keeps hcg8.1); clear HFQx519; have HKix603 := Lib.hid (HS.chg HKix520.out hcg8 (by simp) rfl hw8); clear HKix520; obtain ⟨y0, y1, y2, y3, y4⟩ := HBRx601.out.c5; obtain ⟨f0, f1, f2, f3, f4⟩ := HBRx601.out.f5; have hltr := HBRx601.out.lt; clear hgo8 hcg8 hw8)
                refine NoPanic.normal ?_
                have hcpx701 := chg_put1 (base := wo.heap.size) (j := 0) HBRx601.out (HG10.out) rowA_words (.slice C8 (i + 1) e8)
                have HBRx702 := Lib.hid (HBRx601.out.put 0 (.slice C8 (i + 1) e8))
                clear HBRx601
                have HFQx703 := Lib.hid (HFQx602.out.keeps hcpx701.1)
                clear HFQx602
                have HKix704 := Lib.hid (HKix603.out.other1 (g := g10) (HG10.out) (by simp) 0 (.slice C8 (i + 1) e8))
                clear HKix603
                have HQOx705 := Lib.hid (QO.chg HGO8.out hcpx701 (by decide))
                clear HGO8
                clear hcpx701
                go_wp2_with fail
                go_roundw
                case rel => exact ⟨i + 1, by omega, by go_num, ⟨C8, e8, HBRx702.out, HQOx705.out⟩, HFQx703.out, HKix704.out⟩
                case measure => simp [intOf]; omega
              · obtain rfl : m = i := by omega
                have hft : ab.take m = ab := List.take_of_length_le (by rw [HAL.out]; exact Nat.le_refl _)
                rw [hft] at HQO
                clear hft
                have HDi := Lib.hid (HD.out.below HKi.out.2 HD.out.lt)
                have HROi := Lib.hid (OL.below ERO.stays HRO.out HKi.out.2)
                have HFOi := Lib.hid (OL.below EB.stays HFO.out HKi.out.2)
                have HGOi := Lib.hid (OL.below EFQ.stays HGO.out HKi.out.2)
                have hbw : gn + 1 ≤ wo.heap.size := by have := HK.out.2.size; rw [HSN.out] at this; exact this
                have hbi : gn + 1 ≤ wr.heap.size := Nat.le_trans hbw HKi.out.2.size
                have HQL := Lib.hid (HQO.out.lower hbw)
                have hbn := below_new wr (.cells #[.slice C6 m e6, .int .i64 s, .bool (negQ (-gv)), .slice A7 n7 c7, .slice A8 n8 c8] 65)
                have HDx801 := Lib.hid (HDi.out.below hbn HDi.out.lt)
                clear HDi
                have HROx802 := Lib.hid (OL.below ERO.stays HROi.out hbn)
                clear HROi
                have HFOx803 := Lib.hid (OL.below EB.stays HFOi.out hbn)
                clear HFOi
                have HGOx804 := Lib.hid (OL.below EFQ.stays HGOi.out hbn)
                clear HGOi
                have HKx805 := Lib.hid (HKW.out.step hbn)
                clear HKW
                have HQLx806 := Lib.hid (OL.below EFQ.stays HQL.out hbn)
                clear HQL
                have HFQx807 := Lib.hid (HFQ.out.of_below hbn)
                clear HFQ
                have HSI : Hid (I64 s) := by unfold Hid I64; have := HSS.out; split at this <;> omega
                have HER : Hid (ERO (gn + 1) (wr.alloc (.cells #[.slice C6 m e6, .int .i64 s, .bool (negQ (-gv)), .slice A7 n7 c7, .slice A8 n8 c8] 65)) #[.slice C6 m e6, .int .i64 s, .bool (negQ (-gv)), .slice A7 n7 c7, .slice A8 n8 c8] ⟨ab, s, -gv⟩) := ⟨_, _, _, _, _, _, _, rfl, HSI.out, HQLx806.out, HFQx807.out⟩
                have HNX : Hid (dr.take (v + 1) = dr.take v ++ [⟨ab, s, -gv⟩]) := by unfold Hid; rw [List.take_add_one, HDR.out, List.getElem?_map, List.getElem?_range (by assumption)]; show _ ++ [dualRow nq v] = _; unfold dualRow; rw [HAB.out, HSS.out, List.getD_eq_getElem?_getD, HFVV.out, List.getD_eq_getElem?_getD, HGVV.out]; rfl
                have hdl : (dr.take v).length ≤ 1000000000 := by rw [List.length_take]; omega
                have HDT : Hid ((dr.take (v + 1)).length = v + 1) := by unfold Hid; rw [List.length_take, HDL.out]; omega
                obtain ⟨i0, i1, i2, i3⟩ := (HD.out.below HKi.out.2 HD.out.lt).c4
                have hltd := (HD.out.below HKi.out.2 HD.out.lt).lt
                have hbs : gn + 1 ≤ (wr.alloc (.cells #[.slice C6 m e6, .int .i64 s, .bool (negQ (-gv)), .slice A7 n7 c7, .slice A8 n8 c8] 65)).heap.size := Nat.le_trans hbi hbn.size
                clear hbn
                go_wp2_with (at_builtin; refine wpl_appendR5 rfl (.tmp 101) (.tmp 103) rfl (base := gn + 1) (.slice C3 v e3) (dr.take v) rfl HROx802.out ⟨ab, s, -gv⟩ rfl (Blk.new wr 65 #[.slice C6 m e6, .int .i64 s, .bool (negQ (-gv)), .slice A7 n7 c7, .slice A8 n8 c8]) HER.out hdl hbs ?_; intro v6 W6 hro6 hcg6 hw6 hob6; rw [← HNX.out] at hro6; obtain ⟨C8, e8, hv8, _⟩ := OL.slice hro6; rw [HDT.out] at hv8; subst hv8; have HRO6 := Lib.hid hro6; have HDx851 := Lib.hid (HDx801.out.chg hcg6 (by decide)); clear HDx801; have HFOx852 := Lib.hid (OB.chg HFOx803.out hcg6 (by decide)); clear HFOx803; have HGOx853 := Lib.hid (QO.chg HGOx804.out hcg6 (by decide)); clear HGOx804; have HKx854 := Lib.hid (HS.chg HKx805.out hcg6 (by simp) HSN.out.symm hw6); clear HKx805; obtain ⟨i0, i1, i2, i3⟩ := HDx851.out.c4; obtain ⟨f0, f1, f2, f3⟩ := HDx851.out.f4; have hltd := HDx851.out.lt; clear hro6 hcg6 hw6 hob6)
                have hcpx901 := chg_put1 (base := gn + 1) (j := 3) HDx851.out (Nat.le_refl _) prog_words (.slice C8 (v + 1) e8)
                have HDx902 := Lib.hid (HDx851.out.put 3 (.slice C8 (v + 1) e8))
                clear HDx851
                have HFOx903 := Lib.hid (OB.chg HFOx852.out hcpx901 (by decide))
                clear HFOx852
                have HGOx904 := Lib.hid (QO.chg HGOx853.out hcpx901 (by decide))
                clear HGOx853
                have HKx905 := Lib.hid (HKx854.out.other1 (g := (gn + 1)) (by rw [HSN.out]; exact Nat.le_refl _) (by simp) 3 (.slice C8 (v + 1) e8))
                clear HKx854
                have HROx906 := Lib.hid (RO.chg HRO6.out hcpx901 (by decide) (by decide))
                clear HRO6
                clear hcpx901
                go_wp2_with fail
                go_roundw
                case rel => exact ⟨v + 1, by omega, by go_num, ⟨C8, e8, HDx902.out, HROx906.out⟩, HFOx903.out, HGOx904.out, HKx905.out⟩
                case measure => simp [intOf]; omega
        · obtain rfl : k = v := by omega
          obtain ⟨i0, i1, i2, i3⟩ := HD.out.c4
          have hltd := HD.out.lt
          obtain ⟨j0, j1, j2, j3⟩ := ((HZ.out.step HK.out.2).blk 0 rfl).c4
          obtain ⟨f0, f1, f2, f3⟩ := ((HZ.out.step HK.out.2).blk 0 rfl).f4
          have hlt0 := ((HZ.out.step HK.out.2).blk 0 rfl).lt
          go_wp2_with fail
          have hbw : w.heap.size ≤ gn + 1 := by have := HGN.out; omega
          have hft : dr.take k = dr := List.take_of_length_le (by rw [HDL.out]; exact Nat.le_refl _)
          rw [hft] at HRO
          have HZ9 := Lib.hid (HZ.out.step HK.out.2)
          have hcg := chg_put4 (base := w.heap.size) (HZ9.out.blk 0 rfl) (by simp) prog_words (.int .i64 (m : Int)) (.slice C1 m e1) (.slice C2 m e2) (.slice C3 k e3)
          have HDQ : Hid (dualQ nq = ⟨(m : Int), fb, gb, dr⟩) := by unfold Hid dualQ; rw [HDN.out.rows, HDN.out.goal, HFB.out, HGB.out, HDR.out]
          rw [HN.out, HC.out, HDQ.out]
          exact ret26i Try.results14 rfl rfl ((HZ9.out.blk 0 rfl).put4 _ _ _ _) ⟨_, rfl, ⟨_, _, _, rfl, by show I64 (m : Int); unfold I64; omega, (OB.chg (OB.lower HFO.out hbw) hcg (by decide)).fr, QO.chg (HGO.out.lower hbw) hcg (by decide), RO.chg (RO.lower HRO.out hbw) hcg (by decide) (by decide)⟩, below_put4 HZ9.out.2 (by simp) _ _ _ _⟩
end Go.Proofs.Ytfhambfgjigneaa

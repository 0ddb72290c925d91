/- Contracts of the Go functions that the statement reaches, and plain laws over them. -/
import Derived.Test.YtfhambfgjigneaaKT2
import Derived.Test.YtfhambfgjigneaaKT1
import Derived.Maps.OwnSet
set_option linter.unusedVariables false
set_option linter.unusedSimpArgs false
set_option maxHeartbeats 64000000
set_option maxRecDepth 100000
namespace Go.Proofs.Ytfhambfgjigneaa
open Go.RowKit
theorem fneg_calls (w : World) (v : Value) (f : RawF) (h : FR w v f) : Calls Try.prog 42 #[v] w fun e w' => FPost w (-(fixQ f)) e w' := by
 obtain ⟨A1, n1, c1, A2, n2, c2, rfl, H⟩ := h.opened
 clear h
 go_enter Try.func42, Try.ntmps42
 go_wp2_with fail
 have H0 := Hd (HS.two (w := w) #[.bool f.neg, .slice A1 n1 c1, .slice A2 n2 c2] #[.bool false, .slice none 0 0, .slice none 0 0] 40 40)
 generalize (w.alloc (.cells #[.bool f.neg, .slice A1 n1 c1, .slice A2 n2 c2] 40)).alloc (.cells #[.bool false, .slice none 0 0, .slice none 0 0] 40) = W0 at *
 refine (taken_calls _ _ f (H.out.of_below H0.out.2)).mono ?_
 rintro e w1 ⟨v, rfl, hv, hb⟩
 obtain ⟨A5, n5, c5, A6, n6, c6, rfl, HV⟩ := hv.opened'
 have H1 := Hd (H0.out.step hb)
 clear hb hv
 go_wp2_with fail
 refine (minus_calls _ _ _ HV.out).mono ?_
 rintro e w2 ⟨v, rfl, hv, hb⟩
 obtain ⟨A5, n5, c5, A6, n6, c6, rfl, HV⟩ := hv.opened'
 have H2 := Hd (H1.out.step hb)
 clear hb hv
 go_wp2_with fail
 refine (told_calls _ _ _ HV.out (size_neg f)).mono ?_
 rintro e w3 ⟨v, rfl, hv, hb⟩
 have hcap : capQ (-(fixQ f)) = -(fixQ f) := by
  unfold capQ
  rw [if_pos]
  have := sizeQ_fix f
  unfold sizeQ at *
  rw [Rat.neg_num, Rat.neg_den, Int.natAbs_neg]
  exact this
 rw [hcap] at hv
 clear hcap
 obtain ⟨A5, n5, c5, A6, n6, c6, rfl, HV⟩ := hv.opened
 have H3 := Hd (H2.out.step hb)
 clear hb hv
 obtain ⟨e0, e1, e2⟩ := (H3.out.blk 0 rfl).c3
 obtain ⟨f0, f1, f2⟩ := (H3.out.blk 0 rfl).f3
 go_wp2_with fail
 exact end40 Try.results42 rfl (H3.out.blk 0 rfl) HV.out (by omega) H3.out.2
theorem HS.c2 {w W : World} {g t : Nat} {x y z x' y' z' : Value} {g1 g2 t1 t2 : Nat} (h : HS w [(g2, t2, #[x', y', z']), (g1, t1, #[x, y, z])] W) :
  W.cell? ⟨g1, 0, none⟩ = some x ∧ W.cell? ⟨g1, 1, none⟩ = some y ∧ W.cell? ⟨g1, 2, none⟩ = some z ∧ W.cell? ⟨g2, 0, none⟩ = some x' ∧ W.cell? ⟨g2, 1, none⟩ = some y' ∧ W.cell? ⟨g2, 2, none⟩ = some z' :=
 ⟨(h.blk 1 rfl).cell rfl, (h.blk 1 rfl).cell rfl, (h.blk 1 rfl).cell rfl, (h.blk 0 rfl).cell rfl, (h.blk 0 rfl).cell rfl, (h.blk 0 rfl).cell rfl⟩
theorem fcmp_calls (w : World) (v v2 : Value) (f g : RawF) (h : FR w v f) (h2 : FR w v2 g) : Calls Try.prog 31 #[v, v2] w fun e w' => IPost w (ordQ (fixQ f) (fixQ g)) e w' := by
 obtain ⟨A1, n1, c1, A2, n2, c2, rfl, H⟩ := h.opened
 obtain ⟨A3, n3, c3, A4, n4, c4, rfl, G⟩ := h2.opened
 clear h h2
 go_enter Try.func31, Try.ntmps31
 go_wp2_with fail
 have H0 := HS.two (w := w) #[.bool f.neg, .slice A1 n1 c1, .slice A2 n2 c2] #[.bool g.neg, .slice A3 n3 c3, .slice A4 n4 c4] 40 40
 generalize (w.alloc (.cells #[.bool f.neg, .slice A1 n1 c1, .slice A2 n2 c2] 40)).alloc (.cells #[.bool g.neg, .slice A3 n3 c3, .slice A4 n4 c4] 40) = W0 at *
 go_region_held3 (fun W => (W.cell? ⟨w.heap.size, 0, none⟩ = some (.bool f.neg) ∧ W.cell? ⟨w.heap.size, 1, none⟩ = some (.slice A1 n1 c1) ∧ W.cell? ⟨w.heap.size, 2, none⟩ = some (.slice A2 n2 c2) ∧
   W.cell? ⟨w.heap.size + 1, 0, none⟩ = some (.bool g.neg) ∧ W.cell? ⟨w.heap.size + 1, 1, none⟩ = some (.slice A3 n3 c3) ∧ W.cell? ⟨w.heap.size + 1, 2, none⟩ = some (.slice A4 n4 c4)) ∧ HS w [(w.heap.size + 1, 40, #[.bool g.neg, .slice A3 n3 c3, .slice A4 n4 c4]), (w.heap.size, 40, #[.bool f.neg, .slice A1 n1 c1, .slice A2 n2 c2])] W)
  (first
   | exact ⟨HS.c2 (g := 0) (t := 0) H0.drew, H0.drew⟩
   | (have hk9 := HS.step (And.right ‹_ ∧ HS _ _ _›) ‹_›; exact ⟨HS.c2 (g := 0) (t := 0) hk9, hk9⟩))
  (first
   | (go_at_call_of 69 (Value.agg #[.bool f.neg, .slice A1 n1 c1, .slice A2 n2 c2]); refine (taken_calls _ _ f (H.out.of_below (And.right ‹_ ∧ HS _ _ _›).2)).mono ?_; rintro e w' ⟨v, rfl, hv, hb⟩; obtain ⟨A5, n5, c5, A6, n6, c6, rfl, HV⟩ := hv.opened'; clear hv)
   | (go_at_call_of 69 (Value.agg #[.bool g.neg, .slice A3 n3 c3, .slice A4 n4 c4]); refine (taken_calls _ _ g (G.out.of_below (And.right ‹_ ∧ HS _ _ _›).2)).mono ?_; rintro e w' ⟨v, rfl, hv2, hb2⟩; obtain ⟨A7, n7, c7, A8, n8, c8, rfl, HV2⟩ := hv2.opened'; have HV1 := Hd (HV.out.of_below hb2); clear hv2)
   | (go_at_call 70; refine (order_calls _ _ _ _ _ HV1.out HV2.out (by have := sizeQ_fix f; omega) (by have := sizeQ_fix g; omega)).mono ?_; rintro e w' ⟨rfl, hb3⟩; have hb7 := (HS.step (And.right ‹_ ∧ HS _ _ _›) hb3).2))
 go_wp2_with fail
 go_ret
 exact ⟨by rw [← rawOrd_eq]; rfl, hb7⟩
def Elems {α : Type} (k : Nat) (E : World → Array Value → α → Prop) (w : World) (g o : Nat) (xs : List α) : Prop :=
 ∀ j x, xs[j]? = some x → ∃ vs : Array Value, vs.size = k ∧ (∀ i v, vs[i]? = some v → w.cell? ⟨g, o + j * k + i, none⟩ = some v) ∧ E w vs x
def SL {α : Type} (k : Nat) (E : World → Array Value → α → Prop) (w : World) (v : Value) (xs : List α) : Prop :=
 ∃ A c, v = .slice A xs.length c ∧ xs.length ≤ c ∧ (0 < xs.length → ∃ g o, A = some ⟨g, o, none⟩ ∧ g < w.heap.size ∧ Elems k E w g o xs)
def Stays {α : Type} (E : World → Array Value → α → Prop) : Prop := ∀ w w1 vs x, E w vs x → Below w.heap.size w w1 → E w1 vs x
theorem Elems.below {α : Type} {k : Nat} {E : World → Array Value → α → Prop} {w w1 : World} {g o : Nat} {xs : List α} (hE : Stays E) (h : Elems k E w g o xs) (hg : g < w.heap.size) (hb : Below w.heap.size w w1) : Elems k E w1 g o xs := fun j x hx => by
 obtain ⟨vs, hs, hc, he⟩ := h j x hx
 exact ⟨vs, hs, fun i v hv => ((bcell hb).1 g _ hg).trans (hc i v hv), hE _ _ _ _ he hb⟩
theorem SL.below {α : Type} {k : Nat} {E : World → Array Value → α → Prop} {w w1 : World} {v : Value} {xs : List α} (hE : Stays E) (h : SL k E w v xs) (hb : Below w.heap.size w w1) : SL k E w1 v xs := by
 obtain ⟨A, c, rfl, hc, hr⟩ := h
 refine ⟨A, c, rfl, hc, fun hp => ?_⟩
 obtain ⟨g, o, rfl, hg, he⟩ := hr hp
 exact ⟨g, o, rfl, Nat.lt_of_lt_of_le hg hb.size, he.below hE hg hb⟩
theorem SL.slice {α : Type} {k : Nat} {E : World → Array Value → α → Prop} {w : World} {v : Value} {xs : List α} (h : SL k E w v xs) : ∃ A c, v = .slice A xs.length c ∧ xs.length ≤ c := by
 obtain ⟨A, c, rfl, hc, _⟩ := h
 exact ⟨A, c, rfl, hc⟩
theorem SL.at_ {α : Type} {k : Nat} {E : World → Array Value → α → Prop} {w : World} {A : Option Addr} {n c : Nat} {xs : List α} (h : SL k E w (.slice A n c) xs) {j : Nat} {x : α} (hj : xs[j]? = some x) :
  ∃ g o vs, A = some ⟨g, o, none⟩ ∧ g < w.heap.size ∧ vs.size = k ∧ (∀ i v, vs[i]? = some v → w.cell? ⟨g, o + j * k + i, none⟩ = some v) ∧ E w vs x := by
 obtain ⟨A', c', e, hc, hr⟩ := h
 injection e with e1 e2 e3
 subst e1
 obtain ⟨g, o, rfl, hg, he⟩ := hr (by have := (List.getElem?_eq_some_iff.1 hj).1; omega)
 obtain ⟨vs, h1, h2, h3⟩ := he j x hj
 exact ⟨g, o, vs, rfl, hg, h1, h2, h3⟩
theorem SL.take {α : Type} {k : Nat} {E : World → Array Value → α → Prop} {w : World} {A : Option Addr} {c c' : Nat} {xs : List α} (h : SL k E w (.slice A xs.length c) xs) (n : Nat) (hn : n ≤ xs.length) (hc : n ≤ c') : SL k E w (.slice A n c') (xs.take n) := by
 obtain ⟨A', c1, e, _, hr⟩ := h
 injection e with e1 e2 e3
 subst e1
 have hl : (xs.take n).length = n := by rw [ltk, Nat.min_eq_left hn]
 refine ⟨A, c', by rw [hl], by rw [hl]; exact hc, fun hp => ?_⟩
 rw [hl] at hp
 obtain ⟨g, o, rfl, hg, he⟩ := hr (by omega)
 refine ⟨g, o, rfl, hg, fun j x hx => he j x ?_⟩
 rw [List.getElem?_take] at hx
 split at hx
 ·exact hx
 ·cases hx
def EF (w : World) (vs : Array Value) (f : RawF) : Prop := FR w (.agg vs) f
def EQ (w : World) (vs : Array Value) (q : Rat) : Prop := RQ w (.agg vs) q
theorem EF.stays : Stays EF := fun _ _ _ _ h hb => FR.of_below h hb
theorem EQ.stays : Stays EQ := fun _ _ _ _ h hb => RQ.of_below h hb
abbrev FL (w : World) (v : Value) (fs : List RawF) : Prop := SL 3 EF w v fs
abbrev QL (w : World) (v : Value) (qs : List Rat) : Prop := SL 3 EQ w v qs
theorem FL.at3 {w : World} {A : Option Addr} {n c : Nat} {fs : List RawF} (h : FL w (.slice A n c) fs) {j : Nat} {f : RawF} (hj : fs[j]? = some f) :
  ∃ g o A1 n1 c1 A2 n2 c2, A = some ⟨g, o, none⟩ ∧ g < w.heap.size ∧ w.cell? ⟨g, o + j * 3, none⟩ = some (.bool f.neg) ∧ w.cell? ⟨g, o + j * 3 + 1, none⟩ = some (.slice A1 n1 c1) ∧ w.cell? ⟨g, o + j * 3 + 2, none⟩ = some (.slice A2 n2 c2) ∧ Hid (FR w (.agg #[.bool f.neg, .slice A1 n1 c1, .slice A2 n2 c2]) f) := by
 obtain ⟨g, o, vs, hA, hg, hs, hc, he⟩ := h.at_ hj
 obtain ⟨A1, n1, c1, A2, n2, c2, e, hF⟩ := FR.opened he
 injection e with e
 subst e
 exact ⟨g, o, A1, n1, c1, A2, n2, c2, hA, hg, hc 0 _ rfl, hc 1 _ rfl, hc 2 _ rfl, hF⟩
theorem QL.at3 {w : World} {A : Option Addr} {n c : Nat} {qs : List Rat} (h : QL w (.slice A n c) qs) {j : Nat} {q : Rat} (hj : qs[j]? = some q) :
  ∃ g o A1 n1 c1 A2 n2 c2, A = some ⟨g, o, none⟩ ∧ g < w.heap.size ∧ w.cell? ⟨g, o + j * 3, none⟩ = some (.slice A1 n1 c1) ∧ w.cell? ⟨g, o + j * 3 + 1, none⟩ = some (.slice A2 n2 c2) ∧ w.cell? ⟨g, o + j * 3 + 2, none⟩ = some (.bool (negQ q)) ∧ Hid (RQ w (.agg #[.slice A1 n1 c1, .slice A2 n2 c2, .bool (negQ q)]) q) := by
 obtain ⟨g, o, vs, hA, hg, hs, hc, he⟩ := h.at_ hj
 obtain ⟨A1, n1, c1, A2, n2, c2, e, hF⟩ := RQ.opened' he
 injection e with e
 subst e
 exact ⟨g, o, A1, n1, c1, A2, n2, c2, hA, hg, hc 0 _ rfl, hc 1 _ rfl, hc 2 _ rfl, hF⟩
theorem info85m : (Try.prog.info? 85).map (fun i => (i.zero, i.size, i.bytes)) = some (some (.agg #[.slice none 0 0, .slice none 0 0, .bool false]), 3, 56) := by kernel_rfl
theorem info40m : (Try.prog.info? 40).map (fun i => (i.zero, i.size, i.bytes)) = some (some (.agg #[.bool false, .slice none 0 0, .slice none 0 0]), 3, 56) := by kernel_rfl
def Far {α : Type} (E : World → Array Value → α → Prop) : Prop := ∀ w w1 vs x g t cs, E w vs x → Blk w g t cs → (∀ x ∈ cs, notInt x = true) → w.heap.size ≤ w1.heap.size → (∀ k, k < w.heap.size → k ≠ g → w1.heap[k]? = w.heap[k]?) → E w1 vs x
theorem EQ.far : Far EQ := fun w w1 vs x g t cs h hb hn hs hk => by
 obtain ⟨v1, v2, e, h1, h2⟩ := h
 exact ⟨v1, v2, e, Rd.apart h1 hb hn hs hk, Rd.apart h2 hb hn hs hk⟩
def Row3 {α : Type} (t : Nat) (E : World → Array Value → α → Prop) (w : World) (g n : Nat) (xs : List α) : Prop :=
 ∃ cs : Array Value, Blk w g t cs ∧ cs.size = n * 3 ∧ (∀ x ∈ cs, notInt x = true) ∧ xs.length ≤ n ∧ ∀ j x, xs[j]? = some x → ∃ a b c, cs[j * 3]? = some a ∧ cs[j * 3 + 1]? = some b ∧ cs[j * 3 + 2]? = some c ∧ E w #[a, b, c] x
section
variable {α : Type} {E : World → Array Value → α → Prop} {w w1 : World} {g t n : Nat} {xs : List α}
theorem Row3.below (hE : Stays E) (h : Row3 t E w g n xs) (hb : Below w.heap.size w w1) : Row3 t E w1 g n xs := by
 obtain ⟨cs, hk, hs, hn, hl, he⟩ := h
 refine ⟨cs, hk.below hb hk.lt, hs, hn, hl, fun j x hx => ?_⟩
 obtain ⟨a, b, c, h0, h1, h2, h3⟩ := he j x hx
 exact ⟨a, b, c, h0, h1, h2, hE _ _ _ _ h3 hb⟩
theorem Row3.lt (h : Row3 t E w g n xs) : g < w.heap.size := by
 obtain ⟨cs, hk, _⟩ := h
 exact hk.lt
theorem Row3.cells (h : Row3 t E w g n xs) (i : Nat) (hi : i < n) : ∃ a b c, w.cell? ⟨g, i * 3, none⟩ = some a ∧ w.cell? ⟨g, i * 3 + 1, none⟩ = some b ∧ w.cell? ⟨g, i * 3 + 2, none⟩ = some c ∧ w.frozen? ⟨g, i * 3, none⟩ = false ∧ w.frozen? ⟨g, i * 3 + 1, none⟩ = false ∧ w.frozen? ⟨g, i * 3 + 2, none⟩ = false := by
 obtain ⟨cs, hk, hs, _⟩ := h
 exact ⟨cs[i * 3], cs[i * 3 + 1], cs[i * 3 + 2], hk.cell (Array.getElem?_eq_getElem (by omega)), hk.cell (Array.getElem?_eq_getElem (by omega)), hk.cell (Array.getElem?_eq_getElem (by omega)), hk.frozen _, hk.frozen _, hk.frozen _⟩
theorem sq67 (P : Prop) (h : P := by
 rw [Array.getElem?_setIfInBounds_ne (by omega), Array.getElem?_setIfInBounds_ne (by omega), Array.getElem?_setIfInBounds_ne (by omega)]; exact h0) : P := h
theorem sq68 (P : Prop) (h : P := by
 rw [Array.getElem?_setIfInBounds_ne (by omega), Array.getElem?_setIfInBounds_ne (by omega), Array.getElem?_setIfInBounds_ne (by omega)]; exact h1) : P := h
theorem sq41 (P : Prop) (h : P := by
 obtain ⟨a', b', c', h0, h1, h2, h3⟩ := he j y hy
 refine ⟨a', b', c', ?_, ?_, ?_, hE _ _ _ _ _ _ _ h3 hk hcn hsz hot⟩
 ·exact sq67 _
 ·exact sq68 _
 ·rw [Array.getElem?_setIfInBounds_ne (by omega), Array.getElem?_setIfInBounds_ne (by omega), Array.getElem?_setIfInBounds_ne (by omega)]; exact h2) : P := h
theorem sq48 (P : Prop) (h : P := by
 rw [Array.getElem?_setIfInBounds_ne (by omega), Array.getElem?_setIfInBounds_ne (by omega), Array.getElem?_setIfInBounds_self]; rw [if_pos (by omega)]) : P := h
theorem sq64 (P : Prop) (h : P := by
 rw [Array.getElem?_setIfInBounds_ne (by omega), Array.getElem?_setIfInBounds_self]; rw [if_pos (by simp; omega)]) : P := h
theorem Row3.push (hE : Far E) (h : Row3 t E w g n xs) {x : α} {a b c : Value} (hi : xs.length < n) (hx : E w #[a, b, c] x) (hn : ∀ u ∈ #[a, b, c], notInt u = true) :
  Row3 t E (((w.setCell ⟨g, xs.length * 3, none⟩ a).setCell ⟨g, xs.length * 3 + 1, none⟩ b).setCell ⟨g, xs.length * 3 + 2, none⟩ c) g n (xs ++ [x]) := by
 obtain ⟨cs, hk, hs, hcn, hl, he⟩ := h
 have hsz : w.heap.size ≤ (((w.setCell ⟨g, xs.length * 3, none⟩ a).setCell ⟨g, xs.length * 3 + 1, none⟩ b).setCell ⟨g, xs.length * 3 + 2, none⟩ c).heap.size := by simp [World.setCell]
 have hot : ∀ k, k < w.heap.size → k ≠ g → (((w.setCell ⟨g, xs.length * 3, none⟩ a).setCell ⟨g, xs.length * 3 + 1, none⟩ b).setCell ⟨g, xs.length * 3 + 2, none⟩ c).heap[k]? = w.heap[k]? := fun k _ hkg => by
  exact sq61 _
 have hset : ∀ {xs : Array Value} {i : Nat} {v : Value}, (∀ x ∈ xs, notInt x = true) → notInt v = true → ∀ x ∈ xs.setIfInBounds i v, notInt x = true := fun {xs i v} h1 h2 x hx => by
  rcases Array.mem_or_eq_of_mem_setIfInBounds hx with h | h
  ·exact h1 x h
  ·rw [h]; exact h2
 refine ⟨_, ((hk.put (xs.length * 3) a).put (xs.length * 3 + 1) b).put (xs.length * 3 + 2) c, by simp [hs], hset (hset (hset hcn (hn _ (by simp))) (hn _ (by simp))) (hn _ (by simp)), by simp; omega, fun j y hy => ?_⟩
 rw [List.getElem?_append] at hy
 split at hy
 ·rename_i hj
  exact sq41 _
 ·rename_i hj
  have h0 : j - xs.length = 0 := by
   have := (List.getElem?_eq_some_iff.1 hy).1
   simp at this
   omega
  rw [h0] at hy
  have hxy : x = y := by simpa using hy
  subst hxy
  obtain rfl : j = xs.length := by omega
  refine ⟨a, b, c, ?_, ?_, ?_, hE _ _ _ _ _ _ _ hx hk hcn hsz hot⟩
  ·exact sq48 _
  ·exact sq64 _
  ·rw [Array.getElem?_setIfInBounds_self]; rw [if_pos (by simp; omega)]
theorem Row3.done (h : Row3 t E w g n xs) (hn : xs.length = n) : SL 3 E w (.slice (some ⟨g, 0, none⟩) n n) xs := by
 obtain ⟨cs, hk, hs, hcn, hl, he⟩ := h
 refine ⟨_, _, by rw [hn], by omega, fun _ => ⟨g, 0, rfl, hk.lt, fun j x hx => ?_⟩⟩
 obtain ⟨a, b, c, h0, h1, h2, h3⟩ := he j x hx
 refine ⟨#[a, b, c], rfl, fun i v hv => ?_, h3⟩
 have hi : i < 3 := (Array.getElem?_eq_some_iff.1 hv).1
 match i, hi with
 | 0, _ => rw [show v = a by simpa using hv.symm]; exact hk.cell (by rw [Nat.zero_add]; exact h0)
 | 1, _ => rw [show v = b by simpa using hv.symm]; exact hk.cell (by rw [Nat.zero_add]; exact h1)
 | 2, _ => rw [show v = c by simpa using hv.symm]; exact hk.cell (by rw [Nat.zero_add]; exact h2)
theorem Row3.made (w : World) (t n : Nat) (z : Array Value) (hz : z.size = 3) (hn : ∀ u ∈ z, notInt u = true) : Row3 t E (w.alloc (.cells (madeCells z (n * 3)) t)) w.heap.size n ([] : List α) := by
 refine ⟨_, Blk.new w t _, by simp [size_madeCells], fun x hx => ?_, by simp, fun j x hx => by simp at hx⟩
 obtain ⟨i, hi, rfl⟩ := Array.getElem_of_mem hx
 have hp : i % z.size < z.size := Nat.mod_lt _ (by omega)
 simp only [madeCells, Array.getElem_map, Array.getElem_range]
 rw [getElem!_pos z _ hp]
 exact hn _ (Array.getElem_mem hp)
end
theorem run_make3 (t e : TypeId) (z : Value) (ht : Try.prog.underlying t = some (.slice e)) (hinfo : (Try.prog.info? e).map (fun i => (i.zero, i.size, i.bytes)) = some (some z, 3, 56)) (n : Nat) (hn : n ≤ 1000000000000) (w : World) :
  Sem.run Try.prog (Instr.makeSlice t (.int .i64 (n : Int)) (.int .i64 (n : Int))) w = .ok (.slice (some ⟨w.heap.size, 0, none⟩) n n) (w.alloc (.cells (madeCells z.cells (n * 3)) e)) := by
 obtain ⟨i, hi, hzz⟩ := Option.map_eq_some_iff.1 hinfo
 simp only [Prod.mk.injEq] at hzz
 obtain ⟨hz, hsz, hby⟩ := hzz
 have := run_make (P := Try.prog) w t e i _ ht hi hz .i64 .i64 (n : Int) (n : Int) (by omega) (Int.le_refl _) (by rw [hby]; omega) (by omega)
 rw [hsz, Int.toNat_natCast] at this
 exact this
def AllPost (w : World) (fs : List RawF) (e : Ending) (w' : World) : Prop := ∃ g, e = .returned (.slice (some ⟨g, 0, none⟩) fs.length fs.length) ∧ w.heap.size ≤ g ∧ g < w'.heap.size ∧ QL w' (.slice (some ⟨g, 0, none⟩) fs.length fs.length) (fs.map fixQ) ∧ Below w.heap.size w w'
theorem SL.put3 {α : Type} {E : World → Array Value → α → Prop} {w : World} {gq o n c : Nat} {xs : List α} {g t : Nat} {x y z a b d : Value} (hE : Far E) (h : SL 3 E w (.slice (some ⟨gq, o, none⟩) n c) xs) (hb : Blk w g t #[x, y, z]) (hn : ∀ u ∈ #[x, y, z], notInt u = true) (hne : gq ≠ g) :
  SL 3 E (((w.setCell ⟨g, 0, none⟩ a).setCell ⟨g, 1, none⟩ b).setCell ⟨g, 2, none⟩ d) (.slice (some ⟨gq, o, none⟩) n c) xs := by
 have hot : ∀ k, k ≠ g → (((w.setCell ⟨g, 0, none⟩ a).setCell ⟨g, 1, none⟩ b).setCell ⟨g, 2, none⟩ d).heap[k]? = w.heap[k]? := fun k hkg => by
  exact sq61 _
 have hsz : w.heap.size ≤ (((w.setCell ⟨g, 0, none⟩ a).setCell ⟨g, 1, none⟩ b).setCell ⟨g, 2, none⟩ d).heap.size := by simp [World.setCell]
 obtain ⟨A, c', e, hc, hr⟩ := h
 refine ⟨A, c', e, hc, fun hp => ?_⟩
 obtain ⟨g', o', rfl, hg, he⟩ := hr hp
 have hgq : gq = g' := by injection e with e1; injection e1 with e1; injection e1
 subst hgq
 refine ⟨gq, o', rfl, by omega, fun j y hy => ?_⟩
 obtain ⟨vs, h1, h2, h3⟩ := he j y hy
 exact ⟨vs, h1, fun i v hv => (World.cell?_of_block (a := ⟨gq, _, none⟩) (hot gq hne)).trans (h2 i v hv), hE _ _ _ _ _ _ _ h3 hb hn hsz fun k _ hk => hot k hk⟩
theorem all_calls (w : World) (v : Value) (fs : List RawF) (h : FL w v fs) (hl : fs.length ≤ 1000000000) : Calls Try.prog 91 #[v] w fun e w' => AllPost w fs e w' := by
 obtain ⟨A, c, rfl, hc⟩ := h.slice
 have HF := Hd h
 clear h
 go_enter Try.func91, Try.ntmps91
 have hmk := run_make3 108 85 _ Try.underlying108 info85m fs.length (by omega)
 go_wp2_with fail
 clear hmk
 have hr0 := Row3.made (E := EQ) w 85 fs.length #[.slice none 0 0, .slice none 0 0, .bool false] rfl ni85
 have hb0 := below_new w (.cells (madeCells #[.slice none 0 0, .slice none 0 0, .bool false] (fs.length * 3)) 85)
 generalize w.alloc (.cells (madeCells #[.slice none 0 0, .slice none 0 0, .bool false] (fs.length * 3)) 85) = W0 at *
 go_loopw [11] (fun vi wr => ∃ i : Nat, i ≤ fs.length ∧ vi = .int .i64 (i : Int) ∧ Row3 85 EQ wr w.heap.size fs.length ((fs.take i).map fixQ) ∧ Below w.heap.size w wr) (fun vi _ => fs.length - (intOf vi).toNat)
 case atStart => exact ⟨0, Nat.zero_le _, rfl, hr0, hb0⟩
 case round =>
  obtain ⟨i, hi, rfl, hrow, hb⟩ := hrel
  have HRW := Hd hrow
  have HB := Hd hb
  clear hrow hb hr0 hb0
  by_cases hlt : i < fs.length
  ·obtain ⟨f, hf⟩ : ∃ f, fs[i]? = some f := ⟨fs[i], geq hlt⟩
   obtain ⟨g, o, A1, n1, c1, A2, n2, c2, rfl, hg, k0, k1, k2, HE⟩ := FL.at3 (HF.out.below EF.stays HB.out) hf
   have HFI := Hd hf
   clear hf
   have m1 : (i : Int) < (fs.length : Int) := by omega
   have m3 : (i : Int).toNat = i := by omega
   have m4 : (0 : Int) ≤ (i : Int) := by omega
   go_wp2_with fail
   have hb1 := below_new wr (.cells #[.bool f.neg, .slice A1 n1 c1, .slice A2 n2 c2] 40)
   refine (taken_calls _ _ f (HE.out.of_below hb1)).mono ?_
   rintro e w2 ⟨v, rfl, hv, hb2⟩
   obtain ⟨A5, n5, c5, A6, n6, c6, rfl, HV⟩ := hv.opened'
   have HRW2 := Hd (HRW.out.below EQ.stays (below_next hb1 hb2))
   have HB2 := Hd (below_next HB.out (below_next hb1 hb2))
   clear hv hb1 hb2
   obtain ⟨a, b, d, e0, e1, e2, f0, f1, f2⟩ := HRW2.out.cells i hlt
   go_wp2_with fail
   go_roundw
   case rel =>
    have hlen : ((fs.take i).map fixQ).length = i := by rw [lmp, ltk, Nat.min_eq_left hi]
    refine ⟨i + 1, by omega, by go_num, ?_, ?_⟩
    ·have := HRW2.out.push EQ.far (by rw [hlen]; exact hlt) HV.out (by simp [notInt])
     rw [hlen] at this
     rw [List.take_add_one, HFI.out, List.map_append]
     exact this
    ·exact Below.setCell (Below.setCell (Below.setCell HB2.out (Nat.le_refl _) _) (Nat.le_refl _) _) (Nat.le_refl _) _
   case measure => simp [intOf]; omega
  ·obtain rfl : i = fs.length := by omega
   go_wp2_with fail
   go_ret
   refine ⟨w.heap.size, rfl, Nat.le_refl _, HRW.out.lt, ?_, HB.out⟩
   have := HRW.out.done (by simp)
   rw [List.take_length] at this
   exact this
def notWord : Value → Bool | .int .u32 _ => false | _ => true
def Keeps (w w1 : World) : Prop := w.heap.size ≤ w1.heap.size ∧ ∀ (g o : Nat) (n : Int), w.cell? ⟨g, o, none⟩ = some (.int .u32 n) → w1.cell? ⟨g, o, none⟩ = some (.int .u32 n)
theorem Keeps.trans {a b c : World} (h : Keeps a b) (h2 : Keeps b c) : Keeps a c := ⟨Nat.le_trans h.1 h2.1, fun g o n h3 => h2.2 g o n (h.2 g o n h3)⟩
theorem Keeps.of_below {w w1 : World} (h : Below w.heap.size w w1) : Keeps w w1 := ⟨h.size, fun g o n hc => by
 have hlt := World.block_lt_of_cell? w _ hc
 rw [(bcell h).1 g o hlt]
 exact hc⟩
theorem Keeps.set {w : World} {a : Addr} {v u : Value} (hu : w.cell? a = some u) (hn : notWord u = true) : Keeps w (w.setCell a v) := ⟨by simp [World.setCell], fun g o n hc => by
 rw [World.cell?_setCell_other _ _ _ _ (by
  rintro rfl
  rw [hu] at hc
  injection hc with hc
  rw [hc] at hn
  cases hn)]
 exact hc⟩
theorem Keeps.apart {w w1 : World} {g t : Nat} {cs : Array Value} (hb : Blk w g t cs) (hn : ∀ x ∈ cs, notWord x = true) (hs : w.heap.size ≤ w1.heap.size) (hk : ∀ k, k < w.heap.size → k ≠ g → w1.heap[k]? = w.heap[k]?) : Keeps w w1 :=
 ⟨hs, fun g' o n hc => by
  have hlt := World.block_lt_of_cell? w _ hc
  have hne : g' ≠ g := by
   rintro rfl
   simp only [World.cell?] at hc
   rw [show w.heap[g']? = some (.cells cs t (0, 0)) from hb] at hc
   simp at hc
   obtain ⟨hl, he⟩ := Array.getElem?_eq_some_iff.1 hc
   have := hn _ (Array.getElem_mem hl)
   rw [he] at this
   cases this
  rw [World.cell?_of_block (a := ⟨g', o, none⟩) (hk g' hlt hne)]
  exact hc⟩
theorem Rd.keeps {w w1 : World} {v : Value} {xs : List Nat} (h : Rd w v xs) (hk : Keeps w w1) : Rd w1 v xs := by
 obtain ⟨hw, A, c, rfl, hc, hr⟩ := h
 refine ⟨hw, A, c, rfl, hc, fun hp => ?_⟩
 obtain ⟨g, o, rfl, hg, hj⟩ := hr hp
 exact ⟨g, o, rfl, Nat.lt_of_lt_of_le hg hk.1, fun j hjl => hk.2 _ _ _ (hj j hjl)⟩
theorem FQ.keeps {w w1 : World} {v : Value} {q : Rat} (h : FQ w v q) (hk : Keeps w w1) : FQ w1 v q := by
 obtain ⟨v1, v2, e, h1, h2⟩ := h
 exact ⟨v1, v2, e, Rd.keeps h1 hk, Rd.keeps h2 hk⟩
theorem FR.keeps {w w1 : World} {v : Value} {f : RawF} (h : FR w v f) (hk : Keeps w w1) : FR w1 v f := by
 obtain ⟨hl, v1, v2, e, h1, h2⟩ := h
 exact ⟨hl, v1, v2, e, h1.keeps hk, h2.keeps hk⟩
def Leans {α : Type} (E : World → Array Value → α → Prop) : Prop := ∀ w w1 vs x, E w vs x → Keeps w w1 → E w1 vs x
theorem EF.leans : Leans EF := fun _ _ _ _ h hk => FR.keeps h hk
def OwnR (w : World) (base e k : Nat) (v : Value) (n : Nat) (xs : List Value) : Prop :=
 xs.length = n * k ∧ ((v = .slice none 0 0 ∧ n = 0) ∨ ∃ g cap cur, v = .slice (some ⟨g, 0, none⟩) n cap ∧ base ≤ g ∧ Blk w g e cur ∧ n ≤ cap ∧ cap ≤ maxLen ∧ cur.size = cap * k ∧ cur.toList.take (n * k) = xs ∧ ∀ u ∈ cur, notWord u = true)
theorem OwnR.nil (w : World) (base e k : Nat) : OwnR w base e k (.slice none 0 0) 0 [] := ⟨by simp, .inl ⟨rfl, rfl⟩⟩
theorem OwnR.move {w w1 : World} {base e k : Nat} {v : Value} {n : Nat} {xs : List Value} (h : OwnR w base e k v n xs) (hb : ∀ g, v.ownBlock = some g → w1.heap[g]? = w.heap[g]?) : OwnR w1 base e k v n xs := by
 obtain ⟨hl, h⟩ := h
 refine ⟨hl, ?_⟩
 rcases h with h | ⟨g, cap, cur, rfl, h1, h2, h3⟩
 ·exact .inl h
 ·exact .inr ⟨g, cap, cur, rfl, h1, (hb g rfl).trans h2, h3⟩
theorem OwnR.lt {w : World} {base e k : Nat} {v : Value} {n : Nat} {xs : List Value} (h : OwnR w base e k v n xs) : ∀ g, v.ownBlock = some g → base ≤ g ∧ g < w.heap.size := by
 rcases h.2 with ⟨rfl, _⟩ | ⟨g, cap, cur, rfl, h1, h2, h3⟩
 ·intro g hg; simp [Value.ownBlock] at hg
 ·intro g' hg
  simp [Value.ownBlock] at hg
  subst hg
  exact ⟨h1, h2.lt⟩
theorem OwnR.below {w w1 : World} {base e k : Nat} {v : Value} {n : Nat} {xs : List Value} (h : OwnR w base e k v n xs) (hb : Below w.heap.size w w1) : OwnR w1 base e k v n xs := h.move fun g hg => hb.block g (h.lt g hg).2
theorem OwnR.slice {w : World} {base e k : Nat} {v : Value} {n : Nat} {xs : List Value} (h : OwnR w base e k v n xs) : ∃ A c, v = .slice A n c ∧ n ≤ c := by
 rcases h.2 with ⟨rfl, rfl⟩ | ⟨g, cap, cur, rfl, _, _, h3, _⟩
 ·exact ⟨none, 0, rfl, Nat.le_refl _⟩
 ·exact ⟨_, _, rfl, h3⟩
theorem notWord_zeros {z : Array Value} (hz : ∀ u ∈ z, notWord u = true) (n : Nat) : ∀ u ∈ Builtin.zeroCells z n, notWord u = true := fun u hu => by
 simp only [Builtin.zeroCells] at hu
 obtain ⟨i, hi, rfl⟩ := Array.getElem_of_mem hu
 simp at hi
 by_cases h0 : z.size = 0
 ·simp [h0] at hi
 ·have hp : i % z.size < z.size := Nat.mod_lt _ (by omega)
  simp only [Array.getElem_map, Array.getElem_range]
  rw [getElem!_pos z _ hp]
  exact hz _ (Array.getElem_mem hp)
section
variable {P : Program}
theorem OwnR.append {w : World} {base e k : Nat} {v : Value} {n : Nat} {xs : List Value} (h : OwnR w base e k v n xs) (t ty : TypeId) (z : Value) (bytes : Nat) (ht : P.underlying t = some (.slice e))
  (hinfo : (P.info? e).map (fun i => (i.zero, i.size, i.bytes)) = some (some z, k, bytes)) (hzs : z.cells.size = k) (hzw : ∀ u ∈ z.cells, notWord u = true)
  (a : Addr) (m c : Nat) (news : List Value) (hl : news.length = m * k) (hnews : ∀ j u, news[j]? = some u → w.cell? (a.add j) = some u) (h1 : ∀ u ∈ news, u.oneCell' = true) (hnw : ∀ u ∈ news, notWord u = true)
  (hm : 0 < m) (h63 : n + m ≤ 140737488355328) (hbytes : (n + m) * bytes ≤ 140737488355328) (hbase : base ≤ w.heap.size) :
  ∃ v' w', (Builtin.append_ #[t, t] ty #[v, .slice (some a) m c]).run P w = .ok v' w' ∧ OwnR w' base e k v' (n + m) (xs ++ news) ∧ w.grownBy w' v.ownBlock ∧ Keeps w w' ∧ (∀ g, v'.ownBlock = some g → v.ownBlock = some g ∨ w.heap.size ≤ g) := by
 obtain ⟨i, hi, hzz⟩ := Option.map_eq_some_iff.1 hinfo
 simp only [Prod.mk.injEq] at hzz
 obtain ⟨hz, hsz, hby⟩ := hzz
 subst hsz
 subst hby
 have hlen : (xs ++ news).length = (n + m) * i.size := by rw [lap, h.1, hl, Nat.add_mul]
 have grown : ∀ (old : Nat), old < n + m → (∀ u ∈ xs, notWord u = true) → ∀ (row : Option Nat),
   OwnR (w.drew.alloc (.cells (xs.toArray ++ news.toArray ++ Builtin.zeroCells z.cells (grownCap w (n + m) old e - (n + m))) e)) base e i.size
    (.slice (some ⟨w.heap.size, 0, none⟩) (n + m) (grownCap w (n + m) old e)) (n + m) (xs ++ news) ∧
   w.grownBy (w.drew.alloc (.cells (xs.toArray ++ news.toArray ++ Builtin.zeroCells z.cells (grownCap w (n + m) old e - (n + m))) e)) row ∧ Keeps w (w.drew.alloc (.cells (xs.toArray ++ news.toArray ++ Builtin.zeroCells z.cells (grownCap w (n + m) old e - (n + m))) e)) := by
  intro old ho hxw row
  have hge := grownCap_ge w (n + m) old e
  have hcm : grownCap w (n + m) old e ≤ maxLen := grownCap_le_maxLen w (n + m) old e (by unfold maxLen; omega)
  refine ⟨⟨hlen, .inr ⟨w.heap.size, _, _, rfl, hbase, heap_alloc_new w.drew _, hge, hcm, ?_, ?_, fun u hu => ?_⟩⟩, ⟨rfl, rfl, rfl, by simp, fun j hj _ => heap_alloc_old w.drew _ hj⟩, Keeps.of_below (Below.alloc Bd (Nat.le_refl _) _)⟩
  ·simp only [Array.size_append, List.size_toArray, size_zeroCells, hzs, h.1, hl, ← Nat.add_mul]
   congr 1
   omega
  ·simp only [Array.toList_append, List.append_assoc]
   rw [← List.append_assoc, ← hlen]
   exact List.take_left
  ·simp only [Array.mem_append, List.mem_toArray] at hu
   rcases hu with (hu | hu) | hu
   ·exact hxw u hu
   ·exact hnw u hu
   ·exact notWord_zeros hzw _ u hu
 rcases h.2 with ⟨rfl, rfl⟩ | ⟨g, cap, cur, rfl, hbg, hg, hnc, hcm, hcs, htake, hcw⟩
 ·have hx : xs = [] := List.eq_nil_of_length_eq_zero (by simpa using h.1)
  subst hx
  have hr := run_append_nil (P := P) w t ty e i z ht hi hz a m c news hl hnews hm (by omega) (by have hb := hbytes; simp only [Nat.zero_add] at hb; omega)
  have hgr := grown 0 (by omega) (by simp) (Value.ownBlock (.slice none 0 0))
  simp only [Nat.zero_add, List.nil_append, Array.empty_append] at hgr ⊢
  exact ⟨_, _, hr, hgr.1, hgr.2.1, hgr.2.2, fun g hg => .inr (by simp [Value.ownBlock] at hg; omega)⟩
 ·by_cases hroom : n + m ≤ cap
  ·have hfit : n * i.size + news.length ≤ cur.size := by rw [hl, hcs, ← Nat.add_mul]; exact Nat.mul_le_mul_right _ hroom
   have hr := run_append_room (P := P) w t ty e i ht hi g n cap cur hg a m c news hl hnews h1 hroom hfit
   have hother : ∀ k, k < w.heap.size → k ≠ g → (w.setRow g (cur.toList.take (n * i.size) ++ news ++ cur.toList.drop (n * i.size + news.length)).toArray).heap[k]? = w.heap[k]? := fun k _ hk => setRow_other w g k _ hk
   refine ⟨_, _, hr, ⟨hlen, .inr ⟨g, cap, _, rfl, hbg, setRow_heap w g cur _ e _ hg, hroom, hcm, ?_, ?_, fun u hu => ?_⟩⟩, ⟨rfl, rfl, rfl, by simp, fun k hk hne => hother k hk (fun e => hne (by simp [Value.ownBlock, e]))⟩, Keeps.apart hg hcw (by simp) hother, fun q hq => .inl hq⟩
   ·simp only [List.size_toArray, lap, ltk, List.length_drop, Array.length_toList]
    omega
   ·rw [htake, ← hlen]
    exact List.take_left
   ·simp only [List.mem_toArray, List.mem_append] at hu
    rcases hu with (hu | hu) | hu
    ·exact hcw u (by simpa using List.mem_of_mem_take hu)
    ·exact hnw u hu
    ·exact hcw u (by simpa using List.mem_of_mem_drop hu)
  ·have holds : ∀ j u, xs[j]? = some u → w.cell? ((⟨g, 0, none⟩ : Addr).add j) = some u := fun j u hj => by
    rw [add_zero']
    refine hg.cell ?_
    rw [← htake, List.getElem?_take] at hj
    split at hj
    ·simpa using hj
    ·cases hj
   have hxw : ∀ u ∈ xs, notWord u = true := fun u hu => by
    rw [← htake] at hu
    exact hcw u (by simpa using List.mem_of_mem_take hu)
   have hr := run_append_grow (P := P) w t ty e i z ht hi hz ⟨g, 0, none⟩ n cap xs h.1 holds a m c news hl hnews (by omega) (by omega) (growslice_fits (by omega) hbytes)
   have hgr := grown cap (by omega) hxw (Value.ownBlock (.slice (some ⟨g, 0, none⟩) n cap))
   exact ⟨_, _, hr, hgr.1, hgr.2.1, hgr.2.2, fun q hq => .inr (by simp [Value.ownBlock] at hq; omega)⟩
variable {ops : Array Oper} {rest : List Oper} {o : Oper} {a : Act} {Q : Exit → Act → World → Prop}
theorem wpl_appendR {W : World} (hgd : o.guard = none) (s x : Operand) (t : TypeId) (ho : o.op = .call { callee := .builtin .append, args := #[s, x], argTypes := #[t, t] }) {base e k : Nat} (z : Value) (bytes : Nat)
  (ht : P.underlying t = some (.slice e)) (hinfo : (P.info? e).map (fun i => (i.zero, i.size, i.bytes)) = some (some z, k, bytes)) (hzs : z.cells.size = k) (hzw : ∀ u ∈ z.cells, notWord u = true)
  (v : Value) (n : Nat) (xs : List Value) (hs : a.eval s = v) (hown : OwnR W base e k v n xs)
  (ad : Addr) (m c : Nat) (news : List Value) (hx : a.eval x = .slice (some ad) m c) (hl : news.length = m * k) (hnews : ∀ j u, news[j]? = some u → W.cell? (ad.add j) = some u) (h1 : ∀ u ∈ news, u.oneCell' = true) (hnw : ∀ u ∈ news, notWord u = true)
  (hm : 0 < m) (h63 : n + m ≤ 140737488355328) (hbytes : (n + m) * bytes ≤ 140737488355328) (hbase : base ≤ W.heap.size)
  (h : ∀ v' w', OwnR w' base e k v' (n + m) (xs ++ news) → W.grownBy w' v.ownBlock → Keeps W w' → (∀ g, v'.ownBlock = some g → v.ownBlock = some g ∨ W.heap.size ≤ g) → wpList P ops Q rest (a.put o.dst v') w') : wpList P ops Q (o :: rest) a W :=
 wpList_plain hgd fun K hK => by
  obtain ⟨v', w', hr, h2, h3, h4, h5⟩ := hown.append (P := P) t o.type z bytes ht hinfo hzs hzw ad m c news hl hnews h1 hnw hm h63 hbytes hbase
  unfold Oper.wp execOp
  simp only [ho, resolve, invoke, builtin, Sem.run_bind, Sem.run_pure, Result.andThen_ok, List.map_toArray, List.map_cons, List.map_nil, hs, hx, hr]
  exact hK _ _ (h v' w' h2 h3 h4 h5)
end
def OL {α : Type} (k e : Nat) (E : World → Array Value → α → Prop) (base : Nat) (w : World) (v : Value) (ys : List α) : Prop :=
 ∃ xs, OwnR w base e k v ys.length xs ∧ ∀ j a, ys[j]? = some a → ∃ vs : Array Value, vs.size = k ∧ (∀ i u, vs[i]? = some u → xs[j * k + i]? = some u) ∧ E w vs a
section
variable {α : Type} {k e : Nat} {E : World → Array Value → α → Prop} {base : Nat} {w w1 : World} {v : Value} {ys : List α}
theorem OL.nil (k e : Nat) (E : World → Array Value → α → Prop) (base : Nat) (w : World) : OL k e E base w (.slice none 0 0) [] := ⟨[], OwnR.nil _ _ _ _, fun j a h => by simp at h⟩
theorem OL.below (hE : Stays E) (h : OL k e E base w v ys) (hb : Below w.heap.size w w1) : OL k e E base w1 v ys := by
 obtain ⟨xs, h1, h2⟩ := h
 refine ⟨xs, h1.below hb, fun j a hj => ?_⟩
 obtain ⟨vs, h3, h4, h5⟩ := h2 j a hj
 exact ⟨vs, h3, h4, hE _ _ _ _ h5 hb⟩
theorem OL.slice (h : OL k e E base w v ys) : ∃ A c, v = .slice A ys.length c ∧ ys.length ≤ c := by
 obtain ⟨xs, h1, _⟩ := h
 exact h1.slice
theorem OL.lt (h : OL k e E base w v ys) : ∀ g, v.ownBlock = some g → base ≤ g ∧ g < w.heap.size := by
 obtain ⟨xs, h1, _⟩ := h
 exact h1.lt
theorem OL.sl (h : OL k e E base w v ys) : SL k E w v ys := by
 obtain ⟨xs, ⟨hl, h1⟩, h2⟩ := h
 rcases h1 with ⟨rfl, h0⟩ | ⟨g, cap, cur, rfl, hb, hk, hnc, hcm, hcs, htake, hw⟩
 ·exact ⟨none, 0, by rw [h0], by omega, fun hp => by omega⟩
 ·refine ⟨_, cap, rfl, hnc, fun hp => ⟨g, 0, rfl, hk.lt, fun j x hj => ?_⟩⟩
  obtain ⟨vs, h3, h4, h5⟩ := h2 j x hj
  refine ⟨vs, h3, fun i u hi => ?_, h5⟩
  have h6 := h4 i u hi
  rw [Nat.zero_add]
  refine hk.cell ?_
  rw [← htake, List.getElem?_take] at h6
  split at h6
  ·simpa using h6
  ·cases h6
theorem sq34 (P : Prop) (h : P := by
 have h0 : j - ys.length = 0 := by
  have := (List.getElem?_eq_some_iff.1 hj).1
  simp at this
  omega
 rw [h0] at hj
 have hba : b = a := by simpa using hj
 subst hba
 obtain rfl : j = ys.length := by omega
 refine ⟨vs, hv, fun i u hi => ?_, hE _ _ _ _ hb hk⟩
 rw [← h1.1, List.getElem?_append_right (by omega), Nat.add_sub_cancel_left]
 simpa using hi) : P := h
theorem sq55 (P : Prop) (h : P := by
 obtain ⟨us, h3, h4, h5⟩ := h2 j a hj
 refine ⟨us, h3, fun i u hi => ?_, hE _ _ _ _ h5 hk⟩
 have h6 := h4 i u hi
 rw [List.getElem?_append_left (List.getElem?_eq_some_iff.1 h6).1]
 exact h6) : P := h
theorem OL.push (hE : Leans E) {v' : Value} {vs : Array Value} {b : α} (h : OL k e E base w v ys) (hv : vs.size = k) (hb : E w vs b) (hk : Keeps w w1) (hown : ∀ xs, OwnR w base e k v ys.length xs → OwnR w1 base e k v' (ys.length + 1) (xs ++ vs.toList)) : OL k e E base w1 v' (ys ++ [b]) := by
 obtain ⟨xs, h1, h2⟩ := h
 refine ⟨xs ++ vs.toList, by rw [lap]; exact hown xs h1, fun j a hj => ?_⟩
 rw [List.getElem?_append] at hj
 split at hj
 ·rename_i hlt
  exact sq55 _
 ·rename_i hge
  exact sq34 _
end
def sumQ (l : List Rat) : Rat := l.foldl (· + ·) 0
theorem sumQ_snoc (l : List Rat) (q : Rat) : sumQ (l ++ [q]) = sumQ l + q := by unfold sumQ; rw [List.foldl_append]; rfl
theorem fit_zero : FitQ 1 0 := by unfold FitQ; decide +kernel
theorem fit_fold (k : Nat) : ∀ (l : List Rat) (c : Nat) (a : Rat), FitQ c a → (∀ q ∈ l, FitQ k q) → FitQ (l.length * (k + 1) + c) (l.foldl (· + ·) a)
 | [], c, a, ha, _ => by simpa using ha
 | q :: l, c, a, ha, h => by
  have := fit_fold k l (c + k + 1) (a + q) (fit_add ha (h q (by simp)) (Nat.le_refl _)) fun x hx => h x (List.mem_cons_of_mem _ hx)
  rw [List.foldl_cons]
  refine fit_mono this ?_
  rw [List.length_cons, Nat.add_mul]
  omega
theorem fit_sum (l : List Rat) (k : Nat) (h : ∀ q ∈ l, FitQ k q) : FitQ (l.length * (k + 1) + 1) (sumQ l) := fit_fold k l 1 0 fit_zero h
def Acc (W : World) (g : Nat) (q : Rat) : Prop := ∃ A1 n1 c1 A2 n2 c2, Blk W g 85 #[.slice A1 n1 c1, .slice A2 n2 c2, .bool (negQ q)] ∧ RQ W (.agg #[.slice A1 n1 c1, .slice A2 n2 c2, .bool (negQ q)]) q
theorem Acc.step {W W' : World} {g : Nat} {q : Rat} (h : Acc W g q) (hb : Below W.heap.size W W') : Acc W' g q := by
 obtain ⟨A1, n1, c1, A2, n2, c2, h1, h2⟩ := h
 exact ⟨A1, n1, c1, A2, n2, c2, h1.below hb h1.lt, h2.of_below hb⟩
theorem ni_acc {A1 A2 : Option Addr} {n1 c1 n2 c2 : Nat} {s : Bool} : ∀ u ∈ #[Value.slice A1 n1 c1, .slice A2 n2 c2, .bool s], notInt u = true := by simp [notInt]
theorem Acc.put {W : World} {g : Nat} {q p : Rat} {A1 A2 : Option Addr} {n1 c1 n2 c2 : Nat} (h : Acc W g q) (hp : RQ W (.agg #[.slice A1 n1 c1, .slice A2 n2 c2, .bool (negQ p)]) p) : Acc (((W.setCell ⟨g, 0, none⟩ (.slice A1 n1 c1)).setCell ⟨g, 1, none⟩ (.slice A2 n2 c2)).setCell ⟨g, 2, none⟩ (.bool (negQ p))) g p := by
 obtain ⟨_, _, _, _, _, _, h1, _⟩ := h
 exact ⟨A1, n1, c1, A2, n2, c2, h1.put3 _ _ _, hp.put3 h1 ni_acc _ _ _⟩
theorem HS.other3 {w W : World} {bs : List (Nat × Nat × Array Value)} {g : Nat} (h : HS w bs W) (hg : w.heap.size ≤ g) (hne : ∀ b ∈ bs, b.1 ≠ g) (x y z : Value) : HS w bs (((W.setCell ⟨g, 0, none⟩ x).setCell ⟨g, 1, none⟩ y).setCell ⟨g, 2, none⟩ z) := by
 refine ⟨fun b hm => ?_, below_put3 h.2 hg x y z⟩
 exact (((h.1 b hm).other (a := ⟨g, 0, none⟩) (hne b hm) x).other (a := ⟨g, 1, none⟩) (hne b hm) y).other (a := ⟨g, 2, none⟩) (hne b hm) z
theorem fit_all (fs : List RawF) : ∀ q ∈ fs.map fixQ, FitQ 4096 q := fun q hq => by
 obtain ⟨f, _, rfl⟩ := List.mem_map.1 hq
 exact fit_fix f
theorem size_sums (fs : List RawF) (i : Nat) (hl : fs.length ≤ 100000) : sizeQ (sumQ ((fs.map fixQ).take i)) ≤ 4000000000 := by
 have := (fit_sum ((fs.map fixQ).take i) 4096 fun q hq => fit_all fs q (List.mem_of_mem_take hq)).size
 have h2 : ((fs.map fixQ).take i).length ≤ 100000 := by rw [ltk, lmp]; omega
 have h3 := Nat.mul_le_mul_right 4097 h2
 omega
theorem fsum_calls (w : World) (v : Value) (fs : List RawF) (h : FL w v fs) (hl : fs.length ≤ 100000) : Calls Try.prog 54 #[v] w fun e w' => FPost w (capQ (sumQ (fs.map fixQ))) e w' := by
 obtain ⟨A, c, rfl, hc⟩ := h.slice
 have HF := Hd h
 clear h
 go_enter Try.func54, Try.ntmps54
 go_wp2_with fail
 have H0 := Hd (HS.one (w := w) #[.bool false, .slice none 0 0, .slice none 0 0] 40)
 generalize w.alloc (.cells #[.bool false, .slice none 0 0, .slice none 0 0] 40) = W0 at *
 refine (whole_calls W0 0 (by decide) (by decide)).mono ?_
 rintro e w1 ⟨v, rfl, hv, hb⟩
 obtain ⟨A5, n5, c5, A6, n6, c6, rfl, HV⟩ := hv.opened'
 have H1 := Hd (H0.out.step hb)
 clear hb hv
 go_wp2_with fail
 have HA0 := Hd (show Acc (w1.alloc (.cells #[.slice A5 n5 c5, .slice A6 n6 c6, .bool (negQ 0)] 85)) w1.heap.size 0 from ⟨A5, n5, c5, A6, n6, c6, Blk.new _ _ _, HV.out.of_below (below_new _ _)⟩)
 have H2 := Hd (H1.out.more (.cells #[.slice A5 n5 c5, .slice A6 n6 c6, .bool (negQ 0)] 85))
 have hg0 := (H1.out.blk 0 rfl).lt
 have hw0 := H1.out.2.size
 have HF2 := Hd (HF.out.below EF.stays H2.out.2)
 obtain ⟨g3, hg3⟩ : ∃ g3, g3 = w1.heap.size := ⟨_, rfl⟩
 rw [← hg3] at HA0 hg0 hw0
 have HG3 := Hd hg3
 generalize w1.alloc (.cells #[.slice A5 n5 c5, .slice A6 n6 c6, .bool (negQ 0)] 85) = W2 at *
 rw [← hg3]
 clear hg3
 refine (all_calls _ _ fs HF2.out (by omega)).mono ?_
 rintro e w3 ⟨gq, rfl, hgq, hgq2, hql, hb⟩
 have HA3 := Hd (HA0.out.step hb)
 have hgq3 : g3 < gq := by obtain ⟨_, _, _, _, _, _, h1, _⟩ := HA0.out; have := h1.lt; omega
 have H3 := Hd (H2.out.step hb)
 have HQL := Hd hql
 clear hb hql
 go_wp2_with fail
 go_loopw [10] (fun vi wr => ∃ i : Nat, i ≤ fs.length ∧ vi = .int .i64 (i : Int) ∧ Acc wr g3 (sumQ ((fs.map fixQ).take i)) ∧ QL wr (.slice (some ⟨gq, 0, none⟩) fs.length fs.length) (fs.map fixQ) ∧ HS w [(w.heap.size, 40, #[.bool false, .slice none 0 0, .slice none 0 0])] wr) (fun vi _ => fs.length - (intOf vi).toNat)
 case atStart => exact ⟨0, Nat.zero_le _, rfl, HA3.out, HQL.out, H3.out⟩
 case round =>
  obtain ⟨i, hi, rfl, hacc, hq, hs⟩ := hrel
  have HA4 := Hd hacc
  have HQ4 := Hd hq
  have H4 := Hd hs
  clear hacc hq hs
  by_cases hlt : i < fs.length
  ·obtain ⟨q, hqi⟩ : ∃ q, (fs.map fixQ)[i]? = some q := ⟨(fs.map fixQ)[i]'(by simpa using hlt), geq (by simpa using hlt)⟩
   obtain ⟨g', o', A1, n1, c1, A2, n2, c2, eA, hg, k0, k1, k2, HE⟩ := QL.at3 HQ4.out hqi
   injection eA with eA
   injection eA with eA1 eA2
   subst eA1 eA2
   rw [Nat.zero_add] at k0 k1 k2
   have HQI := Hd hqi
   have hsq : sizeQ q ≤ 4000000000 := by
    have := (fit_all fs q (mog hqi)).size
    omega
   clear hqi
   have m1 : (i : Int) < (fs.length : Int) := by omega
   have m3 : (i : Int).toNat = i := by omega
   have m4 : (0 : Int) ≤ (i : Int) := by omega
   have hsz := size_sums fs i hl
   obtain ⟨B1, k1', d1, B2, k2', d2, hk, hR⟩ := HA4.out
   have HR1 := Hd hR
   have HK := Hd hk
   obtain ⟨a0, a1, a2⟩ := hk.c3
   have hlt3 := hk.lt
   clear hR hk
   go_wp2_with fail
   have hb1 := below_new wr (.cells #[.slice A1 n1 c1, .slice A2 n2 c2, .bool (negQ q)] 85)
   refine (plus_calls _ _ _ _ _ (HR1.out.of_below hb1) (HE.out.of_below hb1) hsz hsq).mono ?_
   rintro e w2 ⟨v, rfl, hv, hb2⟩
   obtain ⟨A7, n7, c7, A8, n8, c8, rfl, HV⟩ := hv.opened'
   have hbb := below_next hb1 hb2
   have HA5 := Hd (HA4.out.step hbb)
   have HQ5 := Hd (HQ4.out.below EQ.stays hbb)
   have H5 := Hd (H4.out.step hbb)
   obtain ⟨_, _, _, _, _, _, hk5, _⟩ := HA5.out
   obtain ⟨a0', a1', a2'⟩ := hk5.c3
   obtain ⟨f0, f1, f2⟩ := hk5.f3
   have HK5 := Hd hk5
   clear hv hb1 hb2 hbb hk5
   go_wp2_with fail
   go_roundw
   case rel =>
    refine ⟨i + 1, by omega, by go_num, ?_, HQ5.out.put3 EQ.far HK5.out ni_acc (by omega), H5.out.other3 (by omega) (by simp; omega) _ _ _⟩
    rw [List.take_add_one, HQI.out]
    have e : sumQ (List.take i (List.map fixQ fs) ++ (some q).toList) = sumQ (List.take i (List.map fixQ fs)) + q := sumQ_snoc _ _
    rw [e]
    exact HA5.out.put HV.out
   case measure => simp [intOf]; omega
  ·obtain rfl : i = fs.length := by omega
   rw [show (fs.map fixQ).take fs.length = fs.map fixQ from List.take_of_length_le (by simp)] at HA4
   obtain ⟨B1, k1', d1, B2, k2', d2, hk, hR⟩ := HA4.out
   have HR1 := Hd hR
   obtain ⟨a0, a1, a2⟩ := hk.c3
   clear hR hk
   have hsz := size_sums fs fs.length hl
   rw [show (fs.map fixQ).take fs.length = fs.map fixQ from List.take_of_length_le (by simp)] at hsz
   go_wp2_with fail
   refine (told_calls _ _ _ HR1.out hsz).mono ?_
   rintro e w2 ⟨v, rfl, hv, hb2⟩
   obtain ⟨A7, n7, c7, A8, n8, c8, rfl, HV⟩ := hv.opened
   have H5 := Hd (H4.out.step hb2)
   clear hv hb2
   obtain ⟨e0, e1, e2⟩ := (H5.out.blk 0 rfl).c3
   obtain ⟨f0, f1, f2⟩ := (H5.out.blk 0 rfl).f3
   go_wp2_with fail
   exact end40 Try.results54 rfl (H5.out.blk 0 rfl) HV.out (Nat.le_refl _) H5.out.2
def dotQ (a b : List Rat) : Rat := sumQ (List.zipWith (· * ·) a b)
theorem fit_dots (fs gs : List RawF) : ∀ q ∈ List.zipWith (· * ·) (fs.map fixQ) (gs.map fixQ), FitQ 8192 q := fun q hq => by
 obtain ⟨i, hi, rfl⟩ := List.getElem_of_mem hq
 rw [List.getElem_zipWith, List.getElem_map, List.getElem_map]
 exact fit_mul (fit_fix _) (fit_fix _) (by omega)
theorem size_dots (fs gs : List RawF) (i : Nat) (hl : fs.length ≤ 100000) : sizeQ (sumQ ((List.zipWith (· * ·) (fs.map fixQ) (gs.map fixQ)).take i)) ≤ 4000000000 := by
 have := (fit_sum ((List.zipWith (· * ·) (fs.map fixQ) (gs.map fixQ)).take i) 8192 fun q hq => fit_dots fs gs q (List.mem_of_mem_take hq)).size
 have h2 : ((List.zipWith (· * ·) (fs.map fixQ) (gs.map fixQ)).take i).length ≤ 100000 := by rw [ltk, List.length_zipWith, lmp]; omega
 have h3 := Nat.mul_le_mul_right 8193 h2
 omega
theorem fdot_calls (w : World) (v v2 : Value) (fs gs : List RawF) (h : FL w v fs) (h2 : FL w v2 gs) (hl : fs.length ≤ 100000) (hl2 : gs.length ≤ 100000) : Calls Try.prog 55 #[v, v2] w fun e w' => FPost w (capQ (dotQ (fs.map fixQ) (gs.map fixQ))) e w' := by
 obtain ⟨A, c, rfl, hc⟩ := h.slice
 obtain ⟨A', c', rfl, hc'⟩ := h2.slice
 have HF := Hd h
 have HG := Hd h2
 obtain ⟨ds, hds⟩ : ∃ ds, ds = List.zipWith (· * ·) (fs.map fixQ) (gs.map fixQ) := ⟨_, rfl⟩
 have HDS := Hd hds
 rw [show dotQ (fs.map fixQ) (gs.map fixQ) = sumQ ds from by rw [hds]; rfl]
 have hszs : ∀ i, sizeQ (sumQ (ds.take i)) ≤ 4000000000 := by rw [hds]; exact fun i => size_dots fs gs i hl
 have HSZ := Hd hszs
 clear h h2 hds hszs
 go_enter Try.func55, Try.ntmps55
 obtain ⟨m, hm⟩ : ∃ m : Nat, min (fs.length : Int) (gs.length : Int) = (m : Int) := ⟨min fs.length gs.length, by omega⟩
 have h1 : m ≤ fs.length := by omega
 have h2 : m ≤ gs.length := by omega
 have HM : Hid (m = min fs.length gs.length) := by unfold Hid; omega
 have h3 : (m : Int) ≤ (c : Int) := by omega
 have h4 : (m : Int) ≤ (c' : Int) := by omega
 have h5 : (m : Int).toNat = m := by omega
 go_wp2_with fail
 clear hm
 have H0 := Hd (HS.one (w := w) #[.bool false, .slice none 0 0, .slice none 0 0] 40)
 generalize w.alloc (.cells #[.bool false, .slice none 0 0, .slice none 0 0] 40) = W0 at *
 have HF1 := Hd (HF.out.take m h1 (Nat.le_refl _))
 have HG1 := Hd (HG.out.take m h2 (Nat.le_refl _))
 have lf : (fs.take m).length = m := by rw [ltk]; omega
 have lg : (gs.take m).length = m := by rw [ltk]; omega
 have LF := Hd lf
 have LG := Hd lg
 clear lf lg
 go_region_held3 (fun W => HS w [(w.heap.size, 40, #[.bool false, .slice none 0 0, .slice none 0 0])] W)
  (first
   | exact H0.out.drew
   | assumption
   | exact HS.step ‹HS _ _ _› ‹_›)
  (first
   | (go_at_call_of 91 (Value.slice A m m); refine (all_calls _ _ (fs.take m) (HF1.out.below EF.stays (HS.step ‹HS _ _ _› (Below.refl _ _)).2) (by rw [LF.out]; omega)).mono ?_; rintro e w3 ⟨gq, rfl, hgq, hgq2, hql, hb⟩; rw [LF.out])
   | (go_at_call_of 91 (Value.slice A' m m); refine (all_calls _ _ (gs.take m) (HG1.out.below EF.stays (HS.step ‹HS _ _ _› (Below.refl _ _)).2) (by rw [LG.out]; omega)).mono ?_; rintro e w4 ⟨gp, rfl, hgp, hgp2, hpl, hb4⟩; have H4 := Hd (HS.step ‹HS _ _ _› hb4); rw [LG.out]))
 have HQL := Hd (hql.below EQ.stays hb4)
 have HPL := Hd hpl
 rw [LF.out] at HQL
 rw [LG.out] at HPL
 clear hql hpl hb hb4
 have hgq4 : gq < w4.heap.size := by have := HQL.out; have := H4.out.2.size; have := HPL; omega
 go_wp2_with fail
 refine (whole_calls w4 0 (by decide) (by decide)).mono ?_
 rintro e w5 ⟨v, rfl, hv, hb⟩
 obtain ⟨A5, n5, c5, A6, n6, c6, rfl, HV⟩ := hv.opened'
 have H5 := Hd (H4.out.step hb)
 have HQ5 := Hd (HQL.out.below EQ.stays hb)
 have HP5 := Hd (HPL.out.below EQ.stays hb)
 have hs5 := hb.size
 have hg0 := (H5.out.blk 0 rfl).lt
 clear hv hb
 have HA0 := Hd (show Acc (w5.alloc (.cells #[.slice A5 n5 c5, .slice A6 n6 c6, .bool (negQ 0)] 85)) w5.heap.size 0 from ⟨A5, n5, c5, A6, n6, c6, Blk.new _ _ _, HV.out.of_below (below_new _ _)⟩)
 have H6 := Hd (H5.out.more (.cells #[.slice A5 n5 c5, .slice A6 n6 c6, .bool (negQ 0)] 85))
 have HQ6 := Hd (HQ5.out.below EQ.stays (below_new w5 (.cells #[.slice A5 n5 c5, .slice A6 n6 c6, .bool (negQ 0)] 85)))
 have HP6 := Hd (HP5.out.below EQ.stays (below_new w5 (.cells #[.slice A5 n5 c5, .slice A6 n6 c6, .bool (negQ 0)] 85)))
 go_wp2_with fail
 obtain ⟨g3, hg3⟩ : ∃ g3, g3 = w5.heap.size := ⟨_, rfl⟩
 rw [← hg3] at HA0
 have hq3 : gq ≠ g3 := by omega
 have hp3 : gp ≠ g3 := by omega
 have h03 : w.heap.size ≠ g3 := by omega
 have hw3 : w.heap.size ≤ g3 := by omega
 generalize w5.alloc (.cells #[.slice A5 n5 c5, .slice A6 n6 c6, .bool (negQ 0)] 85) = W6 at *
 rw [← hg3]
 clear hg3
 go_loopw [28] (fun vi wr => ∃ i : Nat, i ≤ m ∧ vi = .int .i64 (i : Int) ∧ Acc wr g3 (sumQ (ds.take i)) ∧ QL wr (.slice (some ⟨gq, 0, none⟩) m m) ((fs.take m).map fixQ) ∧ QL wr (.slice (some ⟨gp, 0, none⟩) m m) ((gs.take m).map fixQ) ∧ HS w [(w.heap.size, 40, #[.bool false, .slice none 0 0, .slice none 0 0])] wr) (fun vi _ => m - (intOf vi).toNat)
 case atStart => exact ⟨0, Nat.zero_le _, rfl, HA0.out, HQ6.out, HP6.out, H6.out⟩
 case round =>
  obtain ⟨i, hi, rfl, hacc, hq, hp, hs⟩ := hrel
  have HA4 := Hd hacc
  have HQ4 := Hd hq
  have HP4 := Hd hp
  have H7 := Hd hs
  clear hacc hq hp hs
  by_cases hlt : i < m
  ·have hif : i < fs.length := by omega
   have hig : i < gs.length := by omega
   have e1 : ((fs.take m).map fixQ)[i]? = some (fixQ fs[i]) := by simp [List.getElem?_map, List.getElem?_take, hlt, geq hif]
   have e2 : ((gs.take m).map fixQ)[i]? = some (fixQ gs[i]) := by simp [List.getElem?_map, List.getElem?_take, hlt, geq hig]
   have e3 : ds[i]? = some (fixQ fs[i] * fixQ gs[i]) := by rw [HDS.out]; simp [List.getElem?_zipWith, geq hif, geq hig]
   obtain ⟨p, hp⟩ : ∃ p, p = fixQ fs[i] := ⟨_, rfl⟩
   obtain ⟨q, hq⟩ : ∃ q, q = fixQ gs[i] := ⟨_, rfl⟩
   have fp : FitQ 4096 p := hp ▸ fit_fix _
   have fq : FitQ 4096 q := hq ▸ fit_fix _
   rw [← hp, ← hq] at e3
   rw [← hp] at e1
   rw [← hq] at e2
   clear hp hq
   obtain ⟨g', o', A1, n1, c1, A2, n2, c2, eA, hg, k0, k1, k2, HE⟩ := QL.at3 HQ4.out e1
   injection eA with eA
   injection eA with eA1 eA2
   subst eA1 eA2
   obtain ⟨g', o', A3, n3, c3, A4, n4, c4, eA, hg', k0', k1', k2', HE'⟩ := QL.at3 HP4.out e2
   injection eA with eA
   injection eA with eA1 eA2
   subst eA1 eA2
   rw [Nat.zero_add] at k0 k1 k2 k0' k1' k2'
   have HE3 := Hd e3
   clear e1 e2 e3
   have s1 : sizeQ p ≤ 4000000000 := by have := fp.size; omega
   have s2 : sizeQ q ≤ 4000000000 := by have := fq.size; omega
   have s3 : sizeQ (p * q) ≤ 4000000000 := by have := (fit_mul fp fq (Nat.le_refl _)).size; omega
   have s4 : sizeQ (sumQ (ds.take i)) ≤ 4000000000 := HSZ.out i
   clear fp fq
   have m1 : (i : Int) < (m : Int) := by omega
   have m3 : (i : Int).toNat = i := by omega
   have m4 : (0 : Int) ≤ (i : Int) := by omega
   obtain ⟨B1, b1, d1, B2, b2, d2, hk, hR⟩ := HA4.out
   have HR1 := Hd hR
   have HK := Hd hk
   obtain ⟨a0, a1, a2⟩ := hk.c3
   obtain ⟨f0, f1, f2⟩ := hk.f3
   have hlt3 := hk.lt
   clear hR hk
   go_wp2_with fail
   have HB0 := Hd (Below.refl wr.heap.size wr)
   refine wp_chain (S := Below wr.heap.size wr) 11 [([0, 1, 2, 3, 4, 5, 6, 7, 8], 9), ([], 10), ([], 11)] (by kernel_rfl) (by kernel_rfl) (by kernel_rfl) rfl Bd ?_
   refine ⟨?_, _, ?_, rfl, ?_⟩
   rotate_left
   ·repeat (refine pu ?_; (try simp only [SQ]))
    exact rfl
   go_wp2_with fail
   refine (times_calls _ _ _ p q (HE.out.of_below Bd) (HE'.out.of_below Bd) s1 s2).mono ?_
   rintro e w7 ⟨v, rfl, hv, hb⟩
   obtain ⟨A5, n5, c5, A6, n6, c6, rfl, HV5⟩ := hv.opened'
   have HB7 := Hd (below_next (Below.drew (Below.refl wr.heap.size wr)) hb)
   clear hv hb
   go_wp2_with fail
   refine And.intro HB7.out ⟨_, _, rfl, rfl, ?_⟩
   go_wp2_with fail
   refine (plus_calls _ _ _ _ _ (HR1.out.of_below HB7.out) HV5.out s4 s3).mono ?_
   rintro e w8 ⟨v, rfl, hv, hb⟩
   obtain ⟨A7, n7, c7, A8, n8, c8, rfl, HV6⟩ := hv.opened'
   have HB8 := Hd (below_next HB7.out hb)
   clear hv hb
   go_wp2_with fail
   refine And.intro HB8.out ⟨_, _, rfl, rfl, ?_⟩
   have HA5 := Hd (HA4.out.step HB8.out)
   obtain ⟨_, _, _, _, _, _, hk5, _⟩ := HA5.out
   obtain ⟨y0, y1, y2⟩ := hk5.c3
   obtain ⟨f0, f1, f2⟩ := hk5.f3
   have HK5 := Hd hk5
   clear hk5
   go_wp2_with fail
   refine NoPanic.normal ?_
   go_wp2_with fail
   go_roundw
   case rel =>
    refine ⟨i + 1, by omega, by go_num, ?_, (HQ4.out.below EQ.stays HB8.out).put3 EQ.far HK5.out ni_acc hq3, (HP4.out.below EQ.stays HB8.out).put3 EQ.far HK5.out ni_acc hp3, (H7.out.step HB8.out).other3 hw3 (by simp; omega) _ _ _⟩
    rw [List.take_add_one, HE3.out]
    have e : sumQ (List.take i ds ++ (some (p * q)).toList) = sumQ (List.take i ds) + p * q := sumQ_snoc _ _
    rw [e]
    exact HA5.out.put HV6.out
   case measure => simp [intOf]; omega
  ·obtain rfl : i = m := by omega
   have hzl : ds.take i = ds := List.take_of_length_le (by rw [HDS.out, List.length_zipWith, lmp, lmp]; have := HM.out; omega)
   have hsz := HSZ.out i
   rw [hzl] at HA4 hsz
   obtain ⟨B1, k1', d1, B2, k2', d2, hk, hR⟩ := HA4.out
   have HR1 := Hd hR
   obtain ⟨a0, a1, a2⟩ := hk.c3
   clear hR hk hzl
   go_wp2_with fail
   refine (told_calls _ _ _ HR1.out hsz).mono ?_
   rintro e w2 ⟨v, rfl, hv, hb2⟩
   obtain ⟨A7, n7, c7, A8, n8, c8, rfl, HV⟩ := hv.opened
   have H8 := Hd (H7.out.step hb2)
   clear hv hb2
   obtain ⟨e0, e1, e2⟩ := (H8.out.blk 0 rfl).c3
   obtain ⟨f0, f1, f2⟩ := (H8.out.blk 0 rfl).f3
   go_wp2_with fail
   exact end40 Try.results55 rfl (H8.out.blk 0 rfl) HV.out (Nat.le_refl _) H8.out.2
structure RowF where
 a : List RawF
 s : Int
 b : RawF
structure ProgF where
 vars : Int
 free : List Bool
 goal : List RawF
 rows : List RowF
def I64 (n : Int) : Prop := -9223372036854775808 ≤ n ∧ n ≤ 9223372036854775807
def EB (w : World) (vs : Array Value) (b : Bool) : Prop := vs = #[.bool b]
abbrev BL (w : World) (v : Value) (bs : List Bool) : Prop := SL 1 EB w v bs
def ER (w : World) (vs : Array Value) (r : RowF) : Prop := ∃ v A1 n1 c1 A2 n2 c2, vs = #[v, .int .i64 r.s, .bool r.b.neg, .slice A1 n1 c1, .slice A2 n2 c2] ∧ I64 r.s ∧ FL w v r.a ∧ FR w (.agg #[.bool r.b.neg, .slice A1 n1 c1, .slice A2 n2 c2]) r.b
abbrev RL (w : World) (v : Value) (rs : List RowF) : Prop := SL 5 ER w v rs
def PR (w : World) (v : Value) (p : ProgF) : Prop := ∃ v1 v2 v3, v = .agg #[.int .i64 p.vars, v1, v2, v3] ∧ I64 p.vars ∧ BL w v1 p.free ∧ FL w v2 p.goal ∧ RL w v3 p.rows
theorem EB.stays : Stays EB := fun _ _ _ _ h _ => h
theorem ER.stays : Stays ER := fun _ _ _ _ h hb => by
 obtain ⟨v, A1, n1, c1, A2, n2, c2, e, hs, h1, h2⟩ := h
 exact ⟨v, A1, n1, c1, A2, n2, c2, e, hs, h1.below EF.stays hb, h2.of_below hb⟩
theorem PR.of_below {w w1 : World} {v : Value} {p : ProgF} (h : PR w v p) (hb : Below w.heap.size w w1) : PR w1 v p := by
 obtain ⟨v1, v2, v3, e, hv, h1, h2, h3⟩ := h
 exact ⟨v1, v2, v3, e, hv, h1.below EB.stays hb, h2.below EF.stays hb, h3.below ER.stays hb⟩
theorem PR.opened {w : World} {v : Value} {p : ProgF} (h : PR w v p) : ∃ A1 c1 A2 c2 A3 c3, v = .agg #[.int .i64 p.vars, .slice A1 p.free.length c1, .slice A2 p.goal.length c2, .slice A3 p.rows.length c3] ∧ Hid (I64 p.vars) ∧ Hid (BL w (.slice A1 p.free.length c1) p.free) ∧ Hid (FL w (.slice A2 p.goal.length c2) p.goal) ∧ Hid (RL w (.slice A3 p.rows.length c3) p.rows) := by
 obtain ⟨v1, v2, v3, rfl, hv, h1, h2, h3⟩ := h
 obtain ⟨A1, c1, rfl, _⟩ := h1.slice
 obtain ⟨A2, c2, rfl, _⟩ := h2.slice
 obtain ⟨A3, c3, rfl, _⟩ := h3.slice
 exact ⟨A1, c1, A2, c2, A3, c3, rfl, hv, h1, h2, h3⟩
theorem RL.at5 {w : World} {A : Option Addr} {n c : Nat} {rs : List RowF} (h : RL w (.slice A n c) rs) {j : Nat} {r : RowF} (hj : rs[j]? = some r) :
  ∃ g o A1 c1 A2 n2 c2 A3 n3 c3, A = some ⟨g, o, none⟩ ∧ g < w.heap.size ∧ w.cell? ⟨g, o + j * 5, none⟩ = some (.slice A1 r.a.length c1) ∧ w.cell? ⟨g, o + j * 5 + 1, none⟩ = some (.int .i64 r.s) ∧ w.cell? ⟨g, o + j * 5 + 2, none⟩ = some (.bool r.b.neg) ∧
   w.cell? ⟨g, o + j * 5 + 3, none⟩ = some (.slice A2 n2 c2) ∧ w.cell? ⟨g, o + j * 5 + 4, none⟩ = some (.slice A3 n3 c3) ∧ Hid (I64 r.s) ∧ Hid (FL w (.slice A1 r.a.length c1) r.a) ∧ Hid (FR w (.agg #[.bool r.b.neg, .slice A2 n2 c2, .slice A3 n3 c3]) r.b) := by
 obtain ⟨g, o, vs, hA, hg, hs, hc, v, A2, n2, c2, A3, n3, c3, rfl, hI, h1, h2⟩ := h.at_ hj
 obtain ⟨A1, c1, rfl, _⟩ := h1.slice
 exact ⟨g, o, A1, c1, A2, n2, c2, A3, n3, c3, hA, hg, hc 0 _ rfl, hc 1 _ rfl, hc 2 _ rfl, hc 3 _ rfl, hc 4 _ rfl, hI, h1, h2⟩
def rowBad (vars : Int) (r : RowF) : Bool := decide ((r.a.length : Int) ≠ vars) || decide (r.s < -1) || decide (r.s > 1)
def rightP (p : ProgF) : Int := if p.vars > 160 ∨ p.rows.length > 400 then 1 else if p.vars < 1 ∨ (p.free.length : Int) ≠ p.vars ∨ (p.goal.length : Int) ≠ p.vars then 20 else if p.rows.any (rowBad p.vars) then 20 else 0
theorem rightP_a {p : ProgF} (h : p.vars > 160 ∨ p.rows.length > 400) : rightP p = 1 := by unfold rightP; rw [if_pos h]
theorem rightP_b {p : ProgF} (h : ¬ (p.vars > 160 ∨ p.rows.length > 400)) (h2 : p.vars < 1 ∨ (p.free.length : Int) ≠ p.vars ∨ (p.goal.length : Int) ≠ p.vars) : rightP p = 20 := by unfold rightP; rw [if_neg h, if_pos h2]
theorem rightP_c {p : ProgF} (h : ¬ (p.vars > 160 ∨ p.rows.length > 400)) (h2 : ¬ (p.vars < 1 ∨ (p.free.length : Int) ≠ p.vars ∨ (p.goal.length : Int) ≠ p.vars)) {i : Nat} {r : RowF} (hr : p.rows[i]? = some r) (hb : rowBad p.vars r = true) : rightP p = 20 := by
 unfold rightP
 rw [if_neg h, if_neg h2, if_pos (List.any_eq_true.2 ⟨r, mog hr, hb⟩)]
theorem rightP_d {p : ProgF} (h : ¬ (p.vars > 160 ∨ p.rows.length > 400)) (h2 : ¬ (p.vars < 1 ∨ (p.free.length : Int) ≠ p.vars ∨ (p.goal.length : Int) ≠ p.vars)) (ha : ∀ (j : Nat) (r : RowF), p.rows[j]? = some r → rowBad p.vars r = false) : rightP p = 0 := by
 unfold rightP
 rw [if_neg h, if_neg h2, if_neg]
 rw [List.any_eq_true]
 rintro ⟨r, hr, hb⟩
 obtain ⟨j, hj⟩ := List.getElem?_of_mem hr
 rw [ha j r hj] at hb
 cases hb
theorem bneI {a b : Int} (h : a ≠ b) : (a != b) = true := by simpa using h
theorem beqI {a b : Int} (h : a = b) : (a != b) = false := by simpa using h
theorem pright_calls (w : World) (v : Value) (p : ProgF) (h : PR w v p) : Calls Try.prog 20 #[v] w fun e w' => IPost w (rightP p) e w' := by
 obtain ⟨A1, c1, A2, c2, A3, c3, rfl, HI, H1, H2, H3⟩ := h.opened
 clear h
 obtain ⟨vars, hv⟩ : ∃ n, n = p.vars := ⟨_, rfl⟩
 rw [← hv]
 have HV := Hd hv
 clear hv
 go_enter Try.func20, Try.ntmps20
 by_cases a1 : vars > 160
 ·have t1 : decide (vars > 160) = true := decide_eq_true a1
  have HR := Hd (rightP_a (p := p) (.inl (HV.out ▸ a1)))
  clear a1
  go_wp2_with fail
  go_ret
  exact ⟨by rw [HR.out]; rfl, below_new w _⟩
 have t1 : decide (vars > 160) = false := decide_eq_false a1
 by_cases a2 : p.rows.length > 400
 ·have t2 : decide ((p.rows.length : Int) > 400) = true := dct
  have HR := Hd (rightP_a (p := p) (.inr a2))
  clear a1 a2
  go_wp2_with fail
  go_ret
  exact ⟨by rw [HR.out]; rfl, below_new w _⟩
 have t2 : decide ((p.rows.length : Int) > 400) = false := dcf
 have N1 : Hid (¬ (p.vars > 160 ∨ p.rows.length > 400)) := by unfold Hid; rw [← HV.out]; omega
 by_cases b1 : vars < 1
 ·have t3 : decide (vars < 1) = true := decide_eq_true b1
  have HR := Hd (rightP_b N1.out (.inl (HV.out ▸ b1)))
  clear a1 a2 b1
  go_wp2_with fail
  go_ret
  exact ⟨by rw [HR.out]; rfl, below_new w _⟩
 have t3 : decide (vars < 1) = false := decide_eq_false b1
 by_cases b2 : (p.free.length : Int) = vars
 case neg =>
  have t4 : ((p.free.length : Int) != vars) = true := bneI b2
  have HR := Hd (rightP_b N1.out (.inr (.inl (HV.out ▸ b2))))
  clear a1 a2 b1 b2
  go_wp2_with fail
  go_ret
  exact ⟨by rw [HR.out]; rfl, below_new w _⟩
 have t4 : ((p.free.length : Int) != vars) = false := beqI b2
 by_cases b3 : (p.goal.length : Int) = vars
 case neg =>
  have t5 : ((p.goal.length : Int) != vars) = true := bneI b3
  have HR := Hd (rightP_b N1.out (.inr (.inr (HV.out ▸ b3))))
  clear a1 a2 b1 b2 b3
  go_wp2_with fail
  go_ret
  exact ⟨by rw [HR.out]; rfl, below_new w _⟩
 have t5 : ((p.goal.length : Int) != vars) = false := beqI b3
 have N2 : Hid (¬ (p.vars < 1 ∨ (p.free.length : Int) ≠ p.vars ∨ (p.goal.length : Int) ≠ p.vars)) := by unfold Hid; rw [← HV.out]; omega
 clear a1 b1 b2 b3
 go_wp2_with fail
 have hb0 := below_new w (.cells #[.int .i64 vars, .slice A1 p.free.length c1, .slice A2 p.goal.length c2, .slice A3 p.rows.length c3] 26)
 have hk0 := Blk.new w 26 #[.int .i64 vars, .slice A1 p.free.length c1, .slice A2 p.goal.length c2, .slice A3 p.rows.length c3]
 generalize w.alloc (.cells #[.int .i64 vars, .slice A1 p.free.length c1, .slice A2 p.goal.length c2, .slice A3 p.rows.length c3] 26) = W0 at *
 go_loopw [36] (fun vi wr => ∃ i : Nat, i ≤ p.rows.length ∧ vi = .int .i64 (i : Int) ∧ (∀ j r, j < i → p.rows[j]? = some r → rowBad p.vars r = false) ∧ Blk wr w.heap.size 26 #[.int .i64 vars, .slice A1 p.free.length c1, .slice A2 p.goal.length c2, .slice A3 p.rows.length c3] ∧ Below w.heap.size w wr) (fun vi _ => p.rows.length - (intOf vi).toNat)
 case atStart => exact ⟨0, Nat.zero_le _, rfl, fun j r h => absurd h (Nat.not_lt_zero _), hk0, hb0⟩
 case round =>
  obtain ⟨i, hi, rfl, hall, hk, hb⟩ := hrel
  have HA := Hd hall
  have HK := Hd hk
  have HB := Hd hb
  clear hall hb hk hk0 hb0
  by_cases hlt : i < p.rows.length
  ·obtain ⟨r, hr⟩ : ∃ r, p.rows[i]? = some r := ⟨p.rows[i], geq hlt⟩
   obtain ⟨g, o, B1, d1, B2, n2, d2, B3, n3, d3, rfl, hg, k0, k1, k2, k3, k4, _, _, _⟩ := RL.at5 (H3.out.below ER.stays HB.out) hr
   have HRR := Hd hr
   clear hr
   have m1 : (i : Int) < (p.rows.length : Int) := by omega
   have m3 : (i : Int).toNat = i := by omega
   have m4 : (0 : Int) ≤ (i : Int) := by omega
   have x0 := HK.out.cell (j := 0) rfl
   have hz := HK.out.lt
   by_cases q1 : (r.a.length : Int) = vars
   case neg =>
    have u1 : ((r.a.length : Int) != vars) = true := bneI q1
    have HR := Hd (rightP_c N1.out N2.out HRR.out (by unfold rowBad; rw [← HV.out, decide_eq_true q1]; rfl))
    clear q1
    go_wp2_with fail
    go_ret
    exact ⟨by rw [HR.out]; rfl, below_next HB.out (below_new _ _)⟩
   have u1 : ((r.a.length : Int) != vars) = false := beqI q1
   by_cases q2 : r.s < -1
   ·have u2 : decide (r.s < -1) = true := decide_eq_true q2
    have HR := Hd (rightP_c N1.out N2.out HRR.out (by unfold rowBad; rw [decide_eq_true q2]; simp))
    clear q1 q2
    go_wp2_with fail
    go_ret
    exact ⟨by rw [HR.out]; rfl, below_next HB.out (below_new _ _)⟩
   have u2 : decide (r.s < -1) = false := decide_eq_false q2
   by_cases q3 : r.s > 1
   ·have u3 : decide (r.s > 1) = true := decide_eq_true q3
    have HR := Hd (rightP_c N1.out N2.out HRR.out (by unfold rowBad; rw [decide_eq_true q3]; simp))
    clear q1 q2 q3
    go_wp2_with fail
    go_ret
    exact ⟨by rw [HR.out]; rfl, below_next HB.out (below_new _ _)⟩
   have u3 : decide (r.s > 1) = false := decide_eq_false q3
   have HGood : Hid (rowBad p.vars r = false) := by unfold Hid rowBad; rw [← HV.out, decide_eq_false q2, decide_eq_false q3, decide_eq_false (by simpa using q1)]; rfl
   clear q1 q2 q3
   go_wp2_with fail
   go_roundw
   case rel =>
    refine ⟨i + 1, by omega, by go_num, fun j r' hj hr' => ?_, HK.out.alloc _, below_next HB.out (below_new _ _)⟩
    by_cases hji : j = i
    ·rw [hji, HRR.out] at hr'
     injection hr' with e
     subst e
     exact HGood.out
    ·exact HA.out j r' (by omega) hr'
   case measure => simp [intOf]; omega
  ·obtain rfl : i = p.rows.length := by omega
   have HR := Hd (rightP_d N1.out N2.out fun j r hr => HA.out j r (List.getElem?_eq_some_iff.1 hr).1 hr)
   go_wp2_with fail
   go_ret
   exact ⟨by rw [HR.out]; rfl, HB.out⟩
theorem HS.c4 {w W : World} {bs : List (Nat × Nat × Array Value)} {g t : Nat} {a b c d : Value} (h : HS w bs W) (i : Nat) (hi : bs[i]? = some (g, t, #[a, b, c, d])) : W.cell? ⟨g, 0, none⟩ = some a ∧ W.cell? ⟨g, 1, none⟩ = some b ∧ W.cell? ⟨g, 2, none⟩ = some c ∧ W.cell? ⟨g, 3, none⟩ = some d :=
 ⟨(h.blk i hi).cell rfl, (h.blk i hi).cell rfl, (h.blk i hi).cell rfl, (h.blk i hi).cell rfl⟩
noncomputable def valueP (p : ProgF) (x : List RawF) : Rat := if rightP p ≠ 0 ∨ (x.length : Int) ≠ p.vars then 0 else capQ (dotQ (p.goal.map fixQ) (x.map fixQ))
theorem capQ_zero : capQ 0 = 0 := by unfold capQ; split <;> rfl
theorem FL.nil (w : World) : FL w (.slice none 0 0) [] := ⟨none, 0, rfl, Nat.le_refl _, fun h => absurd h (by simp)⟩
theorem rightP_len {p : ProgF} (h : rightP p = 0) : (p.free.length : Int) = p.vars ∧ (p.goal.length : Int) = p.vars ∧ 1 ≤ p.vars ∧ p.vars ≤ 160 ∧ p.rows.length ≤ 400 ∧ ∀ (r : RowF), r ∈ p.rows → (r.a.length : Int) = p.vars ∧ -1 ≤ r.s ∧ r.s ≤ 1 := by
 unfold rightP at h
 split at h
 ·omega
 ·split at h
  ·omega
  ·split at h
   ·omega
   ·rename_i h1 h2 h3
    refine ⟨by omega, by omega, by omega, by omega, by omega, fun r hr => ?_⟩
    have hb : rowBad p.vars r = false := by
     cases e : rowBad p.vars r with
     | false => rfl
     | true => exact absurd (List.any_eq_true.2 ⟨r, hr, e⟩) h3
    unfold rowBad at hb
    simp only [Bool.or_eq_false_iff, decide_eq_false_iff_not] at hb
    exact ⟨by omega, by omega, by omega⟩
theorem sq37 (P : Prop) (h : P := by
 rintro e w2 ⟨v, rfl, hv, hb⟩
 obtain ⟨A5, n5, c5, A6, n6, c6, rfl, HV2⟩ := hv.opened
 have H2' := Hd (H1'.out.step hb)
 clear hb hv
 obtain ⟨e0, e1, e2⟩ := (H2'.out.blk 0 rfl).c3
 obtain ⟨f0, f1, f2⟩ := (H2'.out.blk 0 rfl).f3
 go_wp2_with fail
 rw [HE.out]
 exact end40 Try.results23 rfl (H2'.out.blk 0 rfl) HV2.out (by omega) H2'.out.2) : P := h
theorem value_calls (w : World) (v v2 : Value) (p : ProgF) (x : List RawF) (h : PR w v p) (h2 : FL w v2 x) : Calls Try.prog 23 #[v, v2] w fun e w' => FPost w (valueP p x) e w' := by
 have HP := Hd h
 obtain ⟨A1, c1, A2, c2, A3, c3, rfl, HI, H1, H2, H3⟩ := h.opened
 obtain ⟨A4, c4, rfl, hc4⟩ := h2.slice
 have HX := Hd h2
 clear h h2
 obtain ⟨vars, hv⟩ : ∃ n, n = p.vars := ⟨_, rfl⟩
 rw [← hv] at HP ⊢
 have HV := Hd hv
 clear hv
 go_enter Try.func23, Try.ntmps23
 go_wp2_with fail
 have H0 := Hd (HS.two (w := w) #[.int .i64 vars, .slice A1 p.free.length c1, .slice A2 p.goal.length c2, .slice A3 p.rows.length c3] #[.bool false, .slice none 0 0, .slice none 0 0] 26 40)
 generalize (w.alloc (.cells #[.int .i64 vars, .slice A1 p.free.length c1, .slice A2 p.goal.length c2, .slice A3 p.rows.length c3] 26)).alloc (.cells #[.bool false, .slice none 0 0, .slice none 0 0] 40) = W0 at *
 refine (pright_calls _ _ p (HP.out.of_below H0.out.2)).mono ?_
 rintro e w1 ⟨rfl, hb⟩
 have H1' := Hd (H0.out.step hb)
 obtain ⟨x0, x1, x2, x3⟩ := H1'.out.c4 1 rfl
 clear hb
 by_cases q1 : rightP p = 0
 case neg =>
  have u1 : (rightP p != 0) = true := bneI q1
  have HE := Hd (show valueP p x = 0 from if_pos (.inl q1))
  clear q1
  go_wp2_with fail
  refine (fsum_calls w1 _ [] (FL.nil _) (by simp)).mono ?_
  exact sq37 _
 have u1 : (rightP p != 0) = false := beqI q1
 by_cases q2 : (x.length : Int) = vars
 case neg =>
  have u2 : ((x.length : Int) != vars) = true := bneI q2
  have HE := Hd (show valueP p x = 0 from if_pos (.inr (by rw [← HV.out]; exact q2)))
  clear q1 q2
  go_wp2_with fail
  refine (fsum_calls w1 _ [] (FL.nil _) (by simp)).mono ?_
  exact sq37 _
 have u2 : ((x.length : Int) != vars) = false := beqI q2
 have HE := Hd (show valueP p x = capQ (dotQ (p.goal.map fixQ) (x.map fixQ)) from if_neg (by rw [← HV.out]; omega))
 have hrl := rightP_len q1
 have hgl : p.goal.length ≤ 100000 := by omega
 have hxl : x.length ≤ 100000 := by have := HV.out; omega
 clear q1 q2 hrl
 go_wp2_with fail
 refine (fdot_calls w1 _ _ p.goal x (H2.out.below EF.stays H1'.out.2) (HX.out.below EF.stays H1'.out.2) hgl hxl).mono ?_
 exact sq37 _
def holdsB (s : Int) (a b : Rat) : Bool := decide (ordQ a b = 0) || (decide (s ≠ 0) && decide (ordQ a b = s))
theorem holds_calls (w : World) (s : Int) (v v2 : Value) (f g : RawF) (h : FR w v f) (h2 : FR w v2 g) : Calls Try.prog 96 #[.int .i64 s, v, v2] w fun e w' => BPost w (holdsB s (fixQ f) (fixQ g)) e w' := by
 obtain ⟨A1, n1, c1, A2, n2, c2, rfl, H⟩ := h.opened
 obtain ⟨A3, n3, c3, A4, n4, c4, rfl, G⟩ := h2.opened
 clear h h2
 go_enter Try.func96, Try.ntmps96
 go_wp2_with fail
 have H0 := Hd (HS.two (w := w) #[.bool f.neg, .slice A1 n1 c1, .slice A2 n2 c2] #[.bool g.neg, .slice A3 n3 c3, .slice A4 n4 c4] 40 40)
 generalize (w.alloc (.cells #[.bool f.neg, .slice A1 n1 c1, .slice A2 n2 c2] 40)).alloc (.cells #[.bool g.neg, .slice A3 n3 c3, .slice A4 n4 c4] 40) = W0 at *
 refine (fcmp_calls W0 _ _ f g (H.out.of_below H0.out.2) (G.out.of_below H0.out.2)).mono ?_
 rintro e w1 ⟨rfl, hb⟩
 have H1 := Hd (H0.out.step hb)
 clear hb
 obtain ⟨c, hc⟩ : ∃ c, c = ordQ (fixQ f) (fixQ g) := ⟨_, rfl⟩
 have HE : Hid (holdsB s (fixQ f) (fixQ g) = (decide (c = 0) || (decide (s ≠ 0) && decide (c = s)))) := by unfold Hid holdsB; rw [hc]
 rw [← hc]
 clear hc
 by_cases q1 : c = 0
 ·have u1 : (c == 0) = true := by simpa using q1
  have HE2 : Hid (holdsB s (fixQ f) (fixQ g) = true) := by unfold Hid; rw [HE.out, decide_eq_true q1]; rfl
  clear q1
  go_wp2_with fail
  go_ret
  exact ⟨by rw [HE2.out]; rfl, H1.out.2⟩
 have u1 : (c == 0) = false := by simpa using q1
 by_cases q2 : s = 0
 ·have u2 : (s != 0) = false := beqI q2
  have HE2 : Hid (holdsB s (fixQ f) (fixQ g) = false) := by unfold Hid; rw [HE.out, decide_eq_false q1, decide_eq_false (by simpa using q2)]; rfl
  clear q1 q2
  go_wp2_with fail
  go_ret
  exact ⟨by rw [HE2.out]; rfl, H1.out.2⟩
 have u2 : (s != 0) = true := bneI q2
 by_cases q3 : c = s
 ·have u3 : (c == s) = true := by simpa using q3
  have HE2 : Hid (holdsB s (fixQ f) (fixQ g) = true) := by unfold Hid; rw [HE.out, decide_eq_true q2, decide_eq_true q3]; simp
  clear q1 q2 q3
  go_wp2_with fail
  go_ret
  exact ⟨by rw [HE2.out]; rfl, H1.out.2⟩
 ·have u3 : (c == s) = false := by simpa using q3
  have HE2 : Hid (holdsB s (fixQ f) (fixQ g) = false) := by unfold Hid; rw [HE.out, decide_eq_false q1, decide_eq_false q3]; simp
  clear q1 q2 q3
  go_wp2_with fail
  go_ret
  exact ⟨by rw [HE2.out]; rfl, H1.out.2⟩
theorem BL.at1 {w : World} {A : Option Addr} {n c : Nat} {bs : List Bool} (h : BL w (.slice A n c) bs) {j : Nat} {b : Bool} (hj : bs[j]? = some b) : ∃ g o, A = some ⟨g, o, none⟩ ∧ g < w.heap.size ∧ w.cell? ⟨g, o + j, none⟩ = some (.bool b) := by
 obtain ⟨g, o, vs, hA, hg, hs, hc, he⟩ := h.at_ hj
 subst he
 have := hc 0 _ rfl
 rw [Nat.mul_one] at this
 exact ⟨g, o, hA, hg, this⟩
def signedB (free : List Bool) (x : List Rat) : Bool := (free.zip x).all fun bq => bq.1 || !decide (signQ bq.2 < 0)
theorem signedB_false {free : List Bool} {x : List Rat} {i : Nat} {b : Bool} {q : Rat} (h1 : free[i]? = some b) (h2 : x[i]? = some q) (h : (b || !decide (signQ q < 0)) = false) : signedB free x = false := by
 unfold signedB
 rw [Bool.eq_false_iff, ne_eq, List.all_eq_true]
 intro h0
 have := h0 (b, q) (mog (i := i) (by rw [List.getElem?_zip_eq_some]; exact ⟨h1, h2⟩))
 rw [h] at this
 cases this
theorem signedB_true {free : List Bool} {x : List Rat} (h : ∀ (i : Nat) (b : Bool) (q : Rat), free[i]? = some b → x[i]? = some q → (b || !decide (signQ q < 0)) = true) : signedB free x = true := by
 unfold signedB
 rw [List.all_eq_true]
 rintro ⟨b, q⟩ hm
 obtain ⟨i, hi⟩ := List.getElem?_of_mem hm
 rw [List.getElem?_zip_eq_some] at hi
 exact h i b q hi.1 hi.2
theorem signed_calls (w : World) (v v2 : Value) (p : ProgF) (x : List RawF) (h : PR w v p) (h2 : FL w v2 x) (hl : x.length = p.free.length) (hs : x.length ≤ 100000) : Calls Try.prog 95 #[v, v2] w fun e w' => BPost w (signedB p.free (x.map fixQ)) e w' := by
 obtain ⟨A1, c1, A2, c2, A3, c3, rfl, HI, H1, H2, H3⟩ := h.opened
 obtain ⟨A4, c4, rfl, hc4⟩ := h2.slice
 have HX := Hd h2
 clear h h2
 obtain ⟨vars, hv⟩ : ∃ n, n = p.vars := ⟨_, rfl⟩
 rw [← hv]
 clear hv
 go_enter Try.func95, Try.ntmps95
 go_wp2_with fail
 have h0 := HS.one (w := w) #[.int .i64 vars, .slice A1 p.free.length c1, .slice A2 p.goal.length c2, .slice A3 p.rows.length c3] 26
 generalize w.alloc (.cells #[.int .i64 vars, .slice A1 p.free.length c1, .slice A2 p.goal.length c2, .slice A3 p.rows.length c3] 26) = W0 at *
 go_loopw [9] (fun vi wr => ∃ i : Nat, i ≤ x.length ∧ vi = .int .i64 (i : Int) ∧ (∀ (j : Nat) (b : Bool) (q : Rat), j < i → p.free[j]? = some b → (x.map fixQ)[j]? = some q → (b || !decide (signQ q < 0)) = true) ∧ HS w [(w.heap.size, 26, #[.int .i64 vars, .slice A1 p.free.length c1, .slice A2 p.goal.length c2, .slice A3 p.rows.length c3])] wr) (fun vi _ => x.length - (intOf vi).toNat)
 case atStart => exact ⟨0, Nat.zero_le _, rfl, fun j _ _ h => absurd h (Nat.not_lt_zero _), h0⟩
 case round =>
  obtain ⟨i, hi, rfl, hall, hk⟩ := hrel
  have HA := Hd hall
  have HK := Hd hk
  clear hall hk h0
  by_cases hlt : i < x.length
  ·obtain ⟨f, hf⟩ : ∃ f, x[i]? = some f := ⟨x[i], geq hlt⟩
   obtain ⟨b, hbf⟩ : ∃ b, p.free[i]? = some b := ⟨p.free[i], geq (by omega)⟩
   obtain ⟨g, o, B1, n1, d1, B2, n2, d2, rfl, hg, k0, k1, k2, HE⟩ := FL.at3 (HX.out.below EF.stays HK.out.2) hf
   obtain ⟨g2, o2, rfl, hg2, kb⟩ := BL.at1 (H1.out.below EB.stays HK.out.2) hbf
   have HXI : Hid ((x.map fixQ)[i]? = some (fixQ f)) := by unfold Hid; rw [List.getElem?_map, hf]; rfl
   have HFI := Hd hbf
   clear hf hbf
   have m1 : (i : Int) < (x.length : Int) := by omega
   have m2 : (i : Int) < (p.free.length : Int) := by omega
   have m3 : (i : Int).toNat = i := by omega
   have m4 : (0 : Int) ≤ (i : Int) := by omega
   obtain ⟨x0, x1, x2, x3⟩ := HK.out.c4 0 rfl
   have hz := (HK.out.blk 0 rfl).lt
   have hl2 := Hd hl
   clear hl
   have fin : ∀ wz, Below wr.heap.size wr wz → (b || !decide (signQ (fixQ f) < 0)) = true → (∃ i', i' ≤ x.length ∧ Value.int .i64 ((i : Int) + 1) = .int .i64 (i' : Int) ∧ (∀ (j : Nat) (b : Bool) (q : Rat), j < i' → p.free[j]? = some b → (x.map fixQ)[j]? = some q → (b || !decide (signQ q < 0)) = true) ∧ HS w [(w.heap.size, 26, #[.int .i64 vars, .slice (some ⟨g2, o2, none⟩) p.free.length c1, .slice A2 p.goal.length c2, .slice A3 p.rows.length c3])] wz) := fun wz hbz hgood => by
    refine ⟨i + 1, by omega, by go_num, fun j b' q' hj hb' hq' => ?_, HK.out.step hbz⟩
    by_cases hji : j = i
    ·subst hji
     rw [HFI.out] at hb'
     rw [HXI.out] at hq'
     injection hb' with e1
     injection hq' with e2
     rw [← e1, ← e2]
     exact hgood
    ·exact HA.out j b' q' (by omega) hb' hq'
   have HFin := Hd fin
   clear fin
   cases b with
   | true =>
    go_wp2_with fail
    go_roundw
    case rel => exact HFin.out _ (below_new _ _) rfl
    case measure => simp [intOf]; omega
   | false =>
    go_wp2_with fail
    have hb1 := below_new wr (.cells #[.bool f.neg, .slice B1 n1 d1, .slice B2 n2 d2] 40)
    refine (sgn_calls _ _ f (HE.out.of_below hb1)).mono ?_
    rintro e w2 ⟨rfl, hb2⟩
    have HB := Hd (below_next hb1 hb2)
    clear hb1 hb2
    by_cases q1 : signQ (fixQ f) < 0
    ·have u1 : decide (signQ (fixQ f) < 0) = true := decide_eq_true q1
     have HE2 := Hd (signedB_false HFI.out HXI.out (by rw [decide_eq_true q1]; rfl))
     clear q1
     go_wp2_with fail
     go_ret
     exact ⟨by rw [HE2.out]; rfl, (HK.out.step HB.out).2⟩
    ·have u1 : decide (signQ (fixQ f) < 0) = false := decide_eq_false q1
     have HG : Hid ((false || !decide (signQ (fixQ f) < 0)) = true) := by unfold Hid; rw [decide_eq_false q1]; rfl
     clear q1
     go_wp2_with fail
     go_roundw
     case rel => exact HFin.out _ HB.out HG.out
     case measure => simp [intOf]; omega
  ·obtain rfl : i = x.length := by omega
   have HE2 := Hd (signedB_true (free := p.free) (x := x.map fixQ) fun j b q h1 h2 => HA.out j b q (by have := (List.getElem?_eq_some_iff.1 h2).1; simpa using this) h1 h2)
   go_wp2_with fail
   go_ret
   exact ⟨by rw [HE2.out]; rfl, HK.out.2⟩
noncomputable def rowHolds (x : List Rat) (r : RowF) : Bool := holdsB r.s (capQ (dotQ (r.a.map fixQ) x)) (fixQ r.b)
noncomputable def fitsB (p : ProgF) (x : List RawF) : Bool := decide ((x.length : Int) = p.vars) && signedB p.free (x.map fixQ) && p.rows.all (rowHolds (x.map fixQ))
theorem fix_cap (q : Rat) : fixQ (rawQ (capQ q)) = capQ q := fixQ_raw _ (capQ_size q)
theorem all_false {α : Type} {l : List α} {f : α → Bool} {i : Nat} {a : α} (h : l[i]? = some a) (hf : f a = false) : l.all f = false := by
 rw [Bool.eq_false_iff, ne_eq, List.all_eq_true]
 intro h0
 rw [h0 a (mog h)] at hf
 cases hf
theorem all_true {α : Type} {l : List α} {f : α → Bool} (h : ∀ (i : Nat) (a : α), l[i]? = some a → f a = true) : l.all f = true := by
 rw [List.all_eq_true]
 intro a hm
 obtain ⟨i, hi⟩ := List.getElem?_of_mem hm
 exact h i a hi
theorem sq60 (P : Prop) (h : P := by
 by_cases hji : j = i
 ·rw [hji, HRR.out] at hr'
  injection hr' with e
  rw [← e]
  exact HG.out
 ·exact HA.out j r' (by omega) hr') : P := h
theorem fits_calls (w : World) (v v2 : Value) (p : ProgF) (x : List RawF) (h : PR w v p) (h2 : FL w v2 x) (hr : rightP p = 0) : Calls Try.prog 58 #[v, v2] w fun e w' => BPost w (fitsB p x) e w' := by
 have hrl := rightP_len hr
 clear hr
 have HP := Hd h
 obtain ⟨A1, c1, A2, c2, A3, c3, rfl, HI, H1, H2, H3⟩ := h.opened
 obtain ⟨A4, c4, rfl, hc4⟩ := h2.slice
 have HX := Hd h2
 clear h h2
 obtain ⟨vars, hv⟩ : ∃ n, n = p.vars := ⟨_, rfl⟩
 rw [← hv] at HP ⊢
 have HV := Hd hv
 have hfl : (p.free.length : Int) = vars := by rw [hv]; exact hrl.1
 have hvl : vars ≤ 160 := by rw [hv]; exact hrl.2.2.2.1
 have hrw : p.rows.length ≤ 400 := hrl.2.2.2.2.1
 have HROW : Hid (∀ (r : RowF), r ∈ p.rows → (r.a.length : Int) = vars) := by unfold Hid; rw [hv]; exact fun r hm => (hrl.2.2.2.2.2 r hm).1
 clear hv hrl
 go_enter Try.func58, Try.ntmps58
 by_cases q1 : (x.length : Int) = vars
 case neg =>
  have u1 : ((x.length : Int) != vars) = true := bneI q1
  have HE : Hid (fitsB p x = false) := by unfold Hid fitsB; rw [decide_eq_false (by rw [← HV.out]; exact q1)]; rfl
  clear q1 hfl
  go_wp2_with fail
  go_ret
  exact ⟨by rw [HE.out]; rfl, below_new w _⟩
 have u1 : ((x.length : Int) != vars) = false := beqI q1
 have hxl : x.length ≤ 100000 := by omega
 have hxf : x.length = p.free.length := by omega
 have HXV := Hd q1
 have HXF := Hd hxf
 clear q1 hfl hxf
 go_wp2_with fail
 have H0 := Hd (HS.one (w := w) #[.int .i64 vars, .slice A1 p.free.length c1, .slice A2 p.goal.length c2, .slice A3 p.rows.length c3] 26)
 generalize w.alloc (.cells #[.int .i64 vars, .slice A1 p.free.length c1, .slice A2 p.goal.length c2, .slice A3 p.rows.length c3] 26) = W0 at *
 refine (signed_calls W0 _ _ p x (HP.out.of_below H0.out.2) (HX.out.below EF.stays H0.out.2) HXF.out hxl).mono ?_
 rintro e w1 ⟨rfl, hb⟩
 have h1' := H0.out.step hb
 have H1' := Hd h1'
 obtain ⟨x0, x1, x2, x3⟩ := H1'.out.c4 0 rfl
 clear hb h1'
 cases hsg : signedB p.free (x.map fixQ) with
 | false =>
  have HE : Hid (fitsB p x = false) := by unfold Hid fitsB; rw [hsg]; simp
  clear hsg
  go_wp2_with fail
  go_ret
  exact ⟨by rw [HE.out]; rfl, H1'.out.2⟩
 | true =>
  have HE : Hid (fitsB p x = p.rows.all (rowHolds (x.map fixQ))) := by unfold Hid fitsB; rw [hsg, decide_eq_true (by rw [← HV.out]; exact HXV.out)]; simp
  clear hsg
  go_wp2_with fail
  clear x0 x1 x2 x3
  go_loopw [21] (fun vi wr => ∃ i : Nat, i ≤ p.rows.length ∧ vi = .int .i64 (i : Int) ∧ (∀ (j : Nat) (r : RowF), j < i → p.rows[j]? = some r → rowHolds (x.map fixQ) r = true) ∧ HS w [(w.heap.size, 26, #[.int .i64 vars, .slice A1 p.free.length c1, .slice A2 p.goal.length c2, .slice A3 p.rows.length c3])] wr) (fun vi _ => p.rows.length - (intOf vi).toNat)
  case atStart => exact ⟨0, Nat.zero_le _, rfl, fun j _ h => absurd h (Nat.not_lt_zero _), H1'.out⟩
  case round =>
   obtain ⟨i, hi, rfl, hall, hk⟩ := hrel
   have HA := Hd hall
   have HK := Hd hk
   clear hall hk
   by_cases hlt : i < p.rows.length
   ·obtain ⟨r, hr⟩ : ∃ r, p.rows[i]? = some r := ⟨p.rows[i], geq hlt⟩
    obtain ⟨g, o, B1, d1, B2, n2, d2, B3, n3, d3, rfl, hg, k0, k1, k2, k3, k4, HI', HA', HB'⟩ := RL.at5 (H3.out.below ER.stays HK.out.2) hr
    have hrl : r.a.length ≤ 100000 := by have := HROW.out r (mog hr); omega
    have HRR := Hd hr
    clear hr
    have m1 : (i : Int) < (p.rows.length : Int) := by omega
    have m3 : (i : Int).toNat = i := by omega
    have m4 : (0 : Int) ≤ (i : Int) := by omega
    obtain ⟨s, hs⟩ : ∃ s, s = r.s := ⟨_, rfl⟩
    rw [← hs] at k1
    have HSE := Hd hs
    clear hs
    go_wp2_with fail
    have hb1 := below_new wr (.cells #[.slice B1 r.a.length d1, .int .i64 s, .bool r.b.neg, .slice B2 n2 d2, .slice B3 n3 d3] 65)
    have hk1 := Blk.new wr 65 #[.slice B1 r.a.length d1, .int .i64 s, .bool r.b.neg, .slice B2 n2 d2, .slice B3 n3 d3]
    have HB1 := Hd hb1
    have z0 := hk1.cell (j := 0) rfl
    have z1 := hk1.cell (j := 1) rfl
    have z2 := hk1.cell (j := 2) rfl
    have z3 := hk1.cell (j := 3) rfl
    have z4 := hk1.cell (j := 4) rfl
    have hz := hk1.lt
    generalize wr.alloc (.cells #[.slice B1 r.a.length d1, .int .i64 s, .bool r.b.neg, .slice B2 n2 d2, .slice B3 n3 d3] 65) = W1 at *
    clear hk1 hb1
    refine wp_chainS (S := Below W1.heap.size W1) [([0, 1, 2, 3, 4, 6, 7], 5), ([], 8)] [9] (by kernel_rfl) (by kernel_rfl) (by kernel_rfl) rfl Bd ?_
    refine ⟨?_, _, ?_, rfl, ?_⟩
    rotate_left
    ·repeat (refine pu ?_; (try simp only [SQ]))
     exact rfl
    have hbd : Below W1.heap.size W1 W1.drew := Bd
    have hbx := below_next HB1.out hbd
    have HBX := Hd hbx
    go_wp2_with fail
    refine (fdot_calls _ _ _ r.a x (HA'.out.below EF.stays HBX.out) (HX.out.below EF.stays (HK.out.step HBX.out).2) hrl hxl).mono ?_
    rintro e w7 ⟨v, rfl, hv, hb⟩
    obtain ⟨A5, n5, c5, A6, n6, c6, rfl, HV5⟩ := hv.opened
    have HB7 := Hd (below_next hbd hb)
    have HB17 := Hd (below_next HB1.out HB7.out)
    clear hv hb hbd hbx
    go_wp2_with fail
    refine And.intro HB7.out ⟨_, _, rfl, rfl, ?_⟩
    go_wp2_with fail
    refine (holds_calls _ s _ _ _ r.b (FR.of_fq HV5.out (capQ_size _)) (HB'.out.of_below HB17.out)).mono ?_
    rintro e w8 ⟨rfl, hb⟩
    have HB8 := Hd (below_next HB7.out hb)
    have HB18 := Hd (below_next HB1.out HB8.out)
    have HH : Hid (holdsB s (fixQ (rawQ (capQ (dotQ (r.a.map fixQ) (x.map fixQ))))) (fixQ r.b) = rowHolds (x.map fixQ) r) := by unfold Hid rowHolds; rw [fix_cap, HSE.out]
    rw [HH.out]
    clear hb
    go_wp2_with fail
    refine And.intro HB8.out ⟨?_, ?_, ?_⟩
    rotate_left
    ·repeat (refine pu ?_; (try simp only [SQ]))
     exact rfl
    refine NoPanic.normal ?_
    cases hb : rowHolds (x.map fixQ) r with
    | false =>
     have HE2 : Hid (fitsB p x = false) := by unfold Hid; rw [HE.out]; exact all_false HRR.out hb
     clear hb
     go_wp2_with fail
     go_ret
     exact ⟨by rw [HE2.out]; rfl, (HK.out.step HB18.out).2⟩
    | true =>
     have HG := Hd hb
     clear hb
     go_wp2_with fail
     go_roundw
     case rel =>
      refine ⟨i + 1, by omega, by go_num, fun j r' hj hr' => ?_, HK.out.step HB18.out⟩
      exact sq60 _
     case measure => simp [intOf]; omega
   ·obtain rfl : i = p.rows.length := by omega
    have HE2 : Hid (fitsB p x = true) := by unfold Hid; rw [HE.out]; exact all_true fun j r hr => HA.out j r (List.getElem?_eq_some_iff.1 hr).1 hr
    go_wp2_with fail
    go_ret
    exact ⟨by rw [HE2.out]; rfl, HK.out.2⟩
noncomputable def fitsP (p : ProgF) (x : List RawF) : Bool := decide (rightP p = 0) && fitsB p x
theorem pfits_calls (w : World) (v v2 : Value) (p : ProgF) (x : List RawF) (h : PR w v p) (h2 : FL w v2 x) : Calls Try.prog 25 #[v, v2] w fun e w' => BPost w (fitsP p x) e w' := by
 have HP := Hd h
 obtain ⟨A1, c1, A2, c2, A3, c3, rfl, HI, H1, H2, H3⟩ := h.opened
 obtain ⟨A4, c4, rfl, hc4⟩ := h2.slice
 have HX := Hd h2
 clear h h2
 obtain ⟨vars, hv⟩ : ∃ n, n = p.vars := ⟨_, rfl⟩
 rw [← hv] at HP ⊢
 clear hv
 go_enter Try.func25, Try.ntmps25
 go_wp2_with fail
 have H0 := Hd (HS.one (w := w) #[.int .i64 vars, .slice A1 p.free.length c1, .slice A2 p.goal.length c2, .slice A3 p.rows.length c3] 26)
 generalize w.alloc (.cells #[.int .i64 vars, .slice A1 p.free.length c1, .slice A2 p.goal.length c2, .slice A3 p.rows.length c3] 26) = W0 at *
 refine (pright_calls W0 _ p (HP.out.of_below H0.out.2)).mono ?_
 rintro e w1 ⟨rfl, hb⟩
 have H1' := Hd (H0.out.step hb)
 obtain ⟨x0, x1, x2, x3⟩ := H1'.out.c4 0 rfl
 clear hb
 by_cases q1 : rightP p = 0
 ·have u1 : (rightP p == 0) = true := by simpa using q1
  have HR := Hd q1
  have HE : Hid (fitsP p x = fitsB p x) := by unfold Hid fitsP; rw [decide_eq_true q1]; rfl
  clear q1
  go_wp2_with fail
  refine (fits_calls w1 _ _ p x (HP.out.of_below H1'.out.2) (HX.out.below EF.stays H1'.out.2) HR.out).mono ?_
  rintro e w2 ⟨rfl, hb⟩
  have H2' := Hd (H1'.out.step hb)
  clear hb
  go_wp2_with fail
  go_ret
  exact ⟨by rw [HE.out]; rfl, H2'.out.2⟩
 ·have u1 : (rightP p == 0) = false := by simpa using q1
  have HE : Hid (fitsP p x = false) := by unfold Hid fitsP; rw [decide_eq_false q1]; rfl
  clear q1
  go_wp2_with fail
  go_ret
  exact ⟨by rw [HE.out]; rfl, H1'.out.2⟩
theorem HS.grown {w W W' : World} {bs : List (Nat × Nat × Array Value)} {row : Option Nat} (h : HS w bs W) (hg : W.grownBy W' row) (hb : ∀ b ∈ bs, some b.1 ≠ row) (hr : ∀ g, row = some g → w.heap.size ≤ g) : HS w bs W' :=
 ⟨fun b hm => (hg.block b.1 (h.1 b hm).lt (hb b hm)).trans (h.1 b hm), ⟨hg.os.trans h.2.os, hg.tape.trans h.2.tape, hg.output.trans h.2.output, Nat.le_trans h.2.size hg.size, fun k hk => (hg.block k (Nat.lt_of_lt_of_le hk h.2.size) (fun e => by have := hr k e.symm; omega)).trans (h.2.block k hk)⟩⟩
theorem lit_cells {w : World} {g t : Nat} {cs : Array Value} (h : Blk w g t cs) : ∀ j u, cs.toList[j]? = some u → w.cell? ((⟨g, 0, none⟩ : Addr).add j) = some u := fun j u hu => by
 rw [add_zero']
 exact h.cell (by simpa using hu)
theorem Blk.newAt {w : World} {g t : Nat} {cs : Array Value} (h : w.heap.size = g) : Blk (w.alloc (.cells cs t)) g t cs := by rw [← h]; exact Blk.new w t cs
def zeroF : Value := .agg #[.bool false, .slice none 0 0, .slice none 0 0]
theorem info40z : (Try.prog.info? 40).map (fun i => (i.zero, i.size, i.bytes)) = some (some zeroF, 3, 56) := info40m
theorem zeroF_words : ∀ u ∈ zeroF.cells, notWord u = true := by simp [zeroF, Value.cells, notWord]
theorem frac_one {b : Bool} {A1 A2 : Option Addr} {n1 c1 n2 c2 : Nat} : ∀ u ∈ [Value.bool b, .slice A1 n1 c1, .slice A2 n2 c2], u.oneCell' = true := by
 intro u hu
 simp only [List.mem_cons, List.not_mem_nil, or_false] at hu
 rcases hu with rfl | rfl | rfl <;> rfl
theorem frac_word {b : Bool} {A1 A2 : Option Addr} {n1 c1 n2 c2 : Nat} : ∀ u ∈ [Value.bool b, .slice A1 n1 c1, .slice A2 n2 c2], notWord u = true := by
 intro u hu
 simp only [List.mem_cons, List.not_mem_nil, or_false] at hu
 rcases hu with rfl | rfl | rfl <;> rfl
theorem wpl_appendF {ops : Array Oper} {rest : List Oper} {o : Oper} {a : Act} {Q : Exit → Act → World → Prop} {W : World} (hgd : o.guard = none) (s x : Operand) (ho : o.op = .call { callee := .builtin .append, args := #[s, x], argTypes := #[23, 23] }) {base : Nat}
  (v : Value) (fs : List RawF) (hs : a.eval s = v) (hown : OL 3 40 EF base W v fs) {g : Nat} {b : Bool} {A1 A2 : Option Addr} {n1 c1 n2 c2 : Nat} (f : RawF) (hx : a.eval x = .slice (some ⟨g, 0, none⟩) 1 1) (hk : Blk W g 40 #[.bool b, .slice A1 n1 c1, .slice A2 n2 c2]) (hf : FR W (.agg #[.bool b, .slice A1 n1 c1, .slice A2 n2 c2]) f)
  (hl : fs.length ≤ 1000000000) (hbase : base ≤ W.heap.size)
  (h : ∀ v' w', OL 3 40 EF base w' v' (fs ++ [f]) → W.grownBy w' v.ownBlock → Keeps W w' → (∀ g, v'.ownBlock = some g → v.ownBlock = some g ∨ W.heap.size ≤ g) → wpList Try.prog ops Q rest (a.put o.dst v') w') : wpList Try.prog ops Q (o :: rest) a W := by
 obtain ⟨xs, h1, h2⟩ := hown
 refine wpl_appendR hgd s x 23 ho (base := base) zeroF 56 Try.underlying23 info40z rfl zeroF_words v fs.length xs hs h1 ⟨g, 0, none⟩ 1 1 [.bool b, .slice A1 n1 c1, .slice A2 n2 c2] hx rfl (lit_cells hk) frac_one frac_word (by decide) (by omega) (by omega) hbase fun v' w' h3 h4 h5 h6 => h v' w' ?_ h4 h5 h6
 refine OL.push EF.leans (k := 3) (e := 40) (vs := #[.bool b, .slice A1 n1 c1, .slice A2 n2 c2]) ⟨xs, h1, h2⟩ rfl hf h5 fun ys hys => ?_
 have hxy : ys.length = xs.length := by rw [hys.1, h1.1]
 obtain rfl : ys = xs := by
  rcases h1.2 with ⟨e, h0⟩ | ⟨g1, c1', cu1, e1, _, hb1, _, _, _, ht1, _⟩
  ·have l1 : xs = [] := List.eq_nil_of_length_eq_zero (by rw [h1.1, h0, Nat.zero_mul])
   rw [l1] at hxy ⊢
   exact List.eq_nil_of_length_eq_zero hxy
  ·rcases hys.2 with ⟨e, h0⟩ | ⟨g2, c2', cu2, e2, _, hb2, _, _, _, ht2, _⟩
   ·rw [e1] at e; cases e
   ·rw [e1] at e2
    injection e2 with e2 _ _
    injection e2 with e2
    injection e2 with e2
    subst e2
    have : cu1 = cu2 := by
     have h7 := hb1.symm.trans hb2
     injection h7 with h7
     injection h7
    rw [← ht1, ← ht2, this]
 exact h3
noncomputable def rightsQ (p : ProgF) (y : List RawF) : Rat := capQ (dotQ (y.map fixQ) (p.rows.map fun r => fixQ r.b))
theorem rights_calls (w : World) (v v2 : Value) (p : ProgF) (y : List RawF) (h : PR w v p) (h2 : FL w v2 y) (hr : p.rows.length ≤ 400) (hy : y.length ≤ 100000) : Calls Try.prog 62 #[v, v2] w fun e w' => FPost w (rightsQ p y) e w' := by
 obtain ⟨A1, c1, A2, c2, A3, c3, rfl, HI, H1, H2, H3⟩ := h.opened
 obtain ⟨A4, c4, rfl, hc4⟩ := h2.slice
 have HY := Hd h2
 clear h h2
 obtain ⟨vars, hv⟩ : ∃ n, n = p.vars := ⟨_, rfl⟩
 rw [← hv]
 clear hv
 obtain ⟨bs, hbs⟩ : ∃ bs, bs = p.rows.map (fun r => r.b) := ⟨_, rfl⟩
 have HBS := Hd hbs
 have hbl : bs.length = p.rows.length := by rw [hbs, lmp]
 have HBL := Hd hbl
 have HQ : Hid (rightsQ p y = capQ (dotQ (y.map fixQ) (bs.map fixQ))) := by unfold Hid rightsQ; rw [hbs, List.map_map]; rfl
 clear hbs hbl
 rw [HQ.out]
 go_enter Try.func62, Try.ntmps62
 go_wp2_with fail
 have H0 := Hd (HS.two (w := w) #[.int .i64 vars, .slice A1 p.free.length c1, .slice A2 p.goal.length c2, .slice A3 p.rows.length c3] #[.bool false, .slice none 0 0, .slice none 0 0] 26 40)
 have hsz0 : ((w.alloc (.cells #[.int .i64 vars, .slice A1 p.free.length c1, .slice A2 p.goal.length c2, .slice A3 p.rows.length c3] 26)).alloc (.cells #[.bool false, .slice none 0 0, .slice none 0 0] 40)).heap.size = w.heap.size + 2 := by simp
 generalize (w.alloc (.cells #[.int .i64 vars, .slice A1 p.free.length c1, .slice A2 p.goal.length c2, .slice A3 p.rows.length c3] 26)).alloc (.cells #[.bool false, .slice none 0 0, .slice none 0 0] 40) = W0 at *
 have hsz : w.heap.size + 2 ≤ W0.heap.size := by omega
 clear hsz0
 go_loopw [5, 11] (fun v5 vi wr => ∃ i : Nat, i ≤ p.rows.length ∧ vi = .int .i64 (i : Int) ∧ OL 3 40 EF (w.heap.size + 2) wr v5 (bs.take i) ∧ w.heap.size + 2 ≤ wr.heap.size ∧ HS w [(w.heap.size + 1, 40, #[.bool false, .slice none 0 0, .slice none 0 0]), (w.heap.size, 26, #[.int .i64 vars, .slice A1 p.free.length c1, .slice A2 p.goal.length c2, .slice A3 p.rows.length c3])] wr) (fun _ vi _ => p.rows.length - (intOf vi).toNat)
 case atStart => exact ⟨0, Nat.zero_le _, rfl, OL.nil _ _ _ _ _, hsz, H0.out⟩
 case round =>
  obtain ⟨i, hi, rfl, hol, hsz2, hs⟩ := hrel
  have HOL := Hd hol
  have HK := Hd hs
  obtain ⟨A5, c5, hv5, _⟩ := hol.slice
  have htl : (bs.take i).length = i := by rw [ltk, HBL.out]; omega
  rw [htl] at hv5
  subst hv5
  clear hol hs
  by_cases hlt : i < p.rows.length
  ·obtain ⟨r, hr'⟩ : ∃ r, p.rows[i]? = some r := ⟨p.rows[i], geq hlt⟩
   obtain ⟨g, o, B1, d1, B2, n2, d2, B3, n3, d3, rfl, hg, k0, k1, k2, k3, k4, HI', HA', HB'⟩ := RL.at5 (H3.out.below ER.stays HK.out.2) hr'
   have HNX : Hid (bs.take (i + 1) = bs.take i ++ [r.b]) := by
    unfold Hid
    rw [List.take_add_one, HBS.out, List.getElem?_map, hr']
    rfl
   clear hr'
   have m1 : (i : Int) < (p.rows.length : Int) := by omega
   have m3 : (i : Int).toNat = i := by omega
   have m4 : (0 : Int) ≤ (i : Int) := by omega
   obtain ⟨s, hs⟩ : ∃ s, s = r.s := ⟨_, rfl⟩
   rw [← hs] at k1
   have hll : (bs.take i).length ≤ 1000000000 := by omega
   clear hs htl
   go_wp2_with (at_builtin; refine wpl_appendF rfl (.tmp 15) (.tmp 18) rfl (base := w.heap.size + 2) (.slice A5 i c5) (bs.take i) rfl ((HOL.out.below EF.stays (below_new _ _)).below EF.stays (below_new _ _)) r.b rfl (Blk.newAt (by simp)) ((HB'.out.of_below (below_new _ _)).of_below (below_new _ _)) hll (by simp; omega) ?_; intro v6 w6 hown6 hg6 hk6 hb6)
   have HOL6 := Hd hown6
   have HK6 := Hd (HS.grown ((HK.out.step (below_new _ _)).step (below_new _ _)) hg6 (fun b hm e => by
    have := (HOL.out.lt b.1 e.symm).1
    simp only [List.mem_cons, List.not_mem_nil, or_false] at hm
    rcases hm with rfl | rfl <;> (simp only at this; omega)) (fun g e => by have := (HOL.out.lt g e).1; omega))
   have hsz6 : w.heap.size + 2 ≤ w6.heap.size := by have := hk6.1; simp at this; omega
   clear hown6 hg6 hk6 hb6
   go_wp2_with fail
   go_roundw
   case rel => exact ⟨i + 1, by omega, by go_num, by rw [HNX.out]; exact HOL6.out, hsz6, HK6.out⟩
   case measure => simp [intOf]; omega
  ·obtain rfl : i = p.rows.length := by omega
   have hbt : bs.take p.rows.length = bs := List.take_of_length_le (by rw [HBL.out]; exact Nat.le_refl _)
   rw [hbt] at HOL
   have HFL := Hd HOL.out.sl
   clear hbt htl
   go_wp2_with fail
   refine (fdot_calls _ _ _ y bs (HY.out.below EF.stays HK.out.2) HFL.out hy (by rw [HBL.out]; omega)).mono ?_
   rintro e w2 ⟨v, rfl, hv, hb⟩
   obtain ⟨A5, n5, c5, A6, n6, c6, rfl, HV2⟩ := hv.opened
   have H2' := Hd (HK.out.step hb)
   clear hb hv
   obtain ⟨e0, e1, e2⟩ := (H2'.out.blk 0 rfl).c3
   obtain ⟨f0, f1, f2⟩ := (H2'.out.blk 0 rfl).f3
   go_wp2_with fail
   exact end40 Try.results62 rfl (H2'.out.blk 0 rfl) HV2.out (by omega) H2'.out.2
theorem rwide_calls (w : World) (n : Nat) (hn : n < 18446744073709551616) :
  Calls Try.prog 131 #[.int .u64 n] w fun e w' => WPost w n e w' := by
 have c0 := mask_low n hn
 have c1 : IntKind.u32.wrap ((n % 4294967296 : Nat) : Int) = ((n % 4294967296 : Nat) : Int) := by rw [IntKind.wrap_u32]; omega
 have c2 : IntKind.u32.wrap ((n : Int) / 4294967296) = ((n / 4294967296 : Nat) : Int) := by rw [IntKind.wrap_u32]; omega
 obtain ⟨a, ha⟩ : ∃ a, a = n % 4294967296 := ⟨_, rfl⟩
 obtain ⟨b, hb⟩ : ∃ b, b = n / 4294967296 := ⟨_, rfl⟩
 rw [← ha] at c0 c1
 rw [← hb] at c2
 have hr := rd_two w a b (by omega) (by omega)
 have hval : valN [a, b] = n := by simp only [valN]; omega
 have HR := Hd hr
 have HV := Hd hval
 clear ha hb hr hval
 go_enter Try.func131, Try.ntmps131
 go_wp2_with fail
 refine (rtrim_rn HR.out (by simp)).mono ?_
 rintro e w' ⟨v, rfl, hv, hb⟩
 rw [HV.out] at hv
 go_wp2_with fail
 go_ret
 exact ⟨_, rfl, hv, below_next (below_new w _) hb⟩
theorem RN.head {w : World} {A : Option Addr} {l c n : Nat} (h : RN w (.slice A l c) n) (h0 : n ≠ 0) : (1 < l ∧ n ≠ 1) ∨ (l = 1 ∧ n < 4294967296 ∧ ∃ g o, A = some ⟨g, o, none⟩ ∧ g < w.heap.size ∧ w.cell? ⟨g, o, none⟩ = some (.int .u32 (n : Int))) := by
 obtain ⟨A', c', xs, e, _, hx, hr⟩ := h.opened
 injection e with e1 e2 e3
 subst e1 e2 e3
 have hp : 0 < xs.length := by rw [hx.out]; exact wlen_pos.2 h0
 by_cases h1 : xs.length = 1
 ·right
  obtain ⟨g, o, rfl, hg, hc⟩ := hr.out.cell (j := 0) hp
  have hn : nat xs 0 = n := by
   rw [← valN_dg n, ← hx.out]
   match xs, h1 with
   | [y], _ => simp [nat, valN]
  rw [hn, Nat.add_zero] at hc
  exact ⟨h1, by rw [← hn]; exact nat_lt hr.out.wd 0, g, o, rfl, hg, hc⟩
 ·left
  refine ⟨by omega, ?_⟩
  rintro rfl
  exact h1 (by rw [hx.out]; rfl)
theorem rone_calls (w : World) : Calls Try.prog 117 #[] w fun e w' => ∃ g, e = .returned (.slice (some ⟨g, 0, none⟩) 1 1) ∧ RN w' (.slice (some ⟨g, 0, none⟩) 1 1) 1 ∧ Below w.heap.size w w' := by
 go_enter Try.func117, Try.ntmps117
 go_wp2_with fail
 go_ret
 exact ⟨w.heap.size, rfl, rn_one w 103, below_new w _⟩
theorem rzero_calls (w : World) : Calls Try.prog 88 #[] w fun e w' => FPost w 0 e w' := by
 go_enter Try.func88, Try.ntmps88
 go_wp2_with fail
 have H0 := Hd (HS.one (w := w) #[.bool false, .slice none 0 0, .slice none 0 0] 40)
 generalize w.alloc (.cells #[.bool false, .slice none 0 0, .slice none 0 0] 40) = W0 at *
 refine (rone_calls W0).mono ?_
 rintro e w1 ⟨g, rfl, h1, hb⟩
 have H1 := Hd (H0.out.step hb)
 have HV := Hd h1
 clear hb h1
 obtain ⟨e0, e1, e2⟩ := (H1.out.blk 0 rfl).c3
 obtain ⟨f0, f1, f2⟩ := (H1.out.blk 0 rfl).f3
 go_wp2_with fail
 exact end40 Try.results88 rfl (H1.out.blk 0 rfl) ⟨_, _, rfl, Rd.nil _, HV.out⟩ (Nat.le_refl _) H1.out.2
theorem fq_mk {w : World} {v1 v2 : Value} {neg : Bool} {m n g : Nat} (hn : n ≠ 0) (hm : m ≠ 0) (hg : g = Nat.gcd m n) (h1 : RN w v1 (m / g)) (h2 : RN w v2 (n / g)) : FQ w (.agg #[.bool neg, v1, v2]) (mkRat (sg neg m) n) := by
 subst hg
 exact ⟨v1, v2, by rw [mk_neg neg m n hn hm], by rw [mk_num neg m n hn, sg_natAbs]; exact h1, by rw [mk_den neg m n hn]; exact h2⟩
theorem FQ.parts {w : World} {s : Bool} {v1 v2 : Value} {q : Rat} (h : FQ w (.agg #[.bool s, v1, v2]) q) : s = negQ q ∧ RN w v1 q.num.natAbs ∧ RN w v2 q.den := by
 obtain ⟨x, y, e, h1, h2⟩ := h
 injection e with e
 have e : s = negQ q ∧ v1 = x ∧ v2 = y := by simpa using e
 obtain ⟨rfl, rfl, rfl⟩ := e
 exact ⟨rfl, h1, h2⟩
theorem FQ.len {w : World} {A1 A2 : Option Addr} {n1 c1 n2 c2 : Nat} {s : Bool} {q : Rat} (h : FQ w (.agg #[.bool s, .slice A1 n1 c1, .slice A2 n2 c2]) q) : n1 = wlen q.num.natAbs := by
 obtain ⟨_, h1, _⟩ := FQ.parts h
 obtain ⟨A, c, xs, e, _, hx, _⟩ := RN.opened h1
 injection e with _ e _
 rw [e, hx.out]; rfl
theorem ret40i {fn : Func} {p t : Tmp} {Post : Ending → World → Prop} {tmps : Array Value} {w : World} {g : Nat} {a b c r : Value} (hres : fn.results = #[.cell p 40, .tmp t]) (hp : tmps.getD p undef = .pointer (some ⟨g, 0, none⟩)) (ht : tmps.getD t undef = r) (hb : Blk w g 40 #[a, b, c])
  (hP : Post (.returned (.tuple #[.agg #[a, b, c], r])) w) : bodyPost Try.prog fn Post Exit.ret { tmps := tmps, defers := [] } w := by
 refine bodyPost_ret (v := .tuple #[.agg #[a, b, c], r]) ?_ rfl hP
 have hp' : tmps[p]?.getD undef = .pointer (some ⟨g, 0, none⟩) := by simpa using hp
 have ht' : tmps[t]?.getD undef = r := by simpa using ht
 simp [results, hres, hp', ht', asAddr, run_loadVar_row (P := Try.prog) w g 40 40 #[a, b, c] (0, 0) _ hb Try.underlying40 rfl info40]
theorem boxes_put {w W : World} {g2 g3 g4 : Nat} {x y z x' y' z' a b c a' b' c' r s u : Value} (h : HS w [(g4, 40, #[r, s, u]), (g3, 40, #[x', y', z']), (g2, 40, #[x, y, z])] W) (h2 : w.heap.size ≤ g2) (h3 : w.heap.size ≤ g3) (n23 : g2 ≠ g3) (n24 : g2 ≠ g4) (n34 : g3 ≠ g4) :
  HS w [(g4, 40, #[r, s, u]), (g3, 40, #[a', b', c']), (g2, 40, #[a, b, c])] ((((((W.setCell ⟨g2, 0, none⟩ a).setCell ⟨g2, 1, none⟩ b).setCell ⟨g2, 2, none⟩ c).setCell ⟨g3, 0, none⟩ a').setCell ⟨g3, 1, none⟩ b').setCell ⟨g3, 2, none⟩ c') := by
 have k4 := h.blk 0 rfl
 have k3 := h.blk 1 rfl
 have k2 := h.blk 2 rfl
 have e2 := k2.put3 a b c
 have e3 := ((k3.other (a := ⟨g2, 0, none⟩) n23.symm a).other (a := ⟨g2, 1, none⟩) n23.symm b).other (a := ⟨g2, 2, none⟩) n23.symm c
 have e4 := ((k4.other (a := ⟨g2, 0, none⟩) n24.symm a).other (a := ⟨g2, 1, none⟩) n24.symm b).other (a := ⟨g2, 2, none⟩) n24.symm c
 have f2 := ((e2.other (a := ⟨g3, 0, none⟩) n23 a').other (a := ⟨g3, 1, none⟩) n23 b').other (a := ⟨g3, 2, none⟩) n23 c'
 have f3 := e3.put3 a' b' c'
 have f4 := ((e4.other (a := ⟨g3, 0, none⟩) n34.symm a').other (a := ⟨g3, 1, none⟩) n34.symm b').other (a := ⟨g3, 2, none⟩) n34.symm c'
 refine ⟨fun b hb => ?_, below_put3 (below_put3 h.2 h2 _ _ _) h3 _ _ _⟩
 simp only [List.mem_cons, List.not_mem_nil, or_false] at hb
 rcases hb with rfl | rfl | rfl
 ·exact f4
 ·exact f3
 ·exact f2
theorem ni_box {s : Bool} {A1 A2 : Option Addr} {n1 c1 n2 c2 : Nat} : ∀ u ∈ #[Value.bool s, .slice A1 n1 c1, .slice A2 n2 c2], notInt u = true := by simp [notInt]
theorem FQ.put33 {w : World} {v : Value} {q : Rat} {g2 g3 : Nat} {x y z x' y' z' a b c a' b' c' : Value} (h : FQ w v q) (n23 : g2 ≠ g3) (k2 : Blk w g2 40 #[x, y, z]) (k3 : Blk w g3 40 #[x', y', z']) (m2 : ∀ u ∈ #[x, y, z], notInt u = true) (m3 : ∀ u ∈ #[x', y', z'], notInt u = true) :
  FQ ((((((w.setCell ⟨g2, 0, none⟩ a).setCell ⟨g2, 1, none⟩ b).setCell ⟨g2, 2, none⟩ c).setCell ⟨g3, 0, none⟩ a').setCell ⟨g3, 1, none⟩ b').setCell ⟨g3, 2, none⟩ c') v q :=
 (h.put3 k2 m2 a b c).put3 (((k3.other (a := ⟨g2, 0, none⟩) n23.symm a).other (a := ⟨g2, 1, none⟩) n23.symm b).other (a := ⟨g2, 2, none⟩) n23.symm c) m3 a' b' c'
theorem fq_inv {w : World} {s : Bool} {v1 v2 : Value} {q : Rat} (h : FQ w (.agg #[.bool s, v1, v2]) q) (hq : q ≠ 0) : FQ w (.agg #[.bool s, v2, v1]) q⁻¹ := by
 obtain ⟨e, h1, h2⟩ := FQ.parts h
 subst e
 have hnz : q.num ≠ 0 := fun h => hq (Rat.num_eq_zero.1 h)
 refine ⟨v2, v1, by rw [negQ_inv], ?_, ?_⟩
 ·rw [Rat.num_inv, Int.natAbs_mul, Int.natAbs_sign_of_ne_zero hnz, Nat.one_mul, Int.natAbs_natCast]; exact h2
 ·rw [Rat.den_inv, if_neg hnz]; exact h1
theorem size_inv {q : Rat} (hq : q ≠ 0) : sizeQ q⁻¹ = sizeQ q := by
 have hnz : q.num ≠ 0 := fun h => hq (Rat.num_eq_zero.1 h)
 unfold sizeQ
 rw [Rat.num_inv, Int.natAbs_mul, Int.natAbs_sign_of_ne_zero hnz, Nat.one_mul, Int.natAbs_natCast, Rat.den_inv, if_neg hnz, Nat.add_comm]
theorem rat_inv_one : ((1 : Rat))⁻¹ = 1 := by
 have h := Rat.mul_inv_cancel (1 : Rat) (by decide)
 rwa [Rat.one_mul] at h
theorem size_int (n : Int) (h0 : -9223372036854775808 ≤ n) (h1 : n < 9223372036854775808) : sizeQ (n : Rat) ≤ 3 := by
 unfold sizeQ
 have a : wlen n.natAbs ≤ 2 := dg_len_two.2 (by omega)
 have b : wlen 1 = 1 := by decide
 show wlen n.natAbs + wlen 1 ≤ 3
 omega
theorem OL.push1 {α : Type} {k e : Nat} {E : World → Array Value → α → Prop} {base : Nat} {w w1 : World} {v v' : Value} {ys : List α} {vs : Array Value} {b : α} {xs : List Value} (hE : Leans E) (h1 : OwnR w base e k v ys.length xs) (h2 : ∀ j a, ys[j]? = some a → ∃ vs : Array Value, vs.size = k ∧ (∀ i u, vs[i]? = some u → xs[j * k + i]? = some u) ∧ E w vs a)
  (hv : vs.size = k) (hb : E w vs b) (hk : Keeps w w1) (hown : OwnR w1 base e k v' (ys.length + 1) (xs ++ vs.toList)) : OL k e E base w1 v' (ys ++ [b]) := by
 refine ⟨xs ++ vs.toList, by rw [lap]; exact hown, fun j a hj => ?_⟩
 rw [List.getElem?_append] at hj
 split at hj
 ·exact sq55 _
 ·exact sq34 _
def EFQ (w : World) (vs : Array Value) (q : Rat) : Prop := FQ w (.agg vs) q
theorem EFQ.stays : Stays EFQ := fun _ _ _ _ h hb => FQ.of_below h hb
theorem EFQ.leans : Leans EFQ := fun _ _ _ _ h hk => FQ.keeps h hk
theorem EFQ.far : Far EFQ := fun w w1 vs x g t cs h hb hn hs hk => by
 obtain ⟨v1, v2, e, h1, h2⟩ := h
 exact ⟨v1, v2, e, Rd.apart h1 hb hn hs hk, Rd.apart h2 hb hn hs hk⟩
theorem notWord_of_notInt {v : Value} (h : notInt v = true) : notWord v = true := by
 cases v <;> first | rfl | (simp [notInt] at h)
abbrev QO (base : Nat) (w : World) (v : Value) (qs : List Rat) : Prop := OL 3 40 EFQ base w v qs
theorem Row3.own {w : World} {g n base : Nat} {qs : List Rat} (h : Row3 40 EFQ w g n qs) (hn : qs.length = n) (hb : base ≤ g) (hm : n ≤ maxLen) : QO base w (.slice (some ⟨g, 0, none⟩) n n) qs := by
 obtain ⟨cs, hk, hs, hcn, hl, he⟩ := h
 refine ⟨cs.toList, ⟨by simpa [hn] using hs, .inr ⟨g, n, cs, by rw [hn], hb, hk, by omega, hm, hs, ?_, fun u hu => notWord_of_notInt (hcn u hu)⟩⟩, fun j x hj => ?_⟩
 ·rw [hn, ← hs, ← Array.length_toList, List.take_length]
 ·obtain ⟨a, b, c, h0, h1, h2, h3⟩ := he j x hj
  refine ⟨#[a, b, c], rfl, fun i u hi => ?_, h3⟩
  have hi3 : i < 3 := (Array.getElem?_eq_some_iff.1 hi).1
  match i, hi3 with
  | 0, _ => rw [show u = a by simpa using hi.symm]; simpa using h0
  | 1, _ => rw [show u = b by simpa using hi.symm]; simpa using h1
  | 2, _ => rw [show u = c by simpa using hi.symm]; simpa using h2
def LPost (w : World) (qs : List Rat) (e : Ending) (w' : World) : Prop := ∃ v, e = .returned v ∧ QO w.heap.size w' v qs ∧ Below w.heap.size w w'
theorem wpl_appendQ {ops : Array Oper} {rest : List Oper} {o : Oper} {a : Act} {Q : Exit → Act → World → Prop} {W : World} (hgd : o.guard = none) (s x : Operand) (ho : o.op = .call { callee := .builtin .append, args := #[s, x], argTypes := #[23, 23] }) {base : Nat}
  (v : Value) (fs : List Rat) (hs : a.eval s = v) (hown : QO base W v fs) {g : Nat} {b : Bool} {A1 A2 : Option Addr} {n1 c1 n2 c2 : Nat} (f : Rat) (hx : a.eval x = .slice (some ⟨g, 0, none⟩) 1 1) (hk : Blk W g 40 #[.bool b, .slice A1 n1 c1, .slice A2 n2 c2]) (hf : FQ W (.agg #[.bool b, .slice A1 n1 c1, .slice A2 n2 c2]) f)
  (hl : fs.length ≤ 1000000000) (hbase : base ≤ W.heap.size)
  (h : ∀ v' w', QO base w' v' (fs ++ [f]) → W.grownBy w' v.ownBlock → Keeps W w' → (∀ g, v'.ownBlock = some g → v.ownBlock = some g ∨ W.heap.size ≤ g) → wpList Try.prog ops Q rest (a.put o.dst v') w') : wpList Try.prog ops Q (o :: rest) a W := by
 obtain ⟨xs, h1, h2⟩ := hown
 refine wpl_appendR hgd s x 23 ho (base := base) zeroF 56 Try.underlying23 info40z rfl zeroF_words v fs.length xs hs h1 ⟨g, 0, none⟩ 1 1 [.bool b, .slice A1 n1 c1, .slice A2 n2 c2] hx rfl (lit_cells hk) frac_one frac_word (by decide) (by omega) (by omega) hbase fun v' w' h3 h4 h5 h6 => h v' w' ?_ h4 h5 h6
 exact OL.push1 EFQ.leans (k := 3) (e := 40) (vs := #[.bool b, .slice A1 n1 c1, .slice A2 n2 c2]) h1 h2 rfl hf h5 h3
theorem sq58 (P : Prop) (h : P := by
 refine ⟨i + 1, by omega, by go_num, ?_, ?_⟩
 ·have := HRW2.out.push EFQ.far (by rw [hlen]; exact hlt) HV.out (by simp [notInt])
  rw [hlen] at this
  rw [List.take_add_one, HFI.out, List.map_append]
  exact this
 ·exact Below.setCell (Below.setCell (Below.setCell HB2.out (Nat.le_refl _) _) (Nat.le_refl _) _) (Nat.le_refl _) _) : P := h
theorem fixed_calls (w : World) (v : Value) (fs : List RawF) (h : FL w v fs) (hl : fs.length ≤ 1000000000) : Calls Try.prog 83 #[v] w fun e w' => LPost w (fs.map fixQ) e w' := by
 obtain ⟨A, c, rfl, hc⟩ := h.slice
 have HF := Hd h
 clear h
 go_enter Try.func83, Try.ntmps83
 have hmk := run_make3 23 40 _ Try.underlying23 info40m fs.length (by omega)
 go_wp2_with fail
 clear hmk
 have hr0 := Row3.made (E := EFQ) w 40 fs.length #[.bool false, .slice none 0 0, .slice none 0 0] rfl ni40
 have hb0 := below_new w (.cells (madeCells #[.bool false, .slice none 0 0, .slice none 0 0] (fs.length * 3)) 40)
 generalize w.alloc (.cells (madeCells #[.bool false, .slice none 0 0, .slice none 0 0] (fs.length * 3)) 40) = W0 at *
 go_loopw [11] (fun vi wr => ∃ i : Nat, i ≤ fs.length ∧ vi = .int .i64 (i : Int) ∧ Row3 40 EFQ wr w.heap.size fs.length ((fs.take i).map fixQ) ∧ Below w.heap.size w wr) (fun vi _ => fs.length - (intOf vi).toNat)
 case atStart => exact ⟨0, Nat.zero_le _, rfl, hr0, hb0⟩
 case round =>
  obtain ⟨i, hi, rfl, hrow, hb⟩ := hrel
  have HRW := Hd hrow
  have HB := Hd hb
  clear hrow hb hr0 hb0
  by_cases hlt : i < fs.length
  ·obtain ⟨f, hf⟩ : ∃ f, fs[i]? = some f := ⟨fs[i], geq hlt⟩
   obtain ⟨g, o, A1, n1, c1, A2, n2, c2, rfl, hg, k0, k1, k2, HE⟩ := FL.at3 (HF.out.below EF.stays HB.out) hf
   have HFI := Hd hf
   clear hf
   have m1 : (i : Int) < (fs.length : Int) := by omega
   have m3 : (i : Int).toNat = i := by omega
   have m4 : (0 : Int) ≤ (i : Int) := by omega
   go_wp2_with fail
   have hb1 := below_new wr (.cells #[.bool f.neg, .slice A1 n1 c1, .slice A2 n2 c2] 40)
   refine (fix_calls _ _ f (HE.out.of_below hb1)).mono ?_
   rintro e w2 ⟨v, rfl, hv, hb2⟩
   obtain ⟨A5, n5, c5, A6, n6, c6, rfl, HV⟩ := hv.opened
   have HRW2 := Hd (HRW.out.below EFQ.stays (below_next hb1 hb2))
   have HB2 := Hd (below_next HB.out (below_next hb1 hb2))
   clear hv hb1 hb2
   obtain ⟨a, b, d, e0, e1, e2, f0, f1, f2⟩ := HRW2.out.cells i hlt
   go_wp2_with fail
   go_roundw
   case rel =>
    have hlen : ((fs.take i).map fixQ).length = i := by rw [lmp, ltk, Nat.min_eq_left hi]
    exact sq58 _
   case measure => simp [intOf]; omega
  ·obtain rfl : i = fs.length := by omega
   go_wp2_with fail
   go_ret
   rw [List.take_length] at HRW
   exact ⟨_, rfl, Row3.own HRW.out (by simp) (Nat.le_refl _) (by unfold maxLen; omega), HB.out⟩
noncomputable def negF (f : RawF) : Rat := -(fixQ f)
theorem negated_calls (w : World) (v : Value) (fs : List RawF) (h : FL w v fs) (hl : fs.length ≤ 1000000000) : Calls Try.prog 41 #[v] w fun e w' => LPost w (fs.map negF) e w' := by
 obtain ⟨A, c, rfl, hc⟩ := h.slice
 have HF := Hd h
 clear h
 go_enter Try.func41, Try.ntmps41
 have hmk := run_make3 23 40 _ Try.underlying23 info40m fs.length (by omega)
 go_wp2_with fail
 clear hmk
 have hr0 := Row3.made (E := EFQ) w 40 fs.length #[.bool false, .slice none 0 0, .slice none 0 0] rfl ni40
 have hb0 := below_new w (.cells (madeCells #[.bool false, .slice none 0 0, .slice none 0 0] (fs.length * 3)) 40)
 generalize w.alloc (.cells (madeCells #[.bool false, .slice none 0 0, .slice none 0 0] (fs.length * 3)) 40) = W0 at *
 go_loopw [11] (fun vi wr => ∃ i : Nat, i ≤ fs.length ∧ vi = .int .i64 (i : Int) ∧ Row3 40 EFQ wr w.heap.size fs.length ((fs.take i).map negF) ∧ Below w.heap.size w wr) (fun vi _ => fs.length - (intOf vi).toNat)
 case atStart => exact ⟨0, Nat.zero_le _, rfl, hr0, hb0⟩
 case round =>
  obtain ⟨i, hi, rfl, hrow, hb⟩ := hrel
  have HRW := Hd hrow
  have HB := Hd hb
  clear hrow hb hr0 hb0
  by_cases hlt : i < fs.length
  ·obtain ⟨f, hf⟩ : ∃ f, fs[i]? = some f := ⟨fs[i], geq hlt⟩
   obtain ⟨g, o, A1, n1, c1, A2, n2, c2, rfl, hg, k0, k1, k2, HE⟩ := FL.at3 (HF.out.below EF.stays HB.out) hf
   have HFI := Hd hf
   clear hf
   have m1 : (i : Int) < (fs.length : Int) := by omega
   have m3 : (i : Int).toNat = i := by omega
   have m4 : (0 : Int) ≤ (i : Int) := by omega
   go_wp2_with fail
   have hb1 := below_new wr (.cells #[.bool f.neg, .slice A1 n1 c1, .slice A2 n2 c2] 40)
   refine (fneg_calls _ _ f (HE.out.of_below hb1)).mono ?_
   rintro e w2 ⟨v, rfl, hv, hb2⟩
   obtain ⟨A5, n5, c5, A6, n6, c6, rfl, HV⟩ := hv.opened
   have HRW2 := Hd (HRW.out.below EFQ.stays (below_next hb1 hb2))
   have HB2 := Hd (below_next HB.out (below_next hb1 hb2))
   clear hv hb1 hb2
   obtain ⟨a, b, d, e0, e1, e2, f0, f1, f2⟩ := HRW2.out.cells i hlt
   go_wp2_with fail
   go_roundw
   case rel =>
    have hlen : ((fs.take i).map negF).length = i := by rw [lmp, ltk, Nat.min_eq_left hi]
    exact sq58 _
   case measure => simp [intOf]; omega
  ·obtain rfl : i = fs.length := by omega
   go_wp2_with fail
   go_ret
   rw [List.take_length] at HRW
   exact ⟨_, rfl, Row3.own HRW.out (by simp) (Nat.le_refl _) (by unfold maxLen; omega), HB.out⟩
theorem below_none {B : Nat} {w W W' : World} {row : Option Nat} (h : Below B w W) (hg : W.grownBy W' row) (hr : ∀ k, row = some k → B ≤ k) (hB : B ≤ w.heap.size := by exact Nat.le_refl _) : Below B w W' :=
 ⟨hg.os.trans h.os, hg.tape.trans h.tape, hg.output.trans h.output, Nat.le_trans h.size hg.size, fun k hk => (hg.block k (by have := h.size; omega) (fun e => by have := hr k e.symm; omega)).trans (h.block k hk)⟩
def Chg (base t : Nat) (w w1 : World) : Prop := Keeps w w1 ∧ ∀ k, k < w.heap.size → (k < base ∨ ∀ cs, ¬ Blk w k t cs) → w1.heap[k]? = w.heap[k]?
theorem Chg.of_below {base t : Nat} {w w1 : World} (h : Below w.heap.size w w1) : Chg base t w w1 := ⟨Keeps.of_below h, fun k hk _ => h.block k hk⟩
theorem Chg.trans {base t : Nat} {a b c : World} (h : Chg base t a b) (h2 : Chg base t b c) : Chg base t a c := ⟨h.1.trans h2.1, fun k hk ho => by
 have e1 := h.2 k hk ho
 refine (h2.2 k (Nat.lt_of_lt_of_le hk h.1.1) ?_).trans e1
 rcases ho with h3 | h3
 ·exact .inl h3
 ·exact .inr fun cs hb => h3 cs (e1.symm.trans hb)⟩
theorem Chg.own {base t g : Nat} {w w1 : World} {cs : Array Value} (hb : Blk w g t cs) (hg : base ≤ g) (hk : Keeps w w1) (ho : ∀ k, k < w.heap.size → k ≠ g → w1.heap[k]? = w.heap[k]?) : Chg base t w w1 := ⟨hk, fun k hkl h => ho k hkl (by
 rintro rfl
 rcases h with h | h
 ·omega
 ·exact h cs hb)⟩
theorem OwnR.chg {base t e k : Nat} {w w1 : World} {v : Value} {n : Nat} {xs : List Value} (h : OwnR w base e k v n xs) (hc : Chg base t w w1) (hne : e ≠ t) : OwnR w1 base e k v n xs := by
 refine h.move fun g hg => hc.2 g (h.lt g hg).2 (.inr fun cs hb => ?_)
 rcases h.2 with ⟨rfl, _⟩ | ⟨g', cap, cur, rfl, _, hk, _⟩
 ·simp [Value.ownBlock] at hg
 ·simp [Value.ownBlock] at hg
  subst hg
  have := hk.symm.trans hb
  injection this with this
  injection this with _ h2
  exact hne h2
theorem OwnR.changes {base t k : Nat} {w w1 : World} {v : Value} {n : Nat} {xs : List Value} (h : OwnR w base t k v n xs) (hg : w.grownBy w1 v.ownBlock) (hk : Keeps w w1) : Chg base t w w1 := by
 rcases h.2 with ⟨rfl, _⟩ | ⟨g', cap, cur, rfl, hb, hbl, _⟩
 ·exact ⟨hk, fun k hkl _ => hg.block k hkl (by simp [Value.ownBlock])⟩
 ·exact Chg.own hbl hb hk fun k hkl hne => hg.block k hkl (by simp [Value.ownBlock]; exact hne)
theorem HS.chg {base t : Nat} {w W W1 : World} {bs : List (Nat × Nat × Array Value)} (h : HS w bs W) (hc : Chg base t W W1) (hb : ∀ b ∈ bs, b.2.1 ≠ t) (hbase : base = w.heap.size) (hw : W.os = W1.os ∧ W.tape = W1.tape ∧ W.output = W1.output) : HS w bs W1 := by
 subst hbase
 refine ⟨fun b hm => (hc.2 b.1 (h.1 b hm).lt (.inr fun cs hbl => ?_)).trans (h.1 b hm), ⟨hw.1.symm.trans h.2.os, hw.2.1.symm.trans h.2.tape, hw.2.2.symm.trans h.2.output, Nat.le_trans h.2.size hc.1.1, fun k hk => (hc.2 k (Nat.lt_of_lt_of_le hk h.2.size) (.inl hk)).trans (h.2.block k hk)⟩⟩
 have := (h.1 b hm).symm.trans hbl
 injection this with this
 injection this with _ h2
 exact hb b hm h2
def LeansT {α : Type} (base t : Nat) (E : World → Array Value → α → Prop) : Prop := ∀ w w1 vs x, E w vs x → Chg base t w w1 → E w1 vs x
theorem QO.chg {base t : Nat} {w w1 : World} {v : Value} {qs : List Rat} (h : QO base w v qs) (hc : Chg base t w w1) (hne : 40 ≠ t) : QO base w1 v qs := by
 obtain ⟨xs, h1, h2⟩ := h
 refine ⟨xs, h1.chg hc hne, fun j a hj => ?_⟩
 obtain ⟨vs, h3, h4, h5⟩ := h2 j a hj
 exact ⟨vs, h3, h4, EFQ.leans _ _ _ _ h5 hc.1⟩
structure RowQ where
 a : List Rat
 s : Int
 b : Rat
structure ProgQ where
 vars : Int
 free : List Bool
 goal : List Rat
 rows : List RowQ
def ERO (base : Nat) (w : World) (vs : Array Value) (r : RowQ) : Prop := ∃ v A1 n1 c1 A2 n2 c2, vs = #[v, .int .i64 r.s, .bool (negQ r.b), .slice A1 n1 c1, .slice A2 n2 c2] ∧ I64 r.s ∧ QO base w v r.a ∧ FQ w (.agg #[.bool (negQ r.b), .slice A1 n1 c1, .slice A2 n2 c2]) r.b
theorem ERO.stays {base : Nat} : Stays (ERO base) := fun _ _ _ _ h hb => by
 obtain ⟨v, A1, n1, c1, A2, n2, c2, e, hs, h1, h2⟩ := h
 exact ⟨v, A1, n1, c1, A2, n2, c2, e, hs, h1.below EFQ.stays hb, h2.of_below hb⟩
theorem ERO.leans {base t : Nat} (hne : 40 ≠ t) : LeansT base t (ERO base) := fun _ _ _ _ h hc => by
 obtain ⟨v, A1, n1, c1, A2, n2, c2, e, hs, h1, h2⟩ := h
 exact ⟨v, A1, n1, c1, A2, n2, c2, e, hs, h1.chg hc hne, h2.keeps hc.1⟩
abbrev RO (base : Nat) (w : World) (v : Value) (rs : List RowQ) : Prop := OL 5 65 (ERO base) base w v rs
theorem RO.chg {base t : Nat} {w w1 : World} {v : Value} {rs : List RowQ} (h : RO base w v rs) (hc : Chg base t w w1) (hne : 40 ≠ t) (hne2 : 65 ≠ t) : RO base w1 v rs := by
 obtain ⟨xs, h1, h2⟩ := h
 refine ⟨xs, h1.chg hc hne2, fun j a hj => ?_⟩
 obtain ⟨vs, h3, h4, h5⟩ := h2 j a hj
 exact ⟨vs, h3, h4, ERO.leans hne _ _ _ _ h5 hc⟩
def FrO (base : Nat) (w : World) (v : Value) (bs : List Bool) : Prop := BL w v bs ∧ ∀ g, v.ownBlock = some g → 0 < bs.length → g < base ∨ ∃ cs, Blk w g 4 cs
theorem FrO.below {base : Nat} {w w1 : World} {v : Value} {bs : List Bool} (h : FrO base w v bs) (hb : Below w.heap.size w w1) : FrO base w1 v bs := ⟨h.1.below EB.stays hb, fun g hg hp => by
 rcases h.2 g hg hp with h1 | ⟨cs, h1⟩
 ·exact .inl h1
 ·exact .inr ⟨cs, h1.below hb h1.lt⟩⟩
theorem FrO.chg {bf base t : Nat} {w w1 : World} {v : Value} {bs : List Bool} (h : FrO bf w v bs) (hc : Chg base t w w1) (hne : 4 ≠ t) (hbf : bf ≤ base := by first | exact Nat.zero_le _ | exact Nat.le_refl _) : FrO bf w1 v bs := by
 obtain ⟨⟨A, c, rfl, hcl, hr⟩, ho⟩ := h
 have key : ∀ g o, A = some ⟨g, o, none⟩ → 0 < bs.length → g < w.heap.size → w1.heap[g]? = w.heap[g]? := fun g o hA hp hg => hc.2 g hg (by
  rcases ho g (by rw [hA]; rfl) hp with h1 | ⟨cs, h1⟩
  ·exact .inl (Nat.lt_of_lt_of_le h1 hbf)
  ·refine .inr fun cs' hb => ?_
   have := h1.symm.trans hb
   injection this with this
   injection this with _ h2
   exact hne h2)
 refine ⟨⟨A, c, rfl, hcl, fun hp => ?_⟩, fun g hg hp => ?_⟩
 ·obtain ⟨g, o, hA, hg, he⟩ := hr hp
  refine ⟨g, o, hA, Nat.lt_of_lt_of_le hg hc.1.1, fun j x hj => ?_⟩
  obtain ⟨vs, h1, h2, h3⟩ := he j x hj
  exact ⟨vs, h1, fun i u hi => (World.cell?_of_block (a := ⟨g, _, none⟩) (key g o hA hp hg)).trans (h2 i u hi), h3⟩
 ·rcases ho g hg hp with h1 | ⟨cs, h1⟩
  ·exact .inl h1
  ·refine .inr ⟨cs, ?_⟩
   obtain ⟨g', o, hA, hg', _⟩ := hr hp
   have e : g = g' := by rw [hA] at hg; simp [Value.ownBlock] at hg; exact hg.symm
   subst e
   exact (key g o hA hp hg').trans h1
def PO (base : Nat) (w : World) (v : Value) (p : ProgQ) : Prop := ∃ v1 v2 v3, v = .agg #[.int .i64 p.vars, v1, v2, v3] ∧ I64 p.vars ∧ FrO base w v1 p.free ∧ QO base w v2 p.goal ∧ RO base w v3 p.rows
theorem PO.below {base : Nat} {w w1 : World} {v : Value} {p : ProgQ} (h : PO base w v p) (hb : Below w.heap.size w w1) : PO base w1 v p := by
 obtain ⟨v1, v2, v3, e, hv, h1, h2, h3⟩ := h
 exact ⟨v1, v2, v3, e, hv, h1.below hb, h2.below EFQ.stays hb, h3.below ERO.stays hb⟩
theorem PO.chg {base t : Nat} {w w1 : World} {v : Value} {p : ProgQ} (h : PO base w v p) (hc : Chg base t w w1) (h4 : 4 ≠ t) (h40 : 40 ≠ t) (h65 : 65 ≠ t) : PO base w1 v p := by
 obtain ⟨v1, v2, v3, e, hv, h1, h2, h3⟩ := h
 exact ⟨v1, v2, v3, e, hv, h1.chg hc h4, h2.chg hc h40, h3.chg hc h40 h65⟩
theorem FrO.raise {b b' : Nat} {w : World} {v : Value} {bs : List Bool} (h : FrO b w v bs) (hb : b ≤ b') : FrO b' w v bs := ⟨h.1, fun g hg hp => by
 rcases h.2 g hg hp with h1 | h1
 ·exact .inl (Nat.lt_of_lt_of_le h1 hb)
 ·exact .inr h1⟩
def CPost (w : World) (p : ProgQ) (e : Ending) (w' : World) : Prop := ∃ v1 v2 v3, e = .returned (.agg #[.int .i64 p.vars, v1, v2, v3]) ∧ FrO 0 w' v1 p.free ∧ QO w.heap.size w' v2 p.goal ∧ RO w.heap.size w' v3 p.rows ∧ Below w.heap.size w w'
noncomputable def cleanR (r : RowF) : RowQ := ⟨r.a.map fixQ, r.s, fixQ r.b⟩
noncomputable def cleanQ (p : ProgF) : ProgQ := ⟨p.vars, p.free, p.goal.map fixQ, p.rows.map cleanR⟩
def zeroR : Value := .agg #[.slice none 0 0, .int .i64 0, .bool false, .slice none 0 0, .slice none 0 0]
theorem info65 : (Try.prog.info? 65).map (fun i => (i.zero, i.size, i.bytes)) = some (some zeroR, 5, 88) := by kernel_rfl
theorem info65s : (Try.prog.info? 65).map (·.size) = some 5 := by kernel_rfl
theorem info26s : (Try.prog.info? 26).map (·.size) = some 4 := by kernel_rfl
theorem info4 : (Try.prog.info? 4).map (fun i => (i.zero, i.size, i.bytes)) = some (some (.bool false), 1, 1) := by kernel_rfl
theorem zeroR_words : ∀ u ∈ zeroR.cells, notWord u = true := by simp [zeroR, Value.cells, notWord]
theorem row_one {v : Value} {s : Int} {b : Bool} {A0 A1 A2 : Option Addr} {n0 c0 n1 c1 n2 c2 : Nat} (hv : v = .slice A0 n0 c0) : ∀ u ∈ [v, .int .i64 s, .bool b, .slice A1 n1 c1, .slice A2 n2 c2], u.oneCell' = true := by
 subst hv
 intro u hu
 simp only [List.mem_cons, List.not_mem_nil, or_false] at hu
 rcases hu with rfl | rfl | rfl | rfl | rfl <;> rfl
theorem row_word {v : Value} {s : Int} {b : Bool} {A0 A1 A2 : Option Addr} {n0 c0 n1 c1 n2 c2 : Nat} (hv : v = .slice A0 n0 c0) : ∀ u ∈ [v, .int .i64 s, .bool b, .slice A1 n1 c1, .slice A2 n2 c2], notWord u = true := by
 subst hv
 intro u hu
 simp only [List.mem_cons, List.not_mem_nil, or_false] at hu
 rcases hu with rfl | rfl | rfl | rfl | rfl <;> rfl
theorem OL.pushT {α : Type} {k e : Nat} {E : World → Array Value → α → Prop} {base : Nat} {w w1 : World} {v v' : Value} {ys : List α} {vs : Array Value} {b : α} {xs : List Value} (hE : LeansT base e E) (h1 : OwnR w base e k v ys.length xs) (h2 : ∀ j a, ys[j]? = some a → ∃ vs : Array Value, vs.size = k ∧ (∀ i u, vs[i]? = some u → xs[j * k + i]? = some u) ∧ E w vs a)
  (hv : vs.size = k) (hb : E w vs b) (hk : Chg base e w w1) (hown : OwnR w1 base e k v' (ys.length + 1) (xs ++ vs.toList)) : OL k e E base w1 v' (ys ++ [b]) := by
 refine ⟨xs ++ vs.toList, by rw [lap]; exact hown, fun j a hj => ?_⟩
 rw [List.getElem?_append] at hj
 split at hj
 ·exact sq55 _
 ·exact sq34 _
theorem wpl_appendR5 {ops : Array Oper} {rest : List Oper} {o : Oper} {a : Act} {Q : Exit → Act → World → Prop} {W : World} (hgd : o.guard = none) (s x : Operand) (ho : o.op = .call { callee := .builtin .append, args := #[s, x], argTypes := #[24, 24] }) {base : Nat}
  (v : Value) (rs : List RowQ) (hs : a.eval s = v) (hown : RO base W v rs) {g : Nat} {sn : Int} {b : Bool} {A0 A1 A2 : Option Addr} {n0 c0 n1 c1 n2 c2 : Nat} (r : RowQ) (hx : a.eval x = .slice (some ⟨g, 0, none⟩) 1 1) (hk : Blk W g 65 #[.slice A0 n0 c0, .int .i64 sn, .bool b, .slice A1 n1 c1, .slice A2 n2 c2]) (hf : ERO base W #[.slice A0 n0 c0, .int .i64 sn, .bool b, .slice A1 n1 c1, .slice A2 n2 c2] r)
  (hl : rs.length ≤ 1000000000) (hbase : base ≤ W.heap.size)
  (h : ∀ v' w', RO base w' v' (rs ++ [r]) → Chg base 65 W w' → (W.os = w'.os ∧ W.tape = w'.tape ∧ W.output = w'.output) → (∀ g, v'.ownBlock = some g → base ≤ g) → wpList Try.prog ops Q rest (a.put o.dst v') w') : wpList Try.prog ops Q (o :: rest) a W := by
 obtain ⟨xs, h1, h2⟩ := hown
 refine wpl_appendR hgd s x 24 ho (base := base) zeroR 88 Try.underlying24 info65 rfl zeroR_words v rs.length xs hs h1 ⟨g, 0, none⟩ 1 1 [.slice A0 n0 c0, .int .i64 sn, .bool b, .slice A1 n1 c1, .slice A2 n2 c2] hx rfl (lit_cells hk) (row_one rfl) (row_word rfl) (by decide) (by omega) (by omega) hbase fun v' w' h3 h4 h5 h6 => h v' w' ?_ (h1.changes h4 h5) ⟨h4.os.symm, h4.tape.symm, h4.output.symm⟩ (fun g hg => (h3.lt g hg).1)
 exact OL.pushT (ERO.leans (by decide)) (k := 5) (e := 65) (vs := #[.slice A0 n0 c0, .int .i64 sn, .bool b, .slice A1 n1 c1, .slice A2 n2 c2]) h1 h2 rfl hf (h1.changes h4 h5) h3
theorem OwnR.lower {w : World} {base base' e k : Nat} {v : Value} {n : Nat} {xs : List Value} (h : OwnR w base e k v n xs) (hb : base' ≤ base) : OwnR w base' e k v n xs := by
 obtain ⟨hl, h⟩ := h
 refine ⟨hl, ?_⟩
 rcases h with h | ⟨g, cap, cur, e1, h1, h2⟩
 ·exact .inl h
 ·exact .inr ⟨g, cap, cur, e1, by omega, h2⟩
theorem QO.lower {w : World} {base base' : Nat} {v : Value} {qs : List Rat} (h : QO base w v qs) (hb : base' ≤ base) : QO base' w v qs := by
 obtain ⟨xs, h1, h2⟩ := h
 exact ⟨xs, h1.lower hb, h2⟩
theorem Blk.put4 {w : World} {g t : Nat} {a b c d : Value} (h : Blk w g t #[a, b, c, d]) (x y z u : Value) : Blk ((((w.setCell ⟨g, 0, none⟩ x).setCell ⟨g, 1, none⟩ y).setCell ⟨g, 2, none⟩ z).setCell ⟨g, 3, none⟩ u) g t #[x, y, z, u] :=
 (((h.put 0 x).put 1 y).put 2 z).put 3 u
theorem below_put4 {B : Nat} {w w1 : World} (h : Below B w w1) {g : Nat} (ha : B ≤ g) (x y z u : Value) : Below B w ((((w1.setCell ⟨g, 0, none⟩ x).setCell ⟨g, 1, none⟩ y).setCell ⟨g, 2, none⟩ z).setCell ⟨g, 3, none⟩ u) :=
 Below.setCell (below_put3 h ha x y z) (p := ⟨g, 3, none⟩) ha u
theorem Blk.f4 {W : World} {g t : Nat} {cs : Array Value} (h : Blk W g t cs) : W.frozen? ⟨g, 0, none⟩ = false ∧ W.frozen? ⟨g, 1, none⟩ = false ∧ W.frozen? ⟨g, 2, none⟩ = false ∧ W.frozen? ⟨g, 3, none⟩ = false := ⟨h.frozen 0, h.frozen 1, h.frozen 2, h.frozen 3⟩
theorem Blk.c4 {W : World} {g t : Nat} {a b c d : Value} (h : Blk W g t #[a, b, c, d]) : W.cell? ⟨g, 0, none⟩ = some a ∧ W.cell? ⟨g, 1, none⟩ = some b ∧ W.cell? ⟨g, 2, none⟩ = some c ∧ W.cell? ⟨g, 3, none⟩ = some d := ⟨h.cell rfl, h.cell rfl, h.cell rfl, h.cell rfl⟩
theorem HS.other1 {w W : World} {bs : List (Nat × Nat × Array Value)} {g : Nat} (h : HS w bs W) (hg : w.heap.size ≤ g) (hne : ∀ b ∈ bs, b.1 ≠ g) (j : Nat) (x : Value) : HS w bs (W.setCell ⟨g, j, none⟩ x) :=
 ⟨fun b hm => (h.1 b hm).other (a := ⟨g, j, none⟩) (hne b hm) x, Below.setCell h.2 (p := ⟨g, j, none⟩) hg x⟩
theorem HS.other4 {w W : World} {bs : List (Nat × Nat × Array Value)} {g : Nat} (h : HS w bs W) (hg : w.heap.size ≤ g) (hne : ∀ b ∈ bs, b.1 ≠ g) (x y z u : Value) : HS w bs ((((W.setCell ⟨g, 0, none⟩ x).setCell ⟨g, 1, none⟩ y).setCell ⟨g, 2, none⟩ z).setCell ⟨g, 3, none⟩ u) :=
 (((h.other1 hg hne 0 x).other1 hg hne 1 y).other1 hg hne 2 z).other1 hg hne 3 u
theorem chg_put4 {base g t : Nat} {w : World} {a b c d : Value} (h : Blk w g t #[a, b, c, d]) (hg : base ≤ g) (hn : ∀ u ∈ #[a, b, c, d], notWord u = true) (x y z u : Value) : Chg base t w ((((w.setCell ⟨g, 0, none⟩ x).setCell ⟨g, 1, none⟩ y).setCell ⟨g, 2, none⟩ z).setCell ⟨g, 3, none⟩ u) := by
 have ho : ∀ k, k < w.heap.size → k ≠ g → ((((w.setCell ⟨g, 0, none⟩ x).setCell ⟨g, 1, none⟩ y).setCell ⟨g, 2, none⟩ z).setCell ⟨g, 3, none⟩ u).heap[k]? = w.heap[k]? := fun k _ hk => by
  rw [Below.heap_setCell _ _ _ k hk, Below.heap_setCell _ _ _ k hk, Below.heap_setCell _ _ _ k hk, Below.heap_setCell _ _ _ k hk]
 exact Chg.own h hg (Keeps.apart h hn (by simp [World.setCell]) ho) ho
theorem chg_put1 {base g t j : Nat} {w : World} {cs : Array Value} (h : Blk w g t cs) (hg : base ≤ g) (hn : ∀ u ∈ cs, notWord u = true) (x : Value) : Chg base t w (w.setCell ⟨g, j, none⟩ x) := by
 have ho : ∀ k, k < w.heap.size → k ≠ g → (w.setCell ⟨g, j, none⟩ x).heap[k]? = w.heap[k]? := fun k _ hk => Below.heap_setCell _ _ _ k hk
 exact Chg.own h hg (Keeps.apart h hn (by simp [World.setCell]) ho) ho
theorem Blk.chg {base t t' g : Nat} {w w1 : World} {cs : Array Value} (h : Blk w g t' cs) (hc : Chg base t w w1) (hne : t' ≠ t) : Blk w1 g t' cs :=
 (hc.2 g h.lt (.inr fun cs' hb => by
  have := h.symm.trans hb
  injection this with this
  injection this with _ h2
  exact hne h2)).trans h
theorem prog_words {n : Int} {A1 A2 A3 : Option Addr} {n1 c1 n2 c2 n3 c3 : Nat} : ∀ u ∈ #[Value.int .i64 n, .slice A1 n1 c1, .slice A2 n2 c2, .slice A3 n3 c3], notWord u = true := by
 intro u hu
 simp only [List.mem_toArray, List.mem_cons, List.not_mem_nil, or_false] at hu
 rcases hu with rfl | rfl | rfl | rfl <;> rfl
theorem ret26 {fn : Func} {p : Tmp} {Post : Ending → World → Prop} {tmps : Array Value} {w : World} {g : Nat} {a b c d : Value} (hres : fn.results = #[.cell p 26]) (hp : tmps.getD p undef = .pointer (some ⟨g, 0, none⟩)) (hb : Blk w g 26 #[a, b, c, d])
  (hP : Post (.returned (.agg #[a, b, c, d])) w) : bodyPost Try.prog fn Post Exit.ret { tmps := tmps, defers := [] } w :=
 bodyPost_ret (v := .agg #[a, b, c, d]) (results_cell_row hres _ _ g 26 #[a, b, c, d] (0, 0) _ hp hb Try.underlying26 rfl info26s) rfl hP
theorem append_bools {base : Nat} {w : World} {A : Option Addr} {n c : Nat} {bs : List Bool} (h : BL w (.slice A n c) bs) (hl : bs.length ≤ 1000000) (hb : base ≤ w.heap.size) :
  ∃ v' w', (Builtin.append_ #[22, 22] 22 #[.slice none 0 0, .slice A n c]).run Try.prog w = .ok v' w' ∧ FrO base w' v' bs ∧ Below w.heap.size w w' := by
 obtain ⟨A', c', e, hc, hr⟩ := h
 injection e with e1 e2 e3
 subst e1 e2 e3
 obtain ⟨i, hi, hzz⟩ := Option.map_eq_some_iff.1 info4
 simp only [Prod.mk.injEq] at hzz
 obtain ⟨hz, hsz, hby⟩ := hzz
 by_cases h0 : bs.length = 0
 ·have hnil : bs = [] := List.eq_nil_of_length_eq_zero h0
  subst hnil
  have hsrc : Src Try.prog i.size 22 (.slice A 0 c) 0 [] w := by
   cases A with
   | none => exact Src.ofNil w Try.underlying22 c
   | some a => exact Src.ofSlice w Try.underlying22 a 0 c [] (by simp) (fun j u hu => by simp at hu) (fun u hu => by cases hu)
  exact ⟨_, w, run_append_nothing w 22 22 22 4 i Try.underlying22 hi none 0 0 (Nat.le_refl _) _ hsrc, ⟨⟨none, 0, rfl, Nat.le_refl _, fun hp => absurd hp (by simp)⟩, fun g hg _ => by simp [Value.ownBlock] at hg⟩, Below.refl _ _⟩
 ·obtain ⟨g, o, rfl, hg, he⟩ := hr (by omega)
  have hcell : ∀ j u, (bs.map Value.bool)[j]? = some u → w.cell? ((⟨g, o, none⟩ : Addr).add j) = some u := fun j u hu => by
   rw [List.getElem?_map] at hu
   obtain ⟨b, hb, rfl⟩ := Option.map_eq_some_iff.1 hu
   obtain ⟨vs, _, h2, rfl⟩ := he j b hb
   have := h2 0 _ rfl
   rw [Nat.mul_one, Nat.add_zero] at this
   rw [add_at']
   exact this
  obtain ⟨v', w', hrun, hown, hgr, hk, hob⟩ := (OwnR.nil w w.heap.size 4 1).append (P := Try.prog) 22 22 (.bool false) 1 Try.underlying22 info4 rfl (by simp [Value.cells, notWord]) ⟨g, o, none⟩ bs.length c (bs.map Value.bool) (by simp) hcell (fun u hu => by obtain ⟨b, _, rfl⟩ := List.mem_map.1 hu; rfl) (fun u hu => by obtain ⟨b, _, rfl⟩ := List.mem_map.1 hu; rfl) (by omega) (by omega) (by omega) (Nat.le_refl _)
  refine ⟨v', w', hrun, ?_, ⟨hgr.os, hgr.tape, hgr.output, hgr.size, fun k hk => hgr.block k hk (by simp [Value.ownBlock])⟩⟩
  rw [Nat.zero_add, List.nil_append] at hown
  rcases hown.2 with ⟨_, h1⟩ | ⟨g', cap, cur, rfl, hb', hbl, hnc, hcm, hcs, htake, hw⟩
  ·exact absurd h1 h0
  ·refine ⟨⟨some ⟨g', 0, none⟩, cap, rfl, hnc, fun hp => ⟨g', 0, rfl, hbl.lt, fun j x hj => ⟨#[.bool x], rfl, fun i u hi => ?_, rfl⟩⟩⟩, fun q hq _ => .inr ⟨cur, by simp [Value.ownBlock] at hq; subst hq; exact hbl⟩⟩
   have hi0 : i = 0 := by
    have := (Array.getElem?_eq_some_iff.1 hi).1
    simp at this
    exact this
   subst hi0
   have hu : u = .bool x := by simpa using hi.symm
   subst hu
   rw [Nat.zero_add, Nat.mul_one, Nat.add_zero]
   refine hbl.cell ?_
   have h6 : (bs.map Value.bool)[j]? = some (.bool x) := by rw [List.getElem?_map, hj]; rfl
   rw [← htake, List.getElem?_take] at h6
   split at h6
   ·simpa using h6
   ·cases h6
theorem wpl_append_bools {ops : Array Oper} {rest : List Oper} {o : Oper} {a : Act} {Q : Exit → Act → World → Prop} {W : World} (hgd : o.guard = none) (s x : Operand) (ho : o.op = .call { callee := .builtin .append, args := #[s, x], argTypes := #[22, 22] }) (hty : o.type = 22) {base : Nat}
  (hs : a.eval s = .slice none 0 0) {A : Option Addr} {n c : Nat} (bs : List Bool) (hx : a.eval x = .slice A n c) (hbl : BL W (.slice A n c) bs) (hl : bs.length ≤ 1000000) (hbase : base ≤ W.heap.size)
  (h : ∀ v' w', FrO base w' v' bs → Below W.heap.size W w' → wpList Try.prog ops Q rest (a.put o.dst v') w') : wpList Try.prog ops Q (o :: rest) a W :=
 wpList_plain hgd fun K hK => by
  obtain ⟨v', w', hr, h2, h3⟩ := append_bools hbl hl hbase
  unfold Oper.wp execOp
  simp only [ho, hty, resolve, invoke, builtin, Sem.run_bind, Sem.run_pure, Result.andThen_ok, List.map_toArray, List.map_cons, List.map_nil, hs, hx, hr]
  exact hK _ _ (h v' w' h2 h3)
theorem sq3 (P : Prop) (h : P := by
 clear i0 i1 i2 i3 g0 g1 g2 g3 hltq hcg
 clear D0 E0 hz0
 clear D1 E1 hz1
 clear D2 E2 hz2
 clear D3 E3 hz3
 clear H0 hsz1 l0 x0 x1 x2 x3
 obtain ⟨x0, x1, x2, x3⟩ := HSc.out.c4 1 rfl
 have hltp := (HSc.out.blk 1 rfl).lt
 obtain ⟨qg, hqg⟩ : ∃ q, q = p.goal.map fixQ := ⟨_, rfl⟩
 rw [← hqg] at HQc
 have HQG := Hd hqg
 obtain ⟨rq, hrq⟩ : ∃ q, q = p.rows.map cleanR := ⟨_, rfl⟩
 have HRQ := Hd hrq
 clear hqg hrq
 go_wp2_with fail
 clear x0 x1 x2 x3
 go_loopw [18] (fun vi wr => ∃ i : Nat, i ≤ p.rows.length ∧ vi = .int .i64 (i : Int) ∧ (∃ A5 c5, Blk wr gq 26 #[.int .i64 vars, .slice B1 p.free.length d1, .slice B2 p.goal.length d2, .slice A5 i c5] ∧ RO w.heap.size wr (.slice A5 i c5) (rq.take i)) ∧ FrO 0 wr (.slice B1 p.free.length d1) p.free ∧ QO w.heap.size wr (.slice B2 p.goal.length d2) qg ∧ w.heap.size + 2 ≤ wr.heap.size ∧ HS w [(w.heap.size + 1, 26, #[.int .i64 0, .slice none 0 0, .slice none 0 0, .slice none 0 0]), (w.heap.size, 26, #[.int .i64 vars, .slice A1 p.free.length c1, .slice A2 p.goal.length c2, .slice A3 p.rows.length c3])] wr) (fun vi _ => p.rows.length - (intOf vi).toNat)
 case atStart => exact ⟨0, Nat.zero_le _, rfl, ⟨none, 0, HBc.out, OL.nil _ _ _ _ _⟩, HFc.out, HQc.out, hszc, HSc.out⟩
 case round =>
  obtain ⟨i, hi, rfl, ⟨A5, c5, hbq, hro⟩, hfr, hqo, hsz2, hs⟩ := hrel
  have HBQ := Hd hbq
  have HRO := Hd hro
  have HFR := Hd hfr
  have HQO := Hd hqo
  have HK := Hd hs
  clear hbq hro hfr hqo hs HBc HFc HQc HSc hszc hltp
  by_cases hlt : i < p.rows.length
  ·obtain ⟨r, hr'⟩ : ∃ r, p.rows[i]? = some r := ⟨p.rows[i], geq hlt⟩
   obtain ⟨g1, o1, C1, e1, C2, n2, e2, C3, n3, e3, rfl, hg, k0, k1, k2, k3, k4, HIS, HRA, HRB⟩ := RL.at5 (H3.out.below ER.stays HK.out.2) hr'
   have hra : r.a.length ≤ 1000000000 := by have := HLA.out r (mog hr'); omega
   have HNX : Hid (rq.take (i + 1) = rq.take i ++ [cleanR r]) := by
    unfold Hid
    rw [List.take_add_one, HRQ.out, List.getElem?_map, hr']
    rfl
   have hrl : (rq.take i).length ≤ 1000000000 := by rw [ltk]; omega
   have HRL : Hid ((rq.take (i + 1)).length = i + 1) := by unfold Hid; rw [ltk, HRQ.out, lmp]; omega
   have m1 : (i : Int) < (p.rows.length : Int) := by omega
   have m3 : (i : Int).toNat = i := by omega
   have m4 : (0 : Int) ≤ (i : Int) := by omega
   obtain ⟨s, hs⟩ : ∃ s, s = r.s := ⟨_, rfl⟩
   rw [← hs] at k1
   have HSE := Hd hs
   have hltq := HBQ.out.lt
   clear hr' hs
   go_wp2_with fail
   have HB1 := Hd (below_new wr (.cells #[.slice C1 r.a.length e1, .int .i64 s, .bool r.b.neg, .slice C2 n2 e2, .slice C3 n3 e3] 65))
   have HKB1 := Hd (Blk.new wr 65 #[.slice C1 r.a.length e1, .int .i64 s, .bool r.b.neg, .slice C2 n2 e2, .slice C3 n3 e3])
   obtain ⟨gr, hgr⟩ : ∃ gr, gr = wr.heap.size := ⟨_, rfl⟩
   rw [← hgr] at HKB1
   generalize wr.alloc (.cells #[.slice C1 r.a.length e1, .int .i64 s, .bool r.b.neg, .slice C2 n2 e2, .slice C3 n3 e3] 65) = W1 at *
   rw [← hgr]
   clear hgr k0 k1 k2 k3 k4
   have z0 := HKB1.out.cell (j := 0) rfl
   have z1 := HKB1.out.cell (j := 1) rfl
   have z2 := HKB1.out.cell (j := 2) rfl
   have z3 := HKB1.out.cell (j := 3) rfl
   have z4 := HKB1.out.cell (j := 4) rfl
   have hzl := HKB1.out.lt
   have HBQ1 := Hd (HBQ.out.below HB1.out HBQ.out.lt)
   obtain ⟨i0, i1, i2, i3⟩ := HBQ1.out.c4
   have hltq1 := HBQ1.out.lt
   have hsz3 : w.heap.size ≤ W1.heap.size := by have := HB1.out.size; omega
   refine wp_chainF (l := [_, _, _, _, _, _, _, _, _, _, _, _, _, _, _]) (S := Below W1.heap.size W1) 12 [([0, 1, 2, 3, 5, 6, 7, 8], 4), ([], 9), ([10], 11)] [] (by kernel_rfl) (by kernel_rfl) (by kernel_rfl) rfl Bd ?_
   refine ⟨?_, _, ?_, rfl, ?_⟩
   rotate_left
   ·repeat (refine pu ?_; (try simp only [SQ]))
    exact rfl
   have D0 : Hid (Below W1.heap.size W1 W1.drew) := Bd
   have F0 := Hd (below_next HB1.out D0.out)
   go_wp2_with fail
   refine (fixed_calls _ _ r.a (HRA.out.below EF.stays F0.out) hra).mono ?_
   rintro e W2 ⟨v2, rfl, hq, hb⟩
   have hq' := hq.lower (base' := w.heap.size) (Nat.le_trans hsz3 D0.out.size)
   obtain ⟨C4, e4, hv2, _⟩ := hq'.slice
   rw [lmp] at hv2
   subst hv2
   have HQ2 := Hd hq'
   have D2 := Hd (below_next D0.out hb)
   have F2 := Hd (below_next HB1.out D2.out)
   clear hq hq' hb
   go_wp2_with fail
   refine And.intro D2.out ⟨_, _, rfl, rfl, ?_⟩
   go_wp2_with fail
   refine (fix_calls _ _ r.b (HRB.out.of_below F2.out)).mono ?_
   rintro e W3 ⟨v3, rfl, hv, hb⟩
   obtain ⟨C5, n5, e5, C6, n6, e6, rfl, HV3⟩ := hv.opened
   have HQ3 := Hd (HQ2.out.below EFQ.stays hb)
   have D3 := Hd (below_next D2.out hb)
   clear hv hb
   go_wp2_with fail
   refine And.intro D3.out ⟨?_, _, ?_, rfl, ?_⟩
   rotate_left
   ·repeat (refine pu ?_; (try simp only [SQ]))
    exact rfl
   go_wp2_with fail
   have HL4 := Hd (Blk.new W3 65 #[.slice C4 r.a.length e4, .int .i64 s, .bool (negQ (fixQ r.b)), .slice C5 n5 e5, .slice C6 n6 e6])
   have hbn := below_new W3 (.cells #[.slice C4 r.a.length e4, .int .i64 s, .bool (negQ (fixQ r.b)), .slice C5 n5 e5, .slice C6 n6 e6] 65)
   have D4 := Hd (below_next D3.out hbn)
   have HQ4 := Hd (HQ3.out.below EFQ.stays hbn)
   have HV4 := Hd (HV3.out.of_below hbn)
   obtain ⟨gl, hgl⟩ : ∃ g, g = W3.heap.size := ⟨_, rfl⟩
   rw [← hgl] at HL4 ⊢
   generalize W3.alloc (.cells #[.slice C4 r.a.length e4, .int .i64 s, .bool (negQ (fixQ r.b)), .slice C5 n5 e5, .slice C6 n6 e6] 65) = W4 at *
   clear hgl hbn
   refine And.intro D4.out ⟨_, rfl, ?_⟩
   have F4 := Hd (below_next HB1.out D4.out)
   have HBQ4 := Hd (HBQ.out.below F4.out HBQ.out.lt)
   have HRO4 := Hd (HRO.out.below ERO.stays F4.out)
   have HFR4 := Hd (HFR.out.below F4.out)
   have HQO4 := Hd (HQO.out.below EFQ.stays F4.out)
   have HK4 := Hd (HK.out.step F4.out)
   have hbase4 : w.heap.size ≤ W4.heap.size := Nat.le_trans hsz3 D4.out.size
   have HER : Hid (ERO w.heap.size W4 #[.slice C4 r.a.length e4, .int .i64 s, .bool (negQ (fixQ r.b)), .slice C5 n5 e5, .slice C6 n6 e6] (cleanR r)) := ⟨_, _, _, _, _, _, _, by unfold cleanR; rw [HSE.out], HIS.out, HQ4.out, HV4.out⟩
   simp only [SQ, List.drop_succ_cons, List.drop_zero]
   clear i0 i1 i2 i3 z0 z1 z2 z3 z4
   go_wp2_with (at_builtin; refine wpl_appendR5 rfl (.tmp 23) (.tmp 33) rfl (base := w.heap.size) (.slice A5 i c5) (rq.take i) rfl HRO4.out (cleanR r) rfl HL4.out HER.out hrl hbase4 ?_; intro v6 W6 hro6 hcg6 hw6 hob6; obtain ⟨A6, c6, hv6, _⟩ := hro6.slice; rw [← HNX.out] at hro6 hv6; rw [HRL.out] at hv6; subst hv6; have HRO6 := Hd hro6; have HBQ6 := Hd (HBQ4.out.chg hcg6 (by decide)); have HFR6 := Hd (HFR4.out.chg hcg6 (by decide)); have HQO6 := Hd (QO.chg HQO4.out hcg6 (by decide)); have HK6 := Hd (HS.chg HK4.out hcg6 (by simp) rfl hw6); have hsz6 : w.heap.size + 2 ≤ W6.heap.size := (by have := hcg6.1.1; have := D4.out.size; have := HB1.out.size; omega); obtain ⟨i0, i1, i2, i3⟩ := HBQ6.out.c4; obtain ⟨f0, f1, f2, f3⟩ := HBQ6.out.f4; have hltq6 := HBQ6.out.lt; clear hro6 hcg6 hw6 hob6)
   refine NoPanic.normal ?_
   have hcp := chg_put1 (base := w.heap.size) (j := 3) HBQ6.out (by omega) prog_words (.slice A6 (i + 1) c6)
   have HX1 := Hd (HBQ6.out.put 3 (.slice A6 (i + 1) c6))
   have HX2 := Hd (RO.chg HRO6.out hcp (by decide) (by decide))
   have HX3 := Hd (HFR6.out.chg hcp (by decide))
   have HX4 := Hd (QO.chg HQO6.out hcp (by decide))
   have HX5 := Hd (HK6.out.other1 (g := gq) (by omega) (by simp; omega) 3 (.slice A6 (i + 1) c6))
   have hsz7 : w.heap.size + 2 ≤ (W6.setCell ⟨gq, 3, none⟩ (.slice A6 (i + 1) c6)).heap.size := by have := hcp.1.1; omega
   clear hcp
   go_wp2_with fail
   go_roundw
   case rel => exact ⟨i + 1, by omega, by go_num, ⟨A6, c6, HX1.out, HX2.out⟩, HX3.out, HX4.out, hsz7, HX5.out⟩
   case measure => simp [intOf]; omega
  ·obtain rfl : i = p.rows.length := by omega
   have hrt : rq.take p.rows.length = rq := List.take_of_length_le (by rw [HRQ.out, lmp]; exact Nat.le_refl _)
   rw [hrt] at HRO
   clear hrt
   obtain ⟨i0, i1, i2, i3⟩ := HBQ.out.c4
   have hltq := HBQ.out.lt
   obtain ⟨j0, j1, j2, j3⟩ := (HK.out.blk 0 rfl).c4
   obtain ⟨f0, f1, f2, f3⟩ := (HK.out.blk 0 rfl).f4
   have hlt0 := (HK.out.blk 0 rfl).lt
   go_wp2_with fail
   have hcg := chg_put4 (base := w.heap.size) (HK.out.blk 0 rfl) (by simp) prog_words (.int .i64 vars) (.slice B1 p.free.length d1) (.slice B2 p.goal.length d2) (.slice A5 p.rows.length c5)
   exact ret26 Try.results40 rfl ((HK.out.blk 0 rfl).put4 _ _ _ _) ⟨_, _, _, by unfold cleanQ; rw [HV.out], HFR.out.chg hcg (by decide), by show QO _ _ _ (p.goal.map fixQ); rw [← HQG.out]; exact QO.chg HQO.out hcg (by decide), by show RO _ _ _ (p.rows.map cleanR); rw [← HRQ.out]; exact RO.chg HRO.out hcg (by decide) (by decide), below_put4 HK.out.2 (by simp) _ _ _ _⟩) : P := h
theorem sq23 (P : Prop) (h : P := by
 obtain ⟨B2, d2, hv2, _⟩ := hq'.slice
 rw [lmp] at hv2
 subst hv2
 have HQ3 := Hd hq'
 clear hq hq' hbb
 go_wp2_with fail
 refine And.intro D3.out ⟨?_, ?_, ?_⟩
 rotate_left
 ·repeat (refine pu ?_; (try simp only [SQ]))
  exact rfl
 obtain ⟨i0, i1, i2, i3⟩ := HB3.out.c4
 obtain ⟨g0, g1, g2, g3⟩ := HB3.out.f4
 have hltq := HB3.out.lt
 go_wp2_with fail
 refine NoPanic.normal ?_
 have HBc := Hd (HB3.out.put4 (.int .i64 vars) (.slice B1 p.free.length d1) (.slice B2 p.goal.length d2) (.slice none 0 0))
 have hcg := chg_put4 (base := w.heap.size) HB3.out (by omega) prog_words (.int .i64 vars) (.slice B1 p.free.length d1) (.slice B2 p.goal.length d2) (.slice none 0 0)
 have HFc := Hd (HF3.out.chg hcg (by decide))
 have HQc := Hd (QO.chg HQ3.out hcg (by decide))
 have HSc := Hd (E3.out.other4 (g := gq) (by omega) (by simp; omega) (.int .i64 vars) (.slice B1 p.free.length d1) (.slice B2 p.goal.length d2) (.slice none 0 0))
 have hszc : w.heap.size + 2 ≤ ((((Wb.setCell ⟨gq, 0, none⟩ (.int .i64 vars)).setCell ⟨gq, 1, none⟩ (.slice B1 p.free.length d1)).setCell ⟨gq, 2, none⟩ (.slice B2 p.goal.length d2)).setCell ⟨gq, 3, none⟩ (.slice none 0 0)).heap.size := by have := hcg.1.1; omega
 generalize (((Wb.setCell ⟨gq, 0, none⟩ (.int .i64 vars)).setCell ⟨gq, 1, none⟩ (.slice B1 p.free.length d1)).setCell ⟨gq, 2, none⟩ (.slice B2 p.goal.length d2)).setCell ⟨gq, 3, none⟩ (.slice none 0 0) = Wc at *
 exact sq3 _) : P := h
theorem clean_calls (w : World) (v : Value) (p : ProgF) (h : PR w v p) (hlf : p.free.length ≤ 1000) (hlg : p.goal.length ≤ 1000) (hlr : p.rows.length ≤ 1000) (hla : ∀ r ∈ p.rows, r.a.length ≤ 1000) : Calls Try.prog 40 #[v] w fun e w' => CPost w (cleanQ p) e w' := by
 obtain ⟨A1, c1, A2, c2, A3, c3, rfl, HI, H1, H2, H3⟩ := h.opened
 clear h
 obtain ⟨vars, hv⟩ : ∃ n, n = p.vars := ⟨_, rfl⟩
 rw [← hv]
 have HV := Hd hv
 have HLA := Hd hla
 clear hv hla
 go_enter Try.func40, Try.ntmps40
 go_wp2_with fail
 have H0 := Hd (HS.two (w := w) #[.int .i64 vars, .slice A1 p.free.length c1, .slice A2 p.goal.length c2, .slice A3 p.rows.length c3] #[.int .i64 0, .slice none 0 0, .slice none 0 0, .slice none 0 0] 26 26)
 have hsz0 : ((w.alloc (.cells #[.int .i64 vars, .slice A1 p.free.length c1, .slice A2 p.goal.length c2, .slice A3 p.rows.length c3] 26)).alloc (.cells #[.int .i64 0, .slice none 0 0, .slice none 0 0, .slice none 0 0] 26)).heap.size = w.heap.size + 2 := by simp
 generalize (w.alloc (.cells #[.int .i64 vars, .slice A1 p.free.length c1, .slice A2 p.goal.length c2, .slice A3 p.rows.length c3] 26)).alloc (.cells #[.int .i64 0, .slice none 0 0, .slice none 0 0, .slice none 0 0] 26) = W0 at *
 have hsz1 : w.heap.size + 2 ≤ W0.heap.size := by omega
 clear hsz0
 obtain ⟨x0, x1, x2, x3⟩ := H0.out.c4 1 rfl
 have l0 := (H0.out.blk 1 rfl).lt
 have hlf' : p.free.length ≤ 1000000 := by omega
 have hlg' : p.goal.length ≤ 1000000000 := by omega
 refine wp_tree (l := [_, _, _, _, _, _, _, _, _, _, _]) (S := Below W0.heap.size W0) 10 (.two [0, 1, 2, 3, 5, 6] 4 (.two [] 7 (.one [8] 9 (.fin [])) 9 (.one [] 7 (.fin [8]))) 9 (.one [] 4 (.one [] 7 (.fin [8])))) (by kernel_rfl) (by kernel_rfl) (by kernel_rfl) rfl Bd ?_
 refine ⟨?_, _, _, ?_, rfl, rfl, ?_, ?_⟩
 rotate_left
 ·repeat (refine pu ?_; (try simp only [SQ]))
  exact rfl
 ·have D0 : Hid (Below W0.heap.size W0 W0.drew) := Bd
  have E0 := Hd (HS.step H0.out D0.out)
  have hz0 : w.heap.size + 2 ≤ W0.drew.heap.size := hsz1
  generalize W0.drew = Wx at *
  simp only [SQ]
  go_wp2_with (at_builtin; (refine wpl_append_bools rfl (.const (.slice none 0 0)) (.tmp 9) rfl rfl (base := 0) rfl p.free rfl (H1.out.below EB.stays E0.out.2) hlf' (Nat.zero_le _) ?_); intro v1 Wa hfr hba)
  have D1 := Hd (below_next D0.out hba)
  have E1 := Hd (HS.step H0.out D1.out)
  have hz1 : w.heap.size + 2 ≤ Wa.heap.size := Nat.le_trans hz0 (hba).size
  obtain ⟨B1, d1, rfl, _⟩ := hfr.1.slice
  have HF1 := Hd hfr
  clear hfr hba
  go_wp2_with fail
  refine And.intro D1.out ⟨_, _, _, rfl, rfl, rfl, ?_, ?_⟩
  ·go_wp2_with fail
   refine (fixed_calls _ _ p.goal (H2.out.below EF.stays E1.out.2) hlg').mono ?_
   rintro e Wb ⟨v2, rfl, hq, hbb⟩
   have hq' := hq.lower (Nat.le_trans (Nat.le_add_right _ 2) hz1)
   have D2 := Hd (below_next D1.out hbb)
   have E2 := Hd (HS.step H0.out D2.out)
   have hz2 : w.heap.size + 2 ≤ Wb.heap.size := Nat.le_trans hz1 (hbb).size
   have HF2 := Hd (HF1.out.below hbb)
   obtain ⟨B2, d2, hv2, _⟩ := hq'.slice
   rw [lmp] at hv2
   subst hv2
   have HQ2 := Hd hq'
   clear hq hq' hbb
   go_wp2_with fail
   refine And.intro D2.out ⟨?_, _, ?_, rfl, ?_⟩
   rotate_left
   ·repeat (refine pu ?_; (try simp only [SQ]))
    exact rfl
   go_wp2_with fail
   have hBq := Blk.new Wb 26 #[.int .i64 0, .slice none 0 0, .slice none 0 0, .slice none 0 0]
   obtain ⟨gq, hgq⟩ : ∃ gq, gq = Wb.heap.size := ⟨_, rfl⟩
   have hgq2 : w.heap.size + 2 ≤ gq := by have := hz2; omega
   have hba2 := (below_new Wb (.cells #[.int .i64 0, .slice none 0 0, .slice none 0 0, .slice none 0 0] 26))
   have D3 := Hd (below_next D2.out hba2)
   have E3 := Hd (HS.step H0.out D3.out)
   have hz3 : w.heap.size + 2 ≤ (Wb.alloc (.cells #[.int .i64 0, .slice none 0 0, .slice none 0 0, .slice none 0 0] 26)).heap.size := Nat.le_trans hz2 (hba2).size
   have HF3 := Hd (HF2.out.below hba2)
   have HQ3 := Hd (HQ2.out.below EFQ.stays hba2)
   try rw [← show gq = Wb.heap.size from hgq] at hBq
   try rw [← show gq = Wb.heap.size from hgq]
   have HB3 := Hd hBq
   clear hBq hba2 hgq
   generalize Wb.alloc (.cells #[.int .i64 0, .slice none 0 0, .slice none 0 0, .slice none 0 0] 26) = Wd at *
   refine And.intro D3.out ⟨_, rfl, ?_⟩
   obtain ⟨i0, i1, i2, i3⟩ := HB3.out.c4
   obtain ⟨g0, g1, g2, g3⟩ := HB3.out.f4
   have hltq := HB3.out.lt
   go_wp2_with fail
   refine NoPanic.normal ?_
   have HBc := Hd (HB3.out.put4 (.int .i64 vars) (.slice B1 p.free.length d1) (.slice B2 p.goal.length d2) (.slice none 0 0))
   have hcg := chg_put4 (base := w.heap.size) HB3.out (by omega) prog_words (.int .i64 vars) (.slice B1 p.free.length d1) (.slice B2 p.goal.length d2) (.slice none 0 0)
   have HFc := Hd (HF3.out.chg hcg (by decide))
   have HQc := Hd (QO.chg HQ3.out hcg (by decide))
   have HSc := Hd (E3.out.other4 (g := gq) (by omega) (by simp; omega) (.int .i64 vars) (.slice B1 p.free.length d1) (.slice B2 p.goal.length d2) (.slice none 0 0))
   have hszc : w.heap.size + 2 ≤ ((((Wd.setCell ⟨gq, 0, none⟩ (.int .i64 vars)).setCell ⟨gq, 1, none⟩ (.slice B1 p.free.length d1)).setCell ⟨gq, 2, none⟩ (.slice B2 p.goal.length d2)).setCell ⟨gq, 3, none⟩ (.slice none 0 0)).heap.size := by have := hcg.1.1; omega
   generalize (((Wd.setCell ⟨gq, 0, none⟩ (.int .i64 vars)).setCell ⟨gq, 1, none⟩ (.slice B1 p.free.length d1)).setCell ⟨gq, 2, none⟩ (.slice B2 p.goal.length d2)).setCell ⟨gq, 3, none⟩ (.slice none 0 0) = Wc at *
   exact sq3 _
  ·go_wp2_with fail
   have hBq := Blk.new Wa 26 #[.int .i64 0, .slice none 0 0, .slice none 0 0, .slice none 0 0]
   obtain ⟨gq, hgq⟩ : ∃ gq, gq = Wa.heap.size := ⟨_, rfl⟩
   have hgq2 : w.heap.size + 2 ≤ gq := by have := hz1; omega
   have hba2 := (below_new Wa (.cells #[.int .i64 0, .slice none 0 0, .slice none 0 0, .slice none 0 0] 26))
   have D2 := Hd (below_next D1.out hba2)
   have E2 := Hd (HS.step H0.out D2.out)
   have hz2 : w.heap.size + 2 ≤ (Wa.alloc (.cells #[.int .i64 0, .slice none 0 0, .slice none 0 0, .slice none 0 0] 26)).heap.size := Nat.le_trans hz1 (hba2).size
   have HF2 := Hd (HF1.out.below hba2)
   try rw [← show gq = Wa.heap.size from hgq] at hBq
   try rw [← show gq = Wa.heap.size from hgq]
   have HB2 := Hd hBq
   clear hBq hba2 hgq
   generalize Wa.alloc (.cells #[.int .i64 0, .slice none 0 0, .slice none 0 0, .slice none 0 0] 26) = Wd at *
   refine And.intro D2.out ⟨_, _, rfl, rfl, ?_⟩
   go_wp2_with fail
   refine (fixed_calls _ _ p.goal (H2.out.below EF.stays E2.out.2) hlg').mono ?_
   rintro e Wb ⟨v2, rfl, hq, hbb⟩
   have hq' := hq.lower (Nat.le_trans (Nat.le_add_right _ 2) hz2)
   have D3 := Hd (below_next D2.out hbb)
   have E3 := Hd (HS.step H0.out D3.out)
   have hz3 : w.heap.size + 2 ≤ Wb.heap.size := Nat.le_trans hz2 (hbb).size
   have HF3 := Hd (HF2.out.below hbb)
   have HB3 := Hd (HB2.out.below hbb HB2.out.lt)
   exact sq23 _
 ·have D0 : Hid (Below W0.heap.size W0 W0.drew) := Bd
  have E0 := Hd (HS.step H0.out D0.out)
  have hz0 : w.heap.size + 2 ≤ W0.drew.heap.size := hsz1
  generalize W0.drew = Wx at *
  go_wp2_with fail
  have hBq := Blk.new Wx 26 #[.int .i64 0, .slice none 0 0, .slice none 0 0, .slice none 0 0]
  obtain ⟨gq, hgq⟩ : ∃ gq, gq = Wx.heap.size := ⟨_, rfl⟩
  have hgq2 : w.heap.size + 2 ≤ gq := by have := hz0; omega
  have hba2 := (below_new Wx (.cells #[.int .i64 0, .slice none 0 0, .slice none 0 0, .slice none 0 0] 26))
  have D1 := Hd (below_next D0.out hba2)
  have E1 := Hd (HS.step H0.out D1.out)
  have hz1 : w.heap.size + 2 ≤ (Wx.alloc (.cells #[.int .i64 0, .slice none 0 0, .slice none 0 0, .slice none 0 0] 26)).heap.size := Nat.le_trans hz0 (hba2).size
  try rw [← show gq = Wx.heap.size from hgq] at hBq
  try rw [← show gq = Wx.heap.size from hgq]
  have HB1 := Hd hBq
  clear hBq hba2 hgq
  generalize Wx.alloc (.cells #[.int .i64 0, .slice none 0 0, .slice none 0 0, .slice none 0 0] 26) = Wd at *
  refine And.intro D1.out ⟨_, _, rfl, rfl, ?_⟩
  simp only [SQ]
  go_wp2_with (at_builtin; (refine wpl_append_bools rfl (.const (.slice none 0 0)) (.tmp 9) rfl rfl (base := 0) rfl p.free rfl (H1.out.below EB.stays E1.out.2) hlf' (Nat.zero_le _) ?_); intro v1 Wa hfr hba)
  have D2 := Hd (below_next D1.out hba)
  have E2 := Hd (HS.step H0.out D2.out)
  have hz2 : w.heap.size + 2 ≤ Wa.heap.size := Nat.le_trans hz1 (hba).size
  have HB2 := Hd (HB1.out.below hba HB1.out.lt)
  obtain ⟨B1, d1, rfl, _⟩ := hfr.1.slice
  have HF2 := Hd hfr
  clear hfr hba
  go_wp2_with fail
  refine And.intro D2.out ⟨_, _, rfl, rfl, ?_⟩
  go_wp2_with fail
  refine (fixed_calls _ _ p.goal (H2.out.below EF.stays E2.out.2) hlg').mono ?_
  rintro e Wb ⟨v2, rfl, hq, hbb⟩
  have hq' := hq.lower (Nat.le_trans (Nat.le_add_right _ 2) hz2)
  have D3 := Hd (below_next D2.out hbb)
  have E3 := Hd (HS.step H0.out D3.out)
  have hz3 : w.heap.size + 2 ≤ Wb.heap.size := Nat.le_trans hz2 (hbb).size
  have HB3 := Hd (HB2.out.below hbb HB2.out.lt)
  have HF3 := Hd (HF2.out.below hbb)
  exact sq23 _
def Small (q : Rat) : Prop := sizeQ q ≤ 4096
def SmallR (r : RowQ) : Prop := (∀ q ∈ r.a, Small q) ∧ Small r.b
def SmallP (p : ProgQ) : Prop := (∀ q ∈ p.goal, Small q) ∧ ∀ r ∈ p.rows, SmallR r
theorem small_neg {q : Rat} (h : Small q) : Small (-q) := by
 unfold Small sizeQ at *
 rw [Rat.neg_num, Rat.neg_den, Int.natAbs_neg]
 exact h
theorem small_fix (f : RawF) : Small (fixQ f) := sizeQ_fix f
theorem small_clean (p : ProgF) : SmallP (cleanQ p) := ⟨fun q hq => by
 obtain ⟨f, _, rfl⟩ := List.mem_map.1 hq
 exact small_fix f, fun r hr => by
 obtain ⟨f, _, rfl⟩ := List.mem_map.1 hr
 exact ⟨fun q hq => by
  obtain ⟨g, _, rfl⟩ := List.mem_map.1 hq
  exact small_fix g, small_fix _⟩⟩
theorem SL.mapE {α β : Type} {k : Nat} {E : World → Array Value → α → Prop} {F : World → Array Value → β → Prop} {w : World} {v : Value} {xs : List α} (f : α → β) (h : SL k E w v xs) (hE : ∀ vs x, x ∈ xs → E w vs x → F w vs (f x)) : SL k F w v (xs.map f) := by
 obtain ⟨A, c, e, hc, hr⟩ := h
 refine ⟨A, c, by rw [lmp]; exact e, by rw [lmp]; exact hc, fun hp => ?_⟩
 rw [lmp] at hp
 obtain ⟨g, o, hA, hg, he⟩ := hr hp
 refine ⟨g, o, hA, hg, fun j y hy => ?_⟩
 rw [List.getElem?_map] at hy
 obtain ⟨x, hx, rfl⟩ := Option.map_eq_some_iff.1 hy
 obtain ⟨vs, h1, h2, h3⟩ := he j x hx
 exact ⟨vs, h1, h2, hE vs x (mog hx) h3⟩
theorem QO.fl {base : Nat} {w : World} {v : Value} {qs : List Rat} (h : QO base w v qs) (hs : ∀ q ∈ qs, Small q) : FL w v (qs.map rawQ) :=
 SL.mapE rawQ (OL.sl h) fun vs q hq he => FR.of_fq he (hs q hq)
theorem neg_raw {qs : List Rat} (hs : ∀ q ∈ qs, Small q) : (qs.map rawQ).map negF = qs.map fun q => -q := by
 rw [List.map_map]
 refine List.map_congr_left fun q hq => ?_
 show negF (rawQ q) = -q
 unfold negF
 rw [fixQ_raw q (hs q hq)]
def put5 (w : World) (g o : Nat) (a b c d e : Value) : World := ((((w.setCell ⟨g, o, none⟩ a).setCell ⟨g, o + 1, none⟩ b).setCell ⟨g, o + 2, none⟩ c).setCell ⟨g, o + 3, none⟩ d).setCell ⟨g, o + 4, none⟩ e
theorem put5_other (w : World) (g o : Nat) (a b c d e : Value) {k : Nat} (hk : k ≠ g) : (put5 w g o a b c d e).heap[k]? = w.heap[k]? := by
 unfold put5
 rw [Below.heap_setCell _ _ _ k hk, Below.heap_setCell _ _ _ k hk, Below.heap_setCell _ _ _ k hk, Below.heap_setCell _ _ _ k hk, Below.heap_setCell _ _ _ k hk]
theorem put5_size (w : World) (g o : Nat) (a b c d e : Value) : (put5 w g o a b c d e).heap.size = w.heap.size := by simp [put5, World.setCell]
theorem RO.at5 {base : Nat} {w : World} {A : Option Addr} {n c : Nat} {rs : List RowQ} (h : RO base w (.slice A n c) rs) {j : Nat} {r : RowQ} (hj : rs[j]? = some r) :
  ∃ g A1 c1 A2 n2 c2 A3 n3 c3, A = some ⟨g, 0, none⟩ ∧ base ≤ g ∧ g < w.heap.size ∧ w.cell? ⟨g, j * 5, none⟩ = some (.slice A1 r.a.length c1) ∧ w.cell? ⟨g, j * 5 + 1, none⟩ = some (.int .i64 r.s) ∧ w.cell? ⟨g, j * 5 + 2, none⟩ = some (.bool (negQ r.b)) ∧
   w.cell? ⟨g, j * 5 + 3, none⟩ = some (.slice A2 n2 c2) ∧ w.cell? ⟨g, j * 5 + 4, none⟩ = some (.slice A3 n3 c3) ∧ (∀ k, w.frozen? ⟨g, k, none⟩ = false) ∧ Hid (I64 r.s) ∧ Hid (QO base w (.slice A1 r.a.length c1) r.a) ∧ Hid (FQ w (.agg #[.bool (negQ r.b), .slice A2 n2 c2, .slice A3 n3 c3]) r.b) := by
 obtain ⟨xs, ⟨hl, h1⟩, h2⟩ := h
 rcases h1 with ⟨e0, h0⟩ | ⟨g, cap, cur, e1, hb, hbl, hnc, hcm, hcs, htake, hcw⟩
 ·have := (List.getElem?_eq_some_iff.1 hj).1
  omega
 ·injection e1 with e1 e2 e3
  subst e1 e3
  obtain ⟨vs, h3, h4, v, A2, n2, c2, A3, n3, c3, rfl, hI, h5, h6⟩ := h2 j r hj
  obtain ⟨A1, c1, rfl, _⟩ := OL.slice h5
  have hc : ∀ k u, #[Value.slice A1 r.a.length c1, .int .i64 r.s, .bool (negQ r.b), .slice A2 n2 c2, .slice A3 n3 c3][k]? = some u → w.cell? ⟨g, j * 5 + k, none⟩ = some u := fun k u hk => by
   have h7 := h4 k u hk
   refine hbl.cell ?_
   rw [← htake, List.getElem?_take] at h7
   split at h7
   ·simpa using h7
   ·cases h7
  exact ⟨g, A1, c1, A2, n2, c2, A3, n3, c3, rfl, hb, hbl.lt, hc 0 _ rfl, hc 1 _ rfl, hc 2 _ rfl, hc 3 _ rfl, hc 4 _ rfl, fun k => hbl.frozen k, hI, h5, h6⟩
theorem PO.opened {base : Nat} {w : World} {v : Value} {p : ProgQ} (h : PO base w v p) : ∃ A1 c1 A2 c2 A3 c3, v = .agg #[.int .i64 p.vars, .slice A1 p.free.length c1, .slice A2 p.goal.length c2, .slice A3 p.rows.length c3] ∧ Hid (I64 p.vars) ∧ Hid (FrO base w (.slice A1 p.free.length c1) p.free) ∧ Hid (QO base w (.slice A2 p.goal.length c2) p.goal) ∧ Hid (RO base w (.slice A3 p.rows.length c3) p.rows) := by
 obtain ⟨v1, v2, v3, rfl, hv, h1, h2, h3⟩ := h
 obtain ⟨A1, c1, rfl, _⟩ := h1.1.slice
 obtain ⟨A2, c2, rfl, _⟩ := OL.slice h2
 obtain ⟨A3, c3, rfl, _⟩ := OL.slice h3
 exact ⟨A1, c1, A2, c2, A3, c3, rfl, hv, h1, h2, h3⟩
theorem RO.lower {base base' : Nat} {w : World} {v : Value} {rs : List RowQ} (h : RO base w v rs) (hb : base' ≤ base) : RO base' w v rs := by
 obtain ⟨xs, h3, h4⟩ := h
 refine ⟨xs, h3.lower hb, fun j a hj => ?_⟩
 obtain ⟨vs, h5, h6, v, B1, m1, d1, B2, m2, d2, e2, h7, h8, h9⟩ := h4 j a hj
 exact ⟨vs, h5, h6, v, B1, m1, d1, B2, m2, d2, e2, h7, QO.lower h8 hb, h9⟩
def AccF (W : World) (g : Nat) (q : Rat) : Prop := ∃ A1 n1 c1 A2 n2 c2, Blk W g 40 #[.bool (negQ q), .slice A1 n1 c1, .slice A2 n2 c2] ∧ FQ W (.agg #[.bool (negQ q), .slice A1 n1 c1, .slice A2 n2 c2]) q
theorem AccF.step {W W' : World} {g : Nat} {q : Rat} (h : AccF W g q) (hb : Below W.heap.size W W') : AccF W' g q := by
 obtain ⟨A1, n1, c1, A2, n2, c2, h1, h2⟩ := h
 exact ⟨A1, n1, c1, A2, n2, c2, h1.below hb h1.lt, h2.of_below hb⟩
theorem AccF.put {W : World} {g : Nat} {q p : Rat} {A1 A2 : Option Addr} {n1 c1 n2 c2 : Nat} (h : AccF W g q) (hp : FQ W (.agg #[.bool (negQ p), .slice A1 n1 c1, .slice A2 n2 c2]) p) : AccF (((W.setCell ⟨g, 0, none⟩ (.bool (negQ p))).setCell ⟨g, 1, none⟩ (.slice A1 n1 c1)).setCell ⟨g, 2, none⟩ (.slice A2 n2 c2)) g p := by
 obtain ⟨_, _, _, _, _, _, h1, _⟩ := h
 exact ⟨A1, n1, c1, A2, n2, c2, h1.put3 _ _ _, hp.put3 h1 ni_box _ _ _⟩
def dotStep (s p : Rat) : Rat := capQ (s + capQ p)
theorem capQ_fits {q : Rat} (h : sizeQ q ≤ 4096) : capQ q = q := by unfold capQ; rw [if_pos h]
theorem capQ_capQ (q : Rat) : capQ (capQ q) = capQ q := capQ_fits (capQ_size q)
theorem rdot_cap (l : List Rat) : ∀ s, capQ s = s → capQ (l.foldl dotStep s) = l.foldl dotStep s := by
 induction l with
 | nil => exact fun s h => h
 | cons p l ih => exact fun s h => ih _ (capQ_capQ _)
theorem dotStep_zero {s : Rat} (h : capQ s = s) : dotStep s 0 = s := by unfold dotStep; rw [capQ_zero, Rat.add_zero, h]
theorem fold_snoc (l : List Rat) (q : Rat) (s : Rat) : (l ++ [q]).foldl dotStep s = dotStep (l.foldl dotStep s) q := by rw [List.foldl_append]; rfl
def FR0 (w : World) (v : Value) (f : RawF) : Prop := (f.num.length ≤ 9223372036854775807 ∧ f.den.length ≤ 9223372036854775807) ∧ ∃ v1 v2, v = .agg #[.bool f.neg, v1, v2] ∧ Rd w v1 f.num ∧ Rd w v2 f.den
def EF0 (w : World) (vs : Array Value) (f : RawF) : Prop := FR0 w (.agg vs) f
abbrev FL0 (w : World) (v : Value) (fs : List RawF) : Prop := SL 3 EF0 w v fs
theorem FR0.of_below {w w1 : World} {v : Value} {f : RawF} (h : FR0 w v f) (hb : Below w.heap.size w w1) : FR0 w1 v f := by
 obtain ⟨hl, v1, v2, e, h1, h2⟩ := h
 exact ⟨hl, v1, v2, e, h1.below hb, h2.below hb⟩
theorem EF0.stays : Stays EF0 := fun _ _ _ _ h hb => FR0.of_below h hb
theorem FR0.opened {w : World} {v : Value} {f : RawF} (h : FR0 w v f) : ∃ A1 c1 A2 c2, v = .agg #[.bool f.neg, .slice A1 f.num.length c1, .slice A2 f.den.length c2] ∧ Hid (FR0 w (.agg #[.bool f.neg, .slice A1 f.num.length c1, .slice A2 f.den.length c2]) f) := by
 have h0 := h
 obtain ⟨hl, v1, v2, rfl, h1, h2⟩ := h
 obtain ⟨A1, c1, rfl, _⟩ := h1.slice
 obtain ⟨A2, c2, rfl, _⟩ := h2.slice
 exact ⟨A1, c1, A2, c2, rfl, h0⟩
theorem FL0.at3 {w : World} {A : Option Addr} {n c : Nat} {fs : List RawF} (h : FL0 w (.slice A n c) fs) {j : Nat} {f : RawF} (hj : fs[j]? = some f) :
  ∃ g o A1 c1 A2 c2, A = some ⟨g, o, none⟩ ∧ g < w.heap.size ∧ w.cell? ⟨g, o + j * 3, none⟩ = some (.bool f.neg) ∧ w.cell? ⟨g, o + j * 3 + 1, none⟩ = some (.slice A1 f.num.length c1) ∧ w.cell? ⟨g, o + j * 3 + 2, none⟩ = some (.slice A2 f.den.length c2) ∧ Hid (FR0 w (.agg #[.bool f.neg, .slice A1 f.num.length c1, .slice A2 f.den.length c2]) f) := by
 obtain ⟨g, o, vs, hA, hg, hs, hc, he⟩ := h.at_ hj
 obtain ⟨A1, c1, A2, c2, e, hF⟩ := FR0.opened he
 injection e with e
 subst e
 exact ⟨g, o, A1, c1, A2, c2, hA, hg, hc 0 _ rfl, hc 1 _ rfl, hc 2 _ rfl, hF⟩
theorem FR0.lens {w : World} {v : Value} {f : RawF} (h : FR0 w v f) : f.num.length ≤ 9223372036854775807 ∧ f.den.length ≤ 9223372036854775807 := h.1
theorem FR0.full {w : World} {v : Value} {f : RawF} (h : FR0 w v f) (hl : f.num.length ≤ 1000000000 ∧ f.den.length ≤ 1000000000) : FR w v f := ⟨hl, h.2⟩
def wordF (n : Nat) (f : RawF) : Bool := decide (f.num.length ≤ n) && decide (f.den.length ≤ n)
def wordsB (fs : List RawF) (n : Nat) : Bool := fs.all (wordF n)
theorem wordF_ok {n : Nat} {f : RawF} (h : wordF n f = true) : f.num.length ≤ n ∧ f.den.length ≤ n := by
 unfold wordF at h
 simpa using h
theorem wordsB_ok {n : Nat} {fs : List RawF} (h : wordsB fs n = true) : ∀ f ∈ fs, f.num.length ≤ n ∧ f.den.length ≤ n := fun f hf => wordF_ok (List.all_eq_true.1 h f hf)
theorem FL0.full {w : World} {v : Value} {fs : List RawF} (h : FL0 w v fs) {n : Nat} (hn : n ≤ 1000000000) (hl : wordsB fs n = true) : FL w v fs := by
 obtain ⟨A, c, e, hc, hr⟩ := h
 refine ⟨A, c, e, hc, fun hp => ?_⟩
 obtain ⟨g, o, hA, hg, he⟩ := hr hp
 refine ⟨g, o, hA, hg, fun j x hx => ?_⟩
 obtain ⟨vs, h1, h2, h3⟩ := he j x hx
 have := wordsB_ok hl x (mog hx)
 exact ⟨vs, h1, h2, FR0.full h3 ⟨by omega, by omega⟩⟩
theorem words_calls (w : World) (v : Value) (fs : List RawF) (n : Nat) (h : FL0 w v fs) (hl : fs.length ≤ 9223372036854775807) (hn : n ≤ 1000) : Calls Try.prog 19 #[v, .int .i64 (n : Int)] w fun e w' => BPost w (wordsB fs n) e w' := by
 obtain ⟨A, c, rfl, hc⟩ := h.slice
 have HF := Hd h
 clear h
 go_enter Try.func19, Try.ntmps19
 go_wp2_with fail
 go_loopw [9] (fun vi wr => ∃ i : Nat, i ≤ fs.length ∧ vi = .int .i64 (i : Int) ∧ (∀ (j : Nat) (f : RawF), j < i → fs[j]? = some f → wordF n f = true) ∧ Below w.heap.size w wr) (fun vi _ => fs.length - (intOf vi).toNat)
 case atStart => exact ⟨0, Nat.zero_le _, rfl, fun j _ h => absurd h (Nat.not_lt_zero _), Below.refl _ _⟩
 case round =>
  obtain ⟨i, hi, rfl, hall, hb⟩ := hrel
  have HA := Hd hall
  have HB := Hd hb
  clear hall hb
  by_cases hlt : i < fs.length
  ·obtain ⟨f, hf⟩ : ∃ f, fs[i]? = some f := ⟨fs[i], geq hlt⟩
   obtain ⟨g, o, B1, d1, B2, d2, rfl, hg, k0, k1, k2, HE⟩ := FL0.at3 (HF.out.below EF0.stays HB.out) hf
   have HFI := Hd hf
   have hl1 := HE.out.lens.1
   have hl2 := HE.out.lens.2
   clear hf
   obtain ⟨l1, e1⟩ : ∃ l, l = f.num.length := ⟨_, rfl⟩
   obtain ⟨l2, e2⟩ : ∃ l, l = f.den.length := ⟨_, rfl⟩
   rw [← e1] at hl1 HE k1
   rw [← e2] at hl2 HE k2
   have E1 := Hd e1
   have E2 := Hd e2
   have m1 : (i : Int) < (fs.length : Int) := by omega
   have m3 : (i : Int).toNat = i := by omega
   have m4 : (0 : Int) ≤ (i : Int) := by omega
   clear e1 e2
   by_cases q1 : n < l1
   ·have u1 : decide (n < l1) = true := decide_eq_true q1
    have HE2 : Hid (wordsB fs n = false) := by
     unfold Hid wordsB
     refine all_false HFI.out ?_
     unfold wordF
     rw [← E1.out, decide_eq_false (by omega)]
     rfl
    clear q1
    go_wp2_with fail
    go_ret
    exact ⟨by rw [HE2.out]; rfl, below_next HB.out (below_new _ _)⟩
   have u1 : decide (n < l1) = false := decide_eq_false q1
   by_cases q2 : n < l2
   ·have u2 : decide (n < l2) = true := decide_eq_true q2
    have HE2 : Hid (wordsB fs n = false) := by
     unfold Hid wordsB
     refine all_false HFI.out ?_
     unfold wordF
     rw [← E2.out, decide_eq_false (show ¬ l2 ≤ n by omega), Bool.and_false]
    clear q1 q2
    go_wp2_with fail
    go_ret
    exact ⟨by rw [HE2.out]; rfl, below_next HB.out (below_new _ _)⟩
   have u2 : decide (n < l2) = false := decide_eq_false q2
   have HG : Hid (wordF n f = true) := by
    unfold Hid wordF
    rw [← E1.out, ← E2.out, decide_eq_true (show l1 ≤ n by omega), decide_eq_true (show l2 ≤ n by omega)]
    rfl
   clear q1 q2
   go_wp2_with fail
   go_roundw
   case rel =>
    refine ⟨i + 1, by omega, by go_num, fun j f' hj hf' => ?_, below_next HB.out (below_new _ _)⟩
    by_cases hji : j = i
    ·rw [hji, HFI.out] at hf'
     injection hf' with e
     rw [← e]
     exact HG.out
    ·exact HA.out j f' (by omega) hf'
   case measure => simp [intOf]; omega
  ·obtain rfl : i = fs.length := by omega
   have HE2 : Hid (wordsB fs n = true) := by
    unfold Hid wordsB
    exact all_true fun j f hf => HA.out j f (List.getElem?_eq_some_iff.1 hf).1 hf
   go_wp2_with fail
   go_ret
   exact ⟨by rw [HE2.out]; rfl, HB.out⟩
theorem HS.add {w W : World} {bs : List (Nat × Nat × Array Value)} (h : HS w bs W) (cs : Array Value) (t : Nat) : HS w ((W.heap.size, t, cs) :: bs) (W.alloc (.cells cs t)) := by
 have h1 := h.step (below_new W (.cells cs t))
 refine ⟨fun b hm => ?_, h1.2⟩
 rcases List.mem_cons.1 hm with rfl | hm
 ·exact Blk.new _ _ _
 ·exact h1.1 b hm
structure CertF where
 kind : Int
 x : List RawF
 y : List RawF
 ray : List RawF
def CG0 (w : World) (v : Value) (c : CertF) : Prop := (c.x.length ≤ 9223372036854775807 ∧ c.y.length ≤ 9223372036854775807 ∧ c.ray.length ≤ 9223372036854775807) ∧ ∃ v1 v2 v3, v = .agg #[.int .i64 c.kind, v1, v2, v3] ∧ I64 c.kind ∧ FL0 w v1 c.x ∧ FL0 w v2 c.y ∧ FL0 w v3 c.ray
def CR (w : World) (v : Value) (c : CertF) : Prop := ∃ v1 v2 v3, v = .agg #[.int .i64 c.kind, v1, v2, v3] ∧ I64 c.kind ∧ FL w v1 c.x ∧ FL w v2 c.y ∧ FL w v3 c.ray
theorem CG0.of_below {w w1 : World} {v : Value} {c : CertF} (h : CG0 w v c) (hb : Below w.heap.size w w1) : CG0 w1 v c := by
 obtain ⟨hl, v1, v2, v3, e, hk, h1, h2, h3⟩ := h
 exact ⟨hl, v1, v2, v3, e, hk, h1.below EF0.stays hb, h2.below EF0.stays hb, h3.below EF0.stays hb⟩
theorem CR.of_below {w w1 : World} {v : Value} {c : CertF} (h : CR w v c) (hb : Below w.heap.size w w1) : CR w1 v c := by
 obtain ⟨v1, v2, v3, e, hk, h1, h2, h3⟩ := h
 exact ⟨v1, v2, v3, e, hk, h1.below EF.stays hb, h2.below EF.stays hb, h3.below EF.stays hb⟩
theorem sq45 (P : Prop) (h : P := by
 obtain ⟨A1, c1, rfl, _⟩ := h1.slice
 obtain ⟨A2, c2, rfl, _⟩ := h2.slice
 obtain ⟨A3, c3, rfl, _⟩ := h3.slice
 exact ⟨A1, c1, A2, c2, A3, c3, rfl, h1, h2, h3⟩) : P := h
theorem CG0.opened {w : World} {v : Value} {c : CertF} (h : CG0 w v c) : ∃ A1 c1 A2 c2 A3 c3, v = .agg #[.int .i64 c.kind, .slice A1 c.x.length c1, .slice A2 c.y.length c2, .slice A3 c.ray.length c3] ∧ Hid (FL0 w (.slice A1 c.x.length c1) c.x) ∧ Hid (FL0 w (.slice A2 c.y.length c2) c.y) ∧ Hid (FL0 w (.slice A3 c.ray.length c3) c.ray) := by
 obtain ⟨_, v1, v2, v3, rfl, _, h1, h2, h3⟩ := h
 exact sq45 _
theorem CR.opened {w : World} {v : Value} {c : CertF} (h : CR w v c) : ∃ A1 c1 A2 c2 A3 c3, v = .agg #[.int .i64 c.kind, .slice A1 c.x.length c1, .slice A2 c.y.length c2, .slice A3 c.ray.length c3] ∧ Hid (FL w (.slice A1 c.x.length c1) c.x) ∧ Hid (FL w (.slice A2 c.y.length c2) c.y) ∧ Hid (FL w (.slice A3 c.ray.length c3) c.ray) := by
 obtain ⟨v1, v2, v3, rfl, _, h1, h2, h3⟩ := h
 exact sq45 _
def certB (c : CertF) (n : Nat) : Bool := decide (c.x.length ≤ n) && (decide (c.y.length ≤ n) && (decide (c.ray.length ≤ n) && (wordsB c.x 12 && (wordsB c.y 12 && wordsB c.ray 12))))
theorem certB_ok {c : CertF} {n : Nat} (h : certB c n = true) : (c.x.length ≤ n ∧ c.y.length ≤ n ∧ c.ray.length ≤ n) ∧ wordsB c.x 12 = true ∧ wordsB c.y 12 = true ∧ wordsB c.ray 12 = true := by
 unfold certB at h
 simp only [Bool.and_eq_true, decide_eq_true_eq] at h
 exact ⟨⟨h.1, h.2.1, h.2.2.1⟩, h.2.2.2⟩
theorem CG0.full {w : World} {v : Value} {c : CertF} (h : CG0 w v c) {n : Nat} (hc : certB c n = true) : CR w v c := by
 obtain ⟨_, v1, v2, v3, e, hk, h1, h2, h3⟩ := h
 obtain ⟨_, a, b, d⟩ := certB_ok hc
 exact ⟨v1, v2, v3, e, hk, h1.full (by decide) a, h2.full (by decide) b, h3.full (by decide) d⟩
theorem cert_calls (w : World) (v : Value) (c : CertF) (n : Nat) (h : CG0 w v c) (hn : n ≤ 1000) : Calls Try.prog 27 #[v, .int .i64 (n : Int)] w fun e w' => BPost w (certB c n) e w' := by
 have hl := h.1
 obtain ⟨A1, c1, A2, c2, A3, c3, rfl, H1, H2, H3⟩ := h.opened
 have hl1 := hl.1
 have hl2 := hl.2.1
 have hl3 := hl.2.2
 clear h hl
 obtain ⟨kd, hkd⟩ : ∃ k, k = c.kind := ⟨_, rfl⟩
 rw [← hkd]
 clear hkd
 go_enter Try.func27, Try.ntmps27
 by_cases a1 : n < c.x.length
 ·have t1 : decide (c.x.length ≤ n) = false := dcf
  have HR : Hid (certB c n = false) := by unfold Hid certB; rw [t1]; simp
  clear a1
  go_wp2_with fail
  go_ret
  exact ⟨by rw [HR.out]; rfl, below_new w _⟩
 have t1 : decide (c.x.length ≤ n) = true := dct
 by_cases a2 : n < c.y.length
 ·have t2 : decide (c.y.length ≤ n) = false := dcf
  have HR : Hid (certB c n = false) := by unfold Hid certB; rw [t2]; simp
  clear a1 a2
  go_wp2_with fail
  go_ret
  exact ⟨by rw [HR.out]; rfl, below_new w _⟩
 have t2 : decide (c.y.length ≤ n) = true := dct
 by_cases a3 : n < c.ray.length
 ·have t3 : decide (c.ray.length ≤ n) = false := dcf
  have HR : Hid (certB c n = false) := by unfold Hid certB; rw [t3]; simp
  clear a1 a2 a3
  go_wp2_with fail
  go_ret
  exact ⟨by rw [HR.out]; rfl, below_new w _⟩
 have t3 : decide (c.ray.length ≤ n) = true := dct
 have HHEAD : Hid (certB c n = (wordsB c.x 12 && (wordsB c.y 12 && wordsB c.ray 12))) := by unfold Hid certB; rw [t1, t2, t3]; rfl
 clear a1 a2 a3
 go_wp2_with fail
 have H0 := Hd (HS.one (w := w) #[.int .i64 kd, .slice A1 c.x.length c1, .slice A2 c.y.length c2, .slice A3 c.ray.length c3] 44)
 generalize w.alloc (.cells #[.int .i64 kd, .slice A1 c.x.length c1, .slice A2 c.y.length c2, .slice A3 c.ray.length c3] 44) = W0 at *
 refine (words_calls W0 _ c.x 12 (H1.out.below EF0.stays H0.out.2) hl1 (by decide)).mono ?_
 rintro e w1 ⟨rfl, hb⟩
 have K1 := Hd (H0.out.step hb)
 obtain ⟨x0, x1, x2, x3⟩ := K1.out.c4 0 rfl
 clear hb
 cases hg1 : wordsB c.x 12 with
 | false =>
  have HR : Hid (certB c n = false) := by unfold Hid; rw [HHEAD.out, hg1]; simp
  clear hg1
  go_wp2_with fail
  go_ret
  exact ⟨by rw [HR.out]; rfl, K1.out.2⟩
 | true =>
  have G1 := Hd hg1
  clear hg1
  go_wp2_with fail
  refine (words_calls w1 _ c.y 12 (H2.out.below EF0.stays K1.out.2) hl2 (by decide)).mono ?_
  rintro e w2 ⟨rfl, hb⟩
  have K2 := Hd (K1.out.step hb)
  obtain ⟨x0, x1, x2, x3⟩ := K2.out.c4 0 rfl
  clear hb
  cases hg2 : wordsB c.y 12 with
  | false =>
   have HR : Hid (certB c n = false) := by unfold Hid; rw [HHEAD.out, hg2]; simp
   clear hg2
   go_wp2_with fail
   go_ret
   exact ⟨by rw [HR.out]; rfl, K2.out.2⟩
  | true =>
   have G2 := Hd hg2
   clear hg2
   go_wp2_with fail
   refine (words_calls w2 _ c.ray 12 (H3.out.below EF0.stays K2.out.2) hl3 (by decide)).mono ?_
   rintro e w3 ⟨rfl, hb⟩
   have K3 := Hd (K2.out.step hb)
   obtain ⟨x0, x1, x2, x3⟩ := K3.out.c4 0 rfl
   clear hb
   cases hg3 : wordsB c.ray 12 with
   | false =>
    have HR : Hid (certB c n = false) := by unfold Hid; rw [HHEAD.out, hg3]; simp
    clear hg3
    go_wp2_with fail
    go_ret
    exact ⟨by rw [HR.out]; rfl, K3.out.2⟩
   | true =>
    have G3 := Hd hg3
    clear hg3
    have HR : Hid (certB c n = true) := by unfold Hid; rw [HHEAD.out, G1.out, G2.out, G3.out]; rfl
    go_wp2_with fail
    go_ret
    exact ⟨by rw [HR.out]; rfl, K3.out.2⟩
noncomputable def rowGoes (x : List Rat) (r : RowF) : Bool := holdsB r.s (capQ (dotQ (r.a.map fixQ) x)) 0
noncomputable def goesB (p : ProgF) (x : List RawF) : Bool := decide ((x.length : Int) = p.vars) && (signedB p.free (x.map fixQ) && (p.rows.all (rowGoes (x.map fixQ)) && decide (signQ (capQ (dotQ (p.goal.map fixQ) (x.map fixQ))) > 0)))
theorem fixQ_zero : fixQ (rawQ 0) = 0 := fixQ_raw 0 (by rw [sizeQ_zero]; decide)
theorem holds0_calls (w : World) (s : Int) (v v2 : Value) (f : RawF) (h : FR w v f) (h2 : FQ w v2 0) : Calls Try.prog 96 #[.int .i64 s, v, v2] w fun e w' => BPost w (holdsB s (fixQ f) 0) e w' := by
 have := holds_calls w s v v2 f (rawQ 0) h (FR.of_fq h2 (by rw [sizeQ_zero]; decide))
 rw [fixQ_zero] at this
 exact this
theorem frac_nil_calls (w : World) : Calls Try.prog 54 #[.slice none 0 0] w fun e w' => FPost w 0 e w' := by
 have := fsum_calls w _ [] (FL.nil w) (by simp)
 rw [show capQ (sumQ (List.map fixQ [])) = 0 from capQ_zero] at this
 exact this
theorem goes_calls (w : World) (v v2 : Value) (p : ProgF) (x : List RawF) (h : PR w v p) (h2 : FL w v2 x) (hr : rightP p = 0) : Calls Try.prog 63 #[v, v2] w fun e w' => BPost w (goesB p x) e w' := by
 have hrl := rightP_len hr
 clear hr
 have HP := Hd h
 obtain ⟨A1, c1, A2, c2, A3, c3, rfl, HI, H1, H2, H3⟩ := h.opened
 obtain ⟨A4, c4, rfl, hc4⟩ := h2.slice
 have HX := Hd h2
 clear h h2
 obtain ⟨vars, hv⟩ : ∃ n, n = p.vars := ⟨_, rfl⟩
 rw [← hv] at HP ⊢
 have HV := Hd hv
 have hfl : (p.free.length : Int) = vars := by rw [hv]; exact hrl.1
 have hvl : vars ≤ 160 := by rw [hv]; exact hrl.2.2.2.1
 have hrw : p.rows.length ≤ 400 := hrl.2.2.2.2.1
 have hgl : p.goal.length ≤ 100000 := by have := hrl.2.1; omega
 have HROW : Hid (∀ (r : RowF), r ∈ p.rows → (r.a.length : Int) = vars) := by unfold Hid; rw [hv]; exact fun r hm => (hrl.2.2.2.2.2 r hm).1
 clear hv hrl
 go_enter Try.func63, Try.ntmps63
 by_cases q1 : (x.length : Int) = vars
 case neg =>
  have u1 : ((x.length : Int) != vars) = true := bneI q1
  have HE : Hid (goesB p x = false) := by unfold Hid goesB; rw [decide_eq_false (by rw [← HV.out]; exact q1)]; rfl
  clear q1 hfl
  go_wp2_with fail
  go_ret
  exact ⟨by rw [HE.out]; rfl, below_new w _⟩
 have u1 : ((x.length : Int) != vars) = false := beqI q1
 have hxl : x.length ≤ 100000 := by omega
 have hxf : x.length = p.free.length := by omega
 have HXV := Hd q1
 have HXF := Hd hxf
 clear q1 hfl hxf
 go_wp2_with fail
 have H0 := Hd (HS.one (w := w) #[.int .i64 vars, .slice A1 p.free.length c1, .slice A2 p.goal.length c2, .slice A3 p.rows.length c3] 26)
 generalize w.alloc (.cells #[.int .i64 vars, .slice A1 p.free.length c1, .slice A2 p.goal.length c2, .slice A3 p.rows.length c3] 26) = W0 at *
 refine (signed_calls W0 _ _ p x (HP.out.of_below H0.out.2) (HX.out.below EF.stays H0.out.2) HXF.out hxl).mono ?_
 rintro e w1 ⟨rfl, hb⟩
 have h1' := H0.out.step hb
 have H1' := Hd h1'
 obtain ⟨x0, x1, x2, x3⟩ := H1'.out.c4 0 rfl
 clear hb h1'
 cases hsg : signedB p.free (x.map fixQ) with
 | false =>
  have HE : Hid (goesB p x = false) := by unfold Hid goesB; rw [hsg]; simp
  clear hsg
  go_wp2_with fail
  go_ret
  exact ⟨by rw [HE.out]; rfl, H1'.out.2⟩
 | true =>
  have HE : Hid (goesB p x = (p.rows.all (rowGoes (x.map fixQ)) && decide (signQ (capQ (dotQ (p.goal.map fixQ) (x.map fixQ))) > 0))) := by unfold Hid goesB; rw [hsg, decide_eq_true (by rw [← HV.out]; exact HXV.out)]; rfl
  clear hsg
  go_wp2_with fail
  clear x0 x1 x2 x3
  refine (frac_nil_calls w1).mono ?_
  rintro e w2 ⟨v, rfl, hv, hb⟩
  obtain ⟨A5, n5, c5, A6, n6, c6, rfl, HVZ⟩ := hv.opened
  have HZ1 := Hd (H1'.out.step hb)
  have hz1 := H1'.out.2.size
  have hz2 := hb.size
  have hlt1 := (H1'.out.blk 0 rfl).lt
  obtain ⟨x0, x1, x2, x3⟩ := HZ1.out.c4 0 rfl
  have hlt2 := (HZ1.out.blk 0 rfl).lt
  clear hv hb
  go_wp2_with fail
  clear x0 x1 x2 x3
  have HZ := Hd (HS.add HZ1.out #[.bool (negQ 0), .slice A5 n5 c5, .slice A6 n6 c6] 40)
  have HVZ2 := Hd (HVZ.out.of_below (below_new w2 (.cells #[.bool (negQ 0), .slice A5 n5 c5, .slice A6 n6 c6] 40)))
  obtain ⟨gz, hgz⟩ : ∃ gz, gz = w2.heap.size := ⟨_, rfl⟩
  rw [← hgz] at HZ ⊢
  have hzne : w.heap.size < gz := by omega
  generalize w2.alloc (.cells #[.bool (negQ 0), .slice A5 n5 c5, .slice A6 n6 c6] 40) = W2 at *
  clear hgz
  go_loopw [23] (fun vi wr => ∃ i : Nat, i ≤ p.rows.length ∧ vi = .int .i64 (i : Int) ∧ (∀ (j : Nat) (r : RowF), j < i → p.rows[j]? = some r → rowGoes (x.map fixQ) r = true) ∧ HS w [(gz, 40, #[.bool (negQ 0), .slice A5 n5 c5, .slice A6 n6 c6]), (w.heap.size, 26, #[.int .i64 vars, .slice A1 p.free.length c1, .slice A2 p.goal.length c2, .slice A3 p.rows.length c3])] wr ∧ FQ wr (.agg #[.bool (negQ 0), .slice A5 n5 c5, .slice A6 n6 c6]) 0) (fun vi _ => p.rows.length - (intOf vi).toNat)
  case atStart => exact ⟨0, Nat.zero_le _, rfl, fun j _ h => absurd h (Nat.not_lt_zero _), HZ.out, HVZ2.out⟩
  case round =>
   obtain ⟨i, hi, rfl, hall, hk, hvz⟩ := hrel
   have HVZ3 := Hd hvz
   clear hvz
   have HA := Hd hall
   have HK := Hd hk
   clear hall hk
   by_cases hlt : i < p.rows.length
   ·obtain ⟨r, hr⟩ : ∃ r, p.rows[i]? = some r := ⟨p.rows[i], geq hlt⟩
    obtain ⟨g, o, B1, d1, B2, n2, d2, B3, n3, d3, rfl, hg, k0, k1, k2, k3, k4, HI', HA', HB'⟩ := RL.at5 (H3.out.below ER.stays HK.out.2) hr
    have hrl : r.a.length ≤ 100000 := by have := HROW.out r (mog hr); omega
    have HRR := Hd hr
    clear hr
    have m1 : (i : Int) < (p.rows.length : Int) := by omega
    have m3 : (i : Int).toNat = i := by omega
    have m4 : (0 : Int) ≤ (i : Int) := by omega
    obtain ⟨s, hs⟩ : ∃ s, s = r.s := ⟨_, rfl⟩
    rw [← hs] at k1
    have HSE := Hd hs
    clear hs
    go_wp2_with fail
    have hb1 := below_new wr (.cells #[.slice B1 r.a.length d1, .int .i64 s, .bool r.b.neg, .slice B2 n2 d2, .slice B3 n3 d3] 65)
    have hk1 := Blk.new wr 65 #[.slice B1 r.a.length d1, .int .i64 s, .bool r.b.neg, .slice B2 n2 d2, .slice B3 n3 d3]
    have HB1 := Hd hb1
    have z0 := hk1.cell (j := 0) rfl
    have z1 := hk1.cell (j := 1) rfl
    have z2 := hk1.cell (j := 2) rfl
    have z3 := hk1.cell (j := 3) rfl
    have z4 := hk1.cell (j := 4) rfl
    have hz := hk1.lt
    generalize wr.alloc (.cells #[.slice B1 r.a.length d1, .int .i64 s, .bool r.b.neg, .slice B2 n2 d2, .slice B3 n3 d3] 65) = W1 at *
    clear hk1 hb1
    obtain ⟨y0, y1, y2⟩ := ((HK.out.step HB1.out).blk 0 rfl).c3
    have hzl := ((HK.out.step HB1.out).blk 0 rfl).lt
    refine wp_chainS (S := Below W1.heap.size W1) [([0, 1, 2, 3, 4, 6], 5), ([], 7)] [8] (by kernel_rfl) (by kernel_rfl) (by kernel_rfl) rfl Bd ?_
    refine ⟨?_, _, ?_, rfl, ?_⟩
    rotate_left
    ·repeat (refine pu ?_; (try simp only [SQ]))
     exact rfl
    have hbd : Below W1.heap.size W1 W1.drew := Bd
    have hbx := below_next HB1.out hbd
    have HBX := Hd hbx
    go_wp2_with fail
    refine (fdot_calls _ _ _ r.a x (HA'.out.below EF.stays HBX.out) (HX.out.below EF.stays (HK.out.step HBX.out).2) hrl hxl).mono ?_
    rintro e w7 ⟨v, rfl, hv, hb⟩
    obtain ⟨A7, n7, c7, A8, n8, c8, rfl, HV5⟩ := hv.opened
    have HB7 := Hd (below_next hbd hb)
    have HB17 := Hd (below_next HB1.out HB7.out)
    clear hv hb hbd hbx
    go_wp2_with fail
    refine And.intro HB7.out ⟨_, _, rfl, rfl, ?_⟩
    go_wp2_with fail
    refine (holds0_calls _ s _ _ _ (FR.of_fq HV5.out (capQ_size _)) (HVZ3.out.of_below HB17.out)).mono ?_
    rintro e w8 ⟨rfl, hb⟩
    have HB8 := Hd (below_next HB7.out hb)
    have HB18 := Hd (below_next HB1.out HB8.out)
    have HH : Hid (holdsB s (fixQ (rawQ (capQ (dotQ (r.a.map fixQ) (x.map fixQ))))) 0 = rowGoes (x.map fixQ) r) := by unfold Hid rowGoes; rw [fix_cap, HSE.out]
    rw [HH.out]
    clear hb
    go_wp2_with fail
    refine And.intro HB8.out ⟨?_, ?_, ?_⟩
    rotate_left
    ·repeat (refine pu ?_; (try simp only [SQ]))
     exact rfl
    refine NoPanic.normal ?_
    cases hb : rowGoes (x.map fixQ) r with
    | false =>
     have HE2 : Hid (goesB p x = false) := by unfold Hid; rw [HE.out, all_false HRR.out hb]; rfl
     clear hb
     go_wp2_with fail
     go_ret
     exact ⟨by rw [HE2.out]; rfl, (HK.out.step HB18.out).2⟩
    | true =>
     have HG := Hd hb
     clear hb
     go_wp2_with fail
     go_roundw
     case rel =>
      refine ⟨i + 1, by omega, by go_num, fun j r' hj hr' => ?_, HK.out.step HB18.out, HVZ3.out.of_below HB18.out⟩
      exact sq60 _
     case measure => simp [intOf]; omega
   ·obtain rfl : i = p.rows.length := by omega
    have HE2 : Hid (goesB p x = decide (signQ (capQ (dotQ (p.goal.map fixQ) (x.map fixQ))) > 0)) := by unfold Hid; rw [HE.out, all_true fun j r hr => HA.out j r (List.getElem?_eq_some_iff.1 hr).1 hr]; rfl
    obtain ⟨x0, x1, x2, x3⟩ := HK.out.c4 1 rfl
    go_wp2_with fail
    refine (fdot_calls _ _ _ p.goal x (H2.out.below EF.stays HK.out.2) (HX.out.below EF.stays HK.out.2) hgl hxl).mono ?_
    rintro e w7 ⟨v, rfl, hv, hb⟩
    obtain ⟨A7, n7, c7, A8, n8, c8, rfl, HV7⟩ := hv.opened
    have HK7 := Hd (HK.out.step hb)
    clear hv hb
    go_wp2_with fail
    refine (sgn_calls _ _ _ (FR.of_fq HV7.out (capQ_size _))).mono ?_
    rintro e w8 ⟨rfl, hb⟩
    rw [fix_cap]
    have HK8 := Hd (HK7.out.step hb)
    clear hb
    go_wp2_with fail
    go_ret
    exact ⟨by rw [HE2.out]; rfl, HK8.out.2⟩
def nthF (fs : List RawF) (i : Nat) : RawF := fs.getD i ⟨false, [], []⟩
theorem nthF_get {fs : List RawF} {i : Nat} {f : RawF} (h : fs[i]? = some f) : nthF fs i = f := by unfold nthF; rw [gdd, h]; rfl
def badSign (s : Int) (q : Rat) : Bool := (decide (s = -1) && decide (signQ q < 0)) || (decide (s = 1) && decide (signQ q > 0))
noncomputable def signsB (rows : List RowF) (y : List Rat) : Bool := (rows.zip y).all fun ry => !badSign ry.1.s ry.2
noncomputable def colL (rows : List RowF) (y : List Rat) (v : Nat) : List Rat := List.zipWith (fun r q => q * fixQ (nthF r.a v)) rows y
noncomputable def colQ (rows : List RowF) (y : List Rat) (v : Nat) : Rat := (colL rows y v).foldl dotStep 0
noncomputable def colV (rows : List RowF) (y : List Rat) (goal : Option (List RawF)) (v : Nat) : Rat := match goal with
 | none => colQ rows y v
 | some g => capQ (colQ rows y v + -(fixQ (nthF g v)))
def freeAt (p : ProgF) (v : Nat) : Bool := p.free.getD v false
noncomputable def colOk (p : ProgF) (y : List Rat) (goal : Option (List RawF)) (v : Nat) : Bool := !(decide (signQ (colV p.rows y goal v) < 0) || (decide (signQ (colV p.rows y goal v) > 0) && freeAt p v))
noncomputable def boundsB (p : ProgF) (y : List RawF) (goal : Option (List RawF)) : Bool := decide (y.length = p.rows.length) && (signsB p.rows (y.map fixQ) && (List.range p.vars.toNat).all (colOk p (y.map fixQ) goal))
theorem zip_all_false {α β : Type} {l : List α} {m : List β} {f : α × β → Bool} {i : Nat} {a : α} {b : β} (h1 : l[i]? = some a) (h2 : m[i]? = some b) (h : f (a, b) = false) : (l.zip m).all f = false := all_false (i := i) (by rw [List.getElem?_zip_eq_some]; exact ⟨h1, h2⟩) h
theorem zip_all_true {α β : Type} {l : List α} {m : List β} {f : α × β → Bool} (h : ∀ (i : Nat) (a : α) (b : β), l[i]? = some a → m[i]? = some b → f (a, b) = true) : (l.zip m).all f = true := all_true fun i ab hi => by
 obtain ⟨a, b⟩ := ab
 rw [List.getElem?_zip_eq_some] at hi
 exact h i a b hi.1 hi.2
theorem range_all_true {n : Nat} {f : Nat → Bool} (h : ∀ i, i < n → f i = true) : (List.range n).all f = true := by
 rw [List.all_eq_true]
 intro i hi
 exact h i (List.mem_range.1 hi)
theorem range_all_false {n : Nat} {f : Nat → Bool} {i : Nat} (hi : i < n) (h : f i = false) : (List.range n).all f = false := by
 rw [Bool.eq_false_iff, ne_eq, List.all_eq_true]
 intro h0
 rw [h0 i (List.mem_range.2 hi)] at h
 cases h
theorem signQ_zero_iff {q : Rat} : signQ q = 0 ↔ q = 0 := by
 unfold signQ
 constructor
 ·intro h
  split at h
  ·rename_i h0; exact Rat.num_eq_zero.1 h0
  ·split at h <;> omega
 ·rintro rfl; rfl
theorem neq_nil (w : World) : Sem.run Try.prog (binOp .neq 23 (.slice none 0 0) (.slice none 0 0)) w = .ok (.bool false) w := by
 kernel_rfl
theorem neq_some (w : World) (A : Addr) (n c : Nat) : Sem.run Try.prog (binOp .neq 23 (.slice (some A) n c) (.slice none 0 0)) w = .ok (.bool true) w := by
 kernel_rfl
theorem beqI' {a b : Int} (h : a = b) : (a == b) = true := by simpa using h
theorem bneI' {a b : Int} (h : a ≠ b) : (a == b) = false := by simpa using h
def GoV (w : World) (v : Value) (go : Option (List RawF)) (n : Int) : Prop := match go with
 | none => v = .slice none 0 0
 | some g => FL w v g ∧ (g.length : Int) = n
theorem sq43 (P : Prop) (h : P := by
 clear s1 s2
 go_wp2_with fail
 go_roundw
 case rel => exact HRound.out _ (Below.refl _ _) HG.out
 case measure => simp [intOf]; omega) : P := h
theorem boundsG_calls (w : World) (v v2 v3 : Value) (p : ProgF) (y : List RawF) (go : Option (List RawF)) (h : PR w v p) (h2 : FL w v2 y) (hgo : GoV w v3 go p.vars) (hr : rightP p = 0) (hy : y.length ≤ 100000) : Calls Try.prog 61 #[v, v2, v3] w fun e w' => BPost w (boundsB p y go) e w' := by
 have hrl := rightP_len hr
 clear hr
 obtain ⟨A1, c1, A2, c2, A3, c3, rfl, HI, H1, H2, H3⟩ := h.opened
 obtain ⟨A4, c4, rfl, hc4⟩ := h2.slice
 have HY := Hd h2
 clear h h2
 obtain ⟨vars, hv⟩ : ∃ n, n = p.vars := ⟨_, rfl⟩
 rw [← hv]
 have HV := Hd hv
 have hfl : (p.free.length : Int) = vars := by rw [hv]; exact hrl.1
 have hv1 : 1 ≤ vars := by rw [hv]; exact hrl.2.2.1
 have hvl : vars ≤ 160 := by rw [hv]; exact hrl.2.2.2.1
 have hrw : p.rows.length ≤ 400 := hrl.2.2.2.2.1
 have HROW : Hid (∀ (r : RowF), r ∈ p.rows → (r.a.length : Int) = vars) := by unfold Hid; rw [hv]; exact fun r hm => (hrl.2.2.2.2.2 r hm).1
 have hgo' : GoV w v3 go vars := by rw [hv]; exact hgo
 have HGO := Hd hgo'
 clear hgo hgo'
 clear hv hrl
 obtain ⟨n, hn⟩ : ∃ n : Nat, vars = (n : Int) := ⟨vars.toNat, by omega⟩
 subst hn
 have hn1 : 1 ≤ n := by omega
 have hn2 : n ≤ 160 := by omega
 have HFL : Hid (p.free.length = n) := by unfold Hid; omega
 have HVN : Hid (p.vars.toNat = n) := by unfold Hid; rw [← HV.out]; omega
 obtain ⟨ys, hys⟩ : ∃ ys, ys = y.map fixQ := ⟨_, rfl⟩
 have HYS := Hd hys
 clear hfl hv1 hvl hys
 go_enter Try.func61, Try.ntmps61
 by_cases q1 : y.length = p.rows.length
 case neg =>
  have u1 : ((y.length : Int) != (p.rows.length : Int)) = true := bneI (by omega)
  have HE : Hid (boundsB p y go = false) := by unfold Hid boundsB; rw [decide_eq_false q1]; rfl
  clear q1
  go_wp2_with fail
  go_ret
  exact ⟨by rw [HE.out]; rfl, below_new w _⟩
 have HE0 : Hid (boundsB p y go = (signsB p.rows ys && (List.range n).all (colOk p ys go))) := by unfold Hid boundsB; rw [decide_eq_true q1, HYS.out, HVN.out]; rfl
 have HLEN := Hd q1
 clear q1
 have hlr : p.rows.length = y.length := HLEN.out.symm
 have u1 : ((y.length : Int) != (p.rows.length : Int)) = false := beqI (by omega)
 clear hlr
 go_wp2_with fail
 have H0 := Hd (HS.one (w := w) #[.int .i64 (n : Int), .slice A1 p.free.length c1, .slice A2 p.goal.length c2, .slice A3 p.rows.length c3] 26)
 generalize w.alloc (.cells #[.int .i64 (n : Int), .slice A1 p.free.length c1, .slice A2 p.goal.length c2, .slice A3 p.rows.length c3] 26) = W0 at *
 clear u1
 go_loopw [24] (fun vi wr => ∃ i : Nat, i ≤ p.rows.length ∧ vi = .int .i64 (i : Int) ∧ (∀ (j : Nat) (r : RowF) (q : Rat), j < i → p.rows[j]? = some r → ys[j]? = some q → badSign r.s q = false) ∧ HS w [(w.heap.size, 26, #[.int .i64 (n : Int), .slice A1 p.free.length c1, .slice A2 p.goal.length c2, .slice A3 p.rows.length c3])] wr) (fun vi _ => p.rows.length - (intOf vi).toNat)
 case atStart => exact ⟨0, Nat.zero_le _, rfl, fun j _ _ h => absurd h (Nat.not_lt_zero _), H0.out⟩
 case round =>
  obtain ⟨i, hi, rfl, hall, hk⟩ := hrel
  have HA := Hd hall
  have HK := Hd hk
  clear hall hk
  by_cases hlt : i < p.rows.length
  ·obtain ⟨r, hr⟩ : ∃ r, p.rows[i]? = some r := ⟨p.rows[i], geq hlt⟩
   have hly := HLEN.out
   obtain ⟨f, hf⟩ : ∃ f, y[i]? = some f := ⟨y[i]'(by omega), geq _⟩
   obtain ⟨g1, o1, B1, d1, B2, n2, d2, B3, n3, d3, rfl, hg, k0, k1, k2, k3, k4, _, _, _⟩ := RL.at5 (H3.out.below ER.stays HK.out.2) hr
   obtain ⟨g2, o2, C1, l1, e1, C2, l2, e2, rfl, hg2, j0, j1, j2, HFE⟩ := FL.at3 (HY.out.below EF.stays HK.out.2) hf
   have HYI : Hid (ys[i]? = some (fixQ f)) := by unfold Hid; rw [HYS.out, List.getElem?_map, hf]; rfl
   have HRR := Hd hr
   have m1 : (i : Int) < (p.rows.length : Int) := by omega
   have m2 : (i : Int) < (y.length : Int) := by omega
   have m3 : (i : Int).toNat = i := by omega
   have m4 : (0 : Int) ≤ (i : Int) := by omega
   obtain ⟨s, hs⟩ : ∃ s, s = r.s := ⟨_, rfl⟩
   rw [← hs] at k1
   have HSE := Hd hs
   have hz0 := (HK.out.blk 0 rfl).lt
   clear hr hf hs hly
   go_wp2_with fail
   have HB1 := Hd (below_new wr (.cells #[.slice B1 r.a.length d1, .int .i64 s, .bool r.b.neg, .slice B2 n2 d2, .slice B3 n3 d3] 65))
   have HKB1 := Hd (Blk.new wr 65 #[.slice B1 r.a.length d1, .int .i64 s, .bool r.b.neg, .slice B2 n2 d2, .slice B3 n3 d3])
   generalize wr.alloc (.cells #[.slice B1 r.a.length d1, .int .i64 s, .bool r.b.neg, .slice B2 n2 d2, .slice B3 n3 d3] 65) = W1 at *
   refine (sgn_calls W1 _ f (HFE.out.of_below HB1.out)).mono ?_
   rintro e w2 ⟨rfl, hb⟩
   have HB2 := Hd (below_next HB1.out hb)
   have z1 := (HKB1.out.below hb HKB1.out.lt).cell (j := 1) rfl
   clear hb
   obtain ⟨c, hc⟩ : ∃ c, c = signQ (fixQ f) := ⟨_, rfl⟩
   have HBAD : Hid (badSign r.s (fixQ f) = ((decide (s = -1) && decide (c < 0)) || (decide (s = 1) && decide (c > 0)))) := by unfold Hid badSign; rw [← HSE.out, ← hc]
   rw [← hc]
   clear hc
   have fin : ∀ wz, Below wr.heap.size wr wz → badSign r.s (fixQ f) = false → (∃ i', i' ≤ p.rows.length ∧ Value.int .i64 ((i : Int) + 1) = .int .i64 (i' : Int) ∧ (∀ (j : Nat) (r : RowF) (q : Rat), j < i' → p.rows[j]? = some r → ys[j]? = some q → badSign r.s q = false) ∧ HS w [(w.heap.size, 26, #[.int .i64 (n : Int), .slice A1 p.free.length c1, .slice A2 p.goal.length c2, .slice (some ⟨g1, o1, none⟩) p.rows.length c3])] wz) := fun wz hbz hgood => by
    refine ⟨i + 1, by omega, by go_num, fun j r' q' hj hr' hq' => ?_, HK.out.step hbz⟩
    by_cases hji : j = i
    ·subst hji
     rw [HRR.out] at hr'
     rw [HYI.out] at hq'
     injection hr' with e1
     injection hq' with e2
     rw [← e1, ← e2]
     exact hgood
    ·exact HA.out j r' q' (by omega) hr' hq'
   have HFin := Hd fin
   have bad : badSign r.s (fixQ f) = true → boundsB p y go = false := fun h => by
    rw [HE0.out, show signsB p.rows ys = false from zip_all_false HRR.out HYI.out (by rw [h]; rfl)]
    rfl
   have HBadR := Hd bad
   clear fin bad
   by_cases s1 : s = -1
   ·have t1 : (s == -1) = true := beqI' s1
    by_cases s2 : c < 0
    ·have t2 : decide (c < 0) = true := decide_eq_true s2
     have HE2 := Hd (HBadR.out (by rw [HBAD.out, decide_eq_true s1, t2]; rfl))
     clear s1 s2
     go_wp2_with fail
     go_ret
     exact ⟨by rw [HE2.out]; rfl, (HK.out.step HB2.out).2⟩
    ·have t2 : decide (c < 0) = false := decide_eq_false s2
     have t3 : (s == 1) = false := bneI' (by omega)
     have HG : Hid (badSign r.s (fixQ f) = false) := by unfold Hid; rw [HBAD.out, t2, decide_eq_false (show ¬ s = 1 by omega)]; simp
     clear s1 s2
     go_wp2_with fail
     go_roundw
     case rel => exact HFin.out _ HB2.out HG.out
     case measure => simp [intOf]; omega
   ·have t1 : (s == -1) = false := bneI' s1
    by_cases s3 : s = 1
    ·have t3 : (s == 1) = true := beqI' s3
     by_cases s2 : c > 0
     ·have t2 : decide (c > 0) = true := decide_eq_true s2
      have HE2 := Hd (HBadR.out (by rw [HBAD.out, decide_eq_true s3, t2]; simp))
      clear s1 s2 s3
      go_wp2_with fail
      go_ret
      exact ⟨by rw [HE2.out]; rfl, (HK.out.step HB2.out).2⟩
     ·have t2 : decide (c > 0) = false := decide_eq_false s2
      have HG : Hid (badSign r.s (fixQ f) = false) := by unfold Hid; rw [HBAD.out, t2, decide_eq_false s1]; simp
      clear s1 s2 s3
      go_wp2_with fail
      go_roundw
      case rel => exact HFin.out _ HB2.out HG.out
      case measure => simp [intOf]; omega
    ·have t3 : (s == 1) = false := bneI' s3
     have HG : Hid (badSign r.s (fixQ f) = false) := by unfold Hid; rw [HBAD.out, decide_eq_false s1, decide_eq_false s3]; simp
     clear s1 s3
     go_wp2_with fail
     go_roundw
     case rel => exact HFin.out _ HB2.out HG.out
     case measure => simp [intOf]; omega
  ·obtain rfl : i = p.rows.length := by omega
   have HE1 : Hid (boundsB p y go = (List.range n).all (colOk p ys go)) := by
    unfold Hid
    rw [HE0.out, show signsB p.rows ys = true from zip_all_true fun j r q h1 h2 => by
     rw [HA.out j r q (List.getElem?_eq_some_iff.1 h1).1 h1 h2]; rfl]
    rfl
   obtain ⟨wo, hwo⟩ : ∃ wo, wo = wr := ⟨_, rfl⟩
   rw [← hwo] at HK ⊢
   obtain ⟨x0, x1, x2, x3⟩ := HK.out.c4 0 rfl
   clear hwo HA H0 HE0
   go_wp2_with fail
   clear x0 x1 x2 x3
   go_loopw [53] (fun vi wr => ∃ i : Nat, i ≤ n ∧ vi = .int .i64 (i : Int) ∧ (∀ (j : Nat), j < i → colOk p ys go j = true) ∧ HS w [(w.heap.size, 26, #[.int .i64 (n : Int), .slice A1 p.free.length c1, .slice A2 p.goal.length c2, .slice A3 p.rows.length c3])] wr) (fun vi _ => n - (intOf vi).toNat)
   case atStart => exact ⟨0, Nat.zero_le _, rfl, fun j h => absurd h (Nat.not_lt_zero _), HK.out⟩
   case round =>
    obtain ⟨i, hi, rfl, hall, hk⟩ := hrel
    have HA := Hd hall
    have HK2 := Hd hk
    clear hall hk HK
    by_cases hlt : i < n
    case neg =>
     obtain rfl : i = n := by omega
     have HE2 : Hid (boundsB p y go = true) := by unfold Hid; rw [HE1.out]; exact range_all_true HA.out
     go_wp2_with fail
     go_ret
     exact ⟨by rw [HE2.out]; rfl, HK2.out.2⟩
    have m1 : (i : Int) < (n : Int) := by omega
    go_wp2_with fail
    refine (frac_nil_calls wr).mono ?_
    rintro e w1 ⟨v, rfl, hv, hb⟩
    obtain ⟨D5, n5, d5, D6, n6, d6, rfl, HVZ⟩ := hv.opened
    have HK3 := Hd (HK2.out.step hb)
    obtain ⟨x0, x1, x2, x3⟩ := HK3.out.c4 0 rfl
    have hlt2 := (HK3.out.blk 0 rfl).lt
    clear hv hb
    go_wp2_with fail
    clear x0 x1 x2 x3
    have HK4 := Hd (HK3.out.more (.cells #[.bool (negQ 0), .slice D5 n5 d5, .slice D6 n6 d6] 40))
    have HA0 := Hd (show AccF (w1.alloc (.cells #[.bool (negQ 0), .slice D5 n5 d5, .slice D6 n6 d6] 40)) w1.heap.size 0 from ⟨D5, n5, d5, D6, n6, d6, Blk.new _ _ _, HVZ.out.of_below (below_new _ _)⟩)
    obtain ⟨gz, hgz⟩ : ∃ gz, gz = w1.heap.size := ⟨_, rfl⟩
    rw [← hgz] at HA0
    have hzne : w.heap.size < gz := by omega
    generalize w1.alloc (.cells #[.bool (negQ 0), .slice D5 n5 d5, .slice D6 n6 d6] 40) = W2 at *
    rw [← hgz]
    clear hgz
    obtain ⟨ds, hds⟩ : ∃ ds, ds = colL p.rows ys i := ⟨_, rfl⟩
    have HDS := Hd hds
    clear hds hlt2
    go_loopw [60] (fun vj wr => ∃ j : Nat, j ≤ p.rows.length ∧ vj = .int .i64 (j : Int) ∧ AccF wr gz ((ds.take j).foldl dotStep 0) ∧ HS w [(w.heap.size, 26, #[.int .i64 (n : Int), .slice A1 p.free.length c1, .slice A2 p.goal.length c2, .slice A3 p.rows.length c3])] wr) (fun vj _ => p.rows.length - (intOf vj).toNat)
    case atStart => exact ⟨0, Nat.zero_le _, rfl, HA0.out, HK4.out⟩
    case round =>
     obtain ⟨j, hj, rfl, hacc, hk⟩ := hrel
     have HA5 := Hd hacc
     have HK5 := Hd hk
     have hcap : capQ ((ds.take j).foldl dotStep 0) = (ds.take j).foldl dotStep 0 := rdot_cap _ _ capQ_zero
     obtain ⟨sm, hsm⟩ : ∃ s, s = (ds.take j).foldl dotStep 0 := ⟨_, rfl⟩
     rw [← hsm] at hcap HA5
     have HSM := Hd hsm
     have HCAP := Hd hcap
     clear hacc hk hsm hcap HA0 HK4 HK3
     by_cases hjlt : j < p.rows.length
     ·obtain ⟨r, hr⟩ : ∃ r, p.rows[j]? = some r := ⟨p.rows[j], geq hjlt⟩
      have hly := HLEN.out
      have hra := HROW.out r (mog hr)
      obtain ⟨f, hf⟩ : ∃ f, y[j]? = some f := ⟨y[j]'(by omega), geq _⟩
      obtain ⟨av, hav⟩ : ∃ f, r.a[i]? = some f := ⟨r.a[i]'(by omega), geq _⟩
      obtain ⟨g1, o1, B1, d1, B2, n2, d2, B3, n3, d3, rfl, hg, k0, k1, k2, k3, k4, _, HRA, _⟩ := RL.at5 (H3.out.below ER.stays HK5.out.2) hr
      obtain ⟨g2, o2, C1, l1, e1, C2, l2, e2, rfl, hg2, j0, j1, j2, HFE⟩ := FL.at3 (HY.out.below EF.stays HK5.out.2) hf
      obtain ⟨g3, o3, C3, l3, e3, C4, l4, e4, rfl, hg3, q0, q1, q2, HAE⟩ := FL.at3 HRA.out hav
      have hdj : ds[j]? = some (fixQ f * fixQ av) := by rw [HDS.out, HYS.out]; unfold colL; simp [List.getElem?_zipWith, hr, hf, nthF_get hav]
      obtain ⟨pr, hpr⟩ : ∃ q, q = fixQ f * fixQ av := ⟨_, rfl⟩
      rw [← hpr] at hdj
      have HPR := Hd hpr
      have HNX : Hid ((ds.take (j + 1)).foldl dotStep 0 = dotStep sm pr) := by
       unfold Hid
       rw [List.take_add_one, hdj]
       rw [show ds.take j ++ (some pr).toList = ds.take j ++ [pr] from rfl, fold_snoc, ← HSM.out]
      have n1 : (j : Int) < (p.rows.length : Int) := by omega
      have n2' : (j : Int) < (y.length : Int) := by omega
      have n3' : (j : Int).toNat = j := by omega
      have n4' : (0 : Int) ≤ (j : Int) := by omega
      have n5' : (i : Int) < (r.a.length : Int) := by omega
      have n6' : (i : Int).toNat = i := by omega
      have n7' : (0 : Int) ≤ (i : Int) := by omega
      obtain ⟨s, hs⟩ : ∃ s, s = r.s := ⟨_, rfl⟩
      rw [← hs] at k1
      have hz0 := (HK5.out.blk 0 rfl).lt
      clear hr hf hs hly hav hdj hpr hra
      go_wp2_with fail
      have HB1 := Hd (below_new wr (.cells #[.slice (some ⟨g3, o3, none⟩) r.a.length d1, .int .i64 s, .bool r.b.neg, .slice B2 n2 d2, .slice B3 n3 d3] 65))
      have HKB1 := Hd (Blk.new wr 65 #[.slice (some ⟨g3, o3, none⟩) r.a.length d1, .int .i64 s, .bool r.b.neg, .slice B2 n2 d2, .slice B3 n3 d3])
      obtain ⟨gr, hgr⟩ : ∃ gr, gr = wr.heap.size := ⟨_, rfl⟩
      rw [← hgr] at HKB1
      generalize wr.alloc (.cells #[.slice (some ⟨g3, o3, none⟩) r.a.length d1, .int .i64 s, .bool r.b.neg, .slice B2 n2 d2, .slice B3 n3 d3] 65) = W1 at *
      rw [← hgr]
      clear hgr
      refine (sgn_calls W1 _ f (HFE.out.of_below HB1.out)).mono ?_
      rintro e w2 ⟨rfl, hb⟩
      have HB2 := Hd (below_next HB1.out hb)
      have hkb2 := HKB1.out.below hb HKB1.out.lt
      have z0 := hkb2.cell (j := 0) rfl
      have hzl := hkb2.lt
      clear hb hkb2
      have HRound : Hid (∀ wz, AccF wz gz (dotStep sm pr) → HS w [(w.heap.size, 26, #[.int .i64 (n : Int), .slice A1 p.free.length c1, .slice A2 p.goal.length c2, .slice (some ⟨g1, o1, none⟩) p.rows.length c3])] wz → ∃ j', j' ≤ p.rows.length ∧ Value.int .i64 ((j : Int) + 1) = .int .i64 (j' : Int) ∧ AccF wz gz ((ds.take j').foldl dotStep 0) ∧ HS w [(w.heap.size, 26, #[.int .i64 (n : Int), .slice A1 p.free.length c1, .slice A2 p.goal.length c2, .slice (some ⟨g1, o1, none⟩) p.rows.length c3])] wz) := by
       intro wz h1 h2
       exact ⟨j + 1, by omega, by go_num, by rw [HNX.out]; exact h1, h2⟩
      by_cases s0 : signQ (fixQ f) = 0
      ·have t0 : (signQ (fixQ f) != 0) = false := beqI s0
       have HP0 : Hid (dotStep sm pr = sm) := by unfold Hid; rw [HPR.out, signQ_zero_iff.1 s0, Rat.zero_mul, dotStep_zero HCAP.out]
       clear s0
       go_wp2_with fail
       go_roundw
       case rel => exact HRound.out _ (by rw [HP0.out]; exact HA5.out.step HB2.out) (HK5.out.step HB2.out)
       case measure => simp [intOf]; omega
      have t0 : (signQ (fixQ f) != 0) = true := bneI s0
      clear s0
      have HA6 := Hd (HA5.out.step HB2.out)
      have hb2c := (bcell HB2.out).1
      obtain ⟨E5, k5, f5, E6, k6, f6, hk, hR⟩ := HA6.out
      have HR1 := Hd hR
      obtain ⟨a0, a1, a2⟩ := hk.c3
      obtain ⟨b0, b1, b2⟩ := hk.f3
      have hlt3 := hk.lt
      have HFE2 := Hd (HFE.out.of_below HB2.out)
      have HAE2 := Hd (HAE.out.of_below HB2.out)
      have HK6 := Hd (HK5.out.step HB2.out)
      have j0' := (hb2c g2 _ hg2).trans j0
      have j1' := (hb2c g2 _ hg2).trans j1
      have j2' := (hb2c g2 _ hg2).trans j2
      have q0' := (hb2c g3 _ hg3).trans q0
      have q1' := (hb2c g3 _ hg3).trans q1
      have q2' := (hb2c g3 _ hg3).trans q2
      have hg2' : g2 < w2.heap.size := Nat.lt_of_lt_of_le hg2 HB2.out.size
      have hg3' : g3 < w2.heap.size := Nat.lt_of_lt_of_le hg3 HB2.out.size
      clear hR hk hb2c j0 j1 j2 q0 q1 q2 k0 k1 k2 k3 k4
      go_wp2_with fail
      refine wp_chain (S := Below w2.heap.size w2) 12 [([0, 1, 2, 3, 4, 5, 6, 7, 8, 9], 10), ([], 11), ([], 12)] (by kernel_rfl) (by kernel_rfl) (by kernel_rfl) rfl Bd ?_
      refine ⟨?_, _, ?_, rfl, ?_⟩
      rotate_left
      ·repeat (refine pu ?_; (try simp only [SQ]))
       exact rfl
      go_wp2_with fail
      refine (fmul_calls _ _ _ f av (HFE2.out.of_below Bd) (HAE2.out.of_below Bd)).mono ?_
      rintro e w7 ⟨v, rfl, hv, hb⟩
      rw [← HPR.out] at hv
      obtain ⟨A7, n7, c7, A8, n8, c8, rfl, HV5⟩ := hv.opened
      have HB7 := Hd (below_next (Below.drew (Below.refl w2.heap.size w2)) hb)
      clear hv hb
      go_wp2_with fail
      refine And.intro HB7.out ⟨_, _, rfl, rfl, ?_⟩
      go_wp2_with fail
      refine (fadd_calls _ _ _ _ _ (FR.of_fq (HR1.out.of_below HB7.out) (by rw [← HCAP.out]; exact capQ_size _)) (FR.of_fq HV5.out (capQ_size _))).mono ?_
      rintro e w8 ⟨v, rfl, hv, hb⟩
      have hpost : capQ (fixQ (rawQ sm) + fixQ (rawQ (capQ pr))) = dotStep sm pr := by
       rw [fixQ_raw _ (by rw [← HCAP.out]; exact capQ_size _), fixQ_raw _ (capQ_size _)]
       rfl
      rw [hpost] at hv
      obtain ⟨A9, n9, c9, A10, n10, c10, rfl, HV6⟩ := hv.opened
      have HB8 := Hd (below_next HB7.out hb)
      clear hv hb hpost
      go_wp2_with fail
      refine And.intro HB8.out ⟨_, _, rfl, rfl, ?_⟩
      have HA8 := Hd (HA6.out.step HB8.out)
      obtain ⟨_, _, _, _, _, _, hk5, _⟩ := HA8.out
      obtain ⟨y0, y1, y2⟩ := hk5.c3
      obtain ⟨f0, f1, f2⟩ := hk5.f3
      clear hk5
      go_wp2_with fail
      refine NoPanic.normal ?_
      go_wp2_with fail
      go_roundw
      case rel => exact HRound.out _ (HA8.out.put HV6.out) ((HK6.out.step HB8.out).other3 (by omega) (by simp; omega) _ _ _)
      case measure => simp [intOf]; omega
     ·obtain rfl : j = p.rows.length := by omega
      have hly := HLEN.out
      have hzl : ds.take p.rows.length = ds := List.take_of_length_le (by rw [HDS.out, HYS.out]; unfold colL; rw [List.length_zipWith, lmp]; omega)
      have HCQ : Hid (colQ p.rows ys i = sm) := by unfold Hid colQ; rw [← HDS.out, HSM.out, hzl]
      clear hzl hly
      have hif : i < p.free.length := by have := HFL.out; omega
      obtain ⟨bf, hbf⟩ : ∃ b, p.free[i]? = some b := ⟨p.free[i], geq hif⟩
      obtain ⟨g4, o4, rfl, hg4, kb⟩ := BL.at1 (H1.out.below EB.stays HK5.out.2) hbf
      have HFA : Hid (freeAt p i = bf) := by unfold Hid freeAt; rw [gdd, hbf]; rfl
      have m6 : (i : Int).toNat = i := by omega
      have m7 : (0 : Int) ≤ (i : Int) := by omega
      have m8 : (i : Int) < (p.free.length : Int) := by omega
      have HBF := Hd hbf
      clear hbf hif
      rcases go with _ | g
      ·obtain rfl : v3 = .slice none 0 0 := HGO.out
       have HCV : Hid (colV p.rows ys none i = sm) := by unfold Hid colV; exact HCQ.out
       obtain ⟨E5, k5, f5, E6, k6, f6, hk, hR⟩ := HA5.out
       have HR1 := Hd hR
       obtain ⟨a0, a1, a2⟩ := hk.c3
       have hnn := neq_nil wr
       clear hR hk
       go_wp2_with fail
       refine (sgn_calls _ _ _ (FR.of_fq HR1.out (by rw [← HCAP.out]; exact capQ_size _))).mono ?_
       rintro e wE ⟨rfl, hb⟩
       rw [fixQ_raw _ (by rw [← HCAP.out]; exact capQ_size _)]
       have HKE := Hd (HK5.out.step hb)
       have kb' := ((bcell hb).1 g4 _ hg4).trans kb
       clear hb kb
       obtain ⟨x0, x1, x2, x3⟩ := HKE.out.c4 0 rfl
       have hltp := (HKE.out.blk 0 rfl).lt
       obtain ⟨c, hc⟩ : ∃ c, c = signQ sm := ⟨_, rfl⟩
       have HOK : Hid (colOk p ys none i = !(decide (c < 0) || (decide (c > 0) && bf))) := by unfold Hid colOk; rw [HCV.out, hc, HFA.out]
       rw [← hc]
       clear hc
       have HRound : Hid (∀ wz, Below wE.heap.size wE wz → colOk p ys none i = true → ∃ i', i' ≤ n ∧ Value.int .i64 ((i : Int) + 1) = .int .i64 (i' : Int) ∧ (∀ (j : Nat), j < i' → colOk p ys none j = true) ∧ HS w [(w.heap.size, 26, #[.int .i64 (n : Int), .slice (some ⟨g4, o4, none⟩) p.free.length c1, .slice A2 p.goal.length c2, .slice A3 p.rows.length c3])] wz) := by
        intro wz h1 h2
        refine ⟨i + 1, by omega, by go_num, fun j hj => ?_, HKE.out.step h1⟩
        by_cases hji : j = i
        ·rw [hji]; exact h2
        ·exact HA.out j (by omega)
       by_cases s1 : c < 0
       ·have t1 : decide (c < 0) = true := decide_eq_true s1
        have HE2 : Hid (boundsB p y none = false) := by unfold Hid; rw [HE1.out]; exact range_all_false hlt (by rw [HOK.out, t1]; rfl)
        clear s1
        go_wp2_with fail
        go_ret
        exact ⟨by rw [HE2.out]; rfl, HKE.out.2⟩
       have t1 : decide (c < 0) = false := decide_eq_false s1
       by_cases s2 : c > 0
       ·have t2 : decide (c > 0) = true := decide_eq_true s2
        cases bf with
        | true =>
         have HE2 : Hid (boundsB p y none = false) := by unfold Hid; rw [HE1.out]; exact range_all_false hlt (by rw [HOK.out, t1, t2]; rfl)
         clear s1 s2
         go_wp2_with fail
         go_ret
         exact ⟨by rw [HE2.out]; rfl, HKE.out.2⟩
        | false =>
         have HG : Hid (colOk p ys none i = true) := by unfold Hid; rw [HOK.out, t1, t2]; rfl
         exact sq43 _
       ·have t2 : decide (c > 0) = false := decide_eq_false s2
        have HG : Hid (colOk p ys none i = true) := by unfold Hid; rw [HOK.out, t1, t2]; rfl
        exact sq43 _
      ·obtain ⟨hg3, hgl⟩ : FL w v3 g ∧ (g.length : Int) = (n : Int) := HGO.out
       have HGV := Hd hgl
       obtain ⟨g0, hg0⟩ : ∃ f, g[0]? = some f := ⟨g[0]'(by omega), geq _⟩
       obtain ⟨A6, c6, rfl, hc6⟩ := hg3.slice
       obtain ⟨gb, ob, _, _, _, _, _, _, rfl, _, _, _, _, _⟩ := FL.at3 hg3 hg0
       have HG := Hd hg3
       clear hg0 hg3
       clear hgl
       obtain ⟨fg, hfg⟩ : ∃ f, g[i]? = some f := ⟨g[i]'(by have := HGV.out; omega), geq _⟩
       obtain ⟨g5, o5, C5, l5, e5, C6, l6, e6, ee, hg5, q0, q1, q2, HGE⟩ := FL.at3 (HG.out.below EF.stays HK5.out.2) hfg
       injection ee with ee
       injection ee with ee1 ee2
       subst ee1 ee2
       have m9 : (i : Int) < (g.length : Int) := by have := HGV.out; omega
       obtain ⟨cv, hcv⟩ : ∃ c, c = capQ (sm + -(fixQ fg)) := ⟨_, rfl⟩
       have HCV : Hid (colV p.rows ys (some g) i = cv) := by unfold Hid colV; simp only; rw [HCQ.out, nthF_get hfg, hcv]
       have HCC := Hd hcv
       obtain ⟨E5, k5, f5, E6, k6, f6, hk, hR⟩ := HA5.out
       have HR1 := Hd hR
       obtain ⟨a0, a1, a2⟩ := hk.c3
       obtain ⟨b0, b1, b2⟩ := hk.f3
       have hlt3 := hk.lt
       have hnn := neq_some wr ⟨gb, ob, none⟩ g.length c6
       clear hR hk hfg hcv
       go_wp2_with fail
       refine wp_chain (S := Below wr.heap.size wr) 6 [([0, 1, 2, 3, 4], 5), ([], 6)] (by kernel_rfl) (by kernel_rfl) (by kernel_rfl) rfl Bd ?_
       refine ⟨?_, _, ?_, rfl, ?_⟩
       rotate_left
       ·repeat (refine pu ?_; (try simp only [SQ]))
        exact rfl
       go_wp2_with fail
       refine (fsub_calls _ _ _ _ fg (FR.of_fq (HR1.out.of_below Bd) (by rw [← HCAP.out]; exact capQ_size _)) (HGE.out.of_below Bd)).mono ?_
       rintro e w8 ⟨v, rfl, hv, hb⟩
       rw [fixQ_raw _ (by rw [← HCAP.out]; exact capQ_size _), ← HCC.out] at hv
       obtain ⟨A9, n9, c9, A10, n10, c10, rfl, HV6⟩ := hv.opened
       have HB8 := Hd (below_next (Below.drew (Below.refl wr.heap.size wr)) hb)
       clear hv hb
       go_wp2_with fail
       refine And.intro HB8.out ⟨_, _, rfl, rfl, ?_⟩
       have HA8 := Hd (HA5.out.step HB8.out)
       obtain ⟨_, _, _, _, _, _, hk5, _⟩ := HA8.out
       obtain ⟨y0, y1, y2⟩ := hk5.c3
       obtain ⟨f0, f1, f2⟩ := hk5.f3
       clear hk5
       go_wp2_with fail
       refine NoPanic.normal ?_
       have HA9 := Hd (HA8.out.put HV6.out)
       have HK9 := Hd ((HK5.out.step HB8.out).other3 (g := gz) (by omega) (by simp; omega) (.bool (negQ cv)) (.slice A9 n9 c9) (.slice A10 n10 c10))
       generalize ((w8.setCell ⟨gz, 0, none⟩ (.bool (negQ cv))).setCell ⟨gz, 1, none⟩ (.slice A9 n9 c9)).setCell ⟨gz, 2, none⟩ (.slice A10 n10 c10) = W9 at *
       obtain ⟨E7, k7, f7, E8, k8, f8, hk, hR⟩ := HA9.out
       have HR9 := Hd hR
       obtain ⟨i0, i1, i2⟩ := hk.c3
       clear hR hk
       go_wp2_with fail
       have hcs : sizeQ cv ≤ 4096 := by rw [HCC.out]; exact capQ_size _
       refine (sgn_calls _ _ _ (FR.of_fq HR9.out hcs)).mono ?_
       rintro e wE ⟨rfl, hb⟩
       rw [fixQ_raw _ hcs]
       have HKE := Hd (HK9.out.step hb)
       obtain ⟨g4', o4', ee, hg4', kb'⟩ := BL.at1 (H1.out.below EB.stays HKE.out.2) HBF.out
       injection ee with ee
       injection ee with ee1 ee2
       subst ee1 ee2
       clear hb kb
       obtain ⟨x0, x1, x2, x3⟩ := HKE.out.c4 0 rfl
       have hltp := (HKE.out.blk 0 rfl).lt
       obtain ⟨c, hc⟩ : ∃ c, c = signQ cv := ⟨_, rfl⟩
       have HOK : Hid (colOk p ys (some g) i = !(decide (c < 0) || (decide (c > 0) && bf))) := by unfold Hid colOk; rw [HCV.out, hc, HFA.out]
       rw [← hc]
       clear hc
       have HRound : Hid (∀ wz, Below wE.heap.size wE wz → colOk p ys (some g) i = true → ∃ i', i' ≤ n ∧ Value.int .i64 ((i : Int) + 1) = .int .i64 (i' : Int) ∧ (∀ (j : Nat), j < i' → colOk p ys (some g) j = true) ∧ HS w [(w.heap.size, 26, #[.int .i64 (n : Int), .slice (some ⟨g4, o4, none⟩) p.free.length c1, .slice A2 p.goal.length c2, .slice A3 p.rows.length c3])] wz) := by
        intro wz h1 h2
        refine ⟨i + 1, by omega, by go_num, fun j hj => ?_, HKE.out.step h1⟩
        by_cases hji : j = i
        ·rw [hji]; exact h2
        ·exact HA.out j (by omega)
       by_cases s1 : c < 0
       ·have t1 : decide (c < 0) = true := decide_eq_true s1
        have HE2 : Hid (boundsB p y (some g) = false) := by unfold Hid; rw [HE1.out]; exact range_all_false hlt (by rw [HOK.out, t1]; rfl)
        clear s1
        go_wp2_with fail
        go_ret
        exact ⟨by rw [HE2.out]; rfl, HKE.out.2⟩
       have t1 : decide (c < 0) = false := decide_eq_false s1
       by_cases s2 : c > 0
       ·have t2 : decide (c > 0) = true := decide_eq_true s2
        cases bf with
        | true =>
         have HE2 : Hid (boundsB p y (some g) = false) := by unfold Hid; rw [HE1.out]; exact range_all_false hlt (by rw [HOK.out, t1, t2]; rfl)
         clear s1 s2
         go_wp2_with fail
         go_ret
         exact ⟨by rw [HE2.out]; rfl, HKE.out.2⟩
        | false =>
         have HG : Hid (colOk p ys (some g) i = true) := by unfold Hid; rw [HOK.out, t1, t2]; rfl
         exact sq43 _
       ·have t2 : decide (c > 0) = false := decide_eq_false s2
        have HG : Hid (colOk p ys (some g) i = true) := by unfold Hid; rw [HOK.out, t1, t2]; rfl
        exact sq43 _
theorem bounds0_calls (w : World) (v v2 : Value) (p : ProgF) (y : List RawF) (h : PR w v p) (h2 : FL w v2 y) (hr : rightP p = 0) (hy : y.length ≤ 100000) : Calls Try.prog 61 #[v, v2, .slice none 0 0] w fun e w' => BPost w (boundsB p y none) e w' := boundsG_calls w v v2 _ p y none h h2 rfl hr hy
theorem bounds_calls (w : World) (v v2 : Value) (p : ProgF) (y : List RawF) (h : PR w v p) (h2 : FL w v2 y) (v3 : Value) (g : List RawF) (hg3 : FL w v3 g) (hgl : (g.length : Int) = p.vars) (hr : rightP p = 0) (hy : y.length ≤ 100000) : Calls Try.prog 61 #[v, v2, v3] w fun e w' => BPost w (boundsB p y (some g)) e w' := boundsG_calls w v v2 v3 p y (some g) h h2 ⟨hg3, hgl⟩ hr hy
theorem fmake_calls (w : World) (n : Int) (h0 : -9223372036854775808 ≤ n) (h1 : n < 9223372036854775808) :
  Calls Try.prog 113 #[.int .i64 n, .int .i64 1] w fun e w' => ∃ v, e = .returned (.tuple #[v, .int .i64 0]) ∧ FQ w' v (n : Rat) ∧ Below w.heap.size w w' := by
 go_enter Try.func113, Try.ntmps113
 go_wp2_with fail
 have H0 := Hd (HS.one (w := w) #[.bool false, .slice none 0 0, .slice none 0 0] 40)
 generalize w.alloc (.cells #[.bool false, .slice none 0 0, .slice none 0 0] 40) = W0 at *
 refine (whole_calls W0 n h0 h1).mono ?_
 rintro e w1 ⟨v, rfl, hv, hb⟩
 obtain ⟨A1, n1, c1, A2, n2, c2, rfl, HV⟩ := hv.opened'
 have H1 := Hd (H0.out.step hb)
 clear hv hb
 go_wp2_with fail
 refine (whole_calls w1 1 (by omega) (by omega)).mono ?_
 rintro e w2 ⟨v, rfl, hv, hb⟩
 have hone : ((1 : Int) : Rat) = 1 := rfl
 rw [hone] at hv
 obtain ⟨A3, n3, c3, A4, n4, c4, rfl, HW⟩ := hv.opened'
 have H2 := Hd (H1.out.step hb)
 have HV2 := Hd (HV.out.of_below hb)
 clear hv hb hone
 go_wp2_with fail
 refine (over_calls w2 _ 1 HW.out (by decide)).mono ?_
 rintro e w3 ⟨v, rfl, hv, hb⟩
 rw [rat_inv_one] at hv
 obtain ⟨A5, n5, c5, A6, n6, c6, rfl, HW3⟩ := hv.opened'
 have H3 := Hd (H2.out.step hb)
 have HV3 := Hd (HV2.out.of_below hb)
 clear hv hb
 go_wp2_with fail
 have hs := size_int n h0 h1
 refine (times_calls w3 _ _ (n : Rat) 1 HV3.out HW3.out (by omega) (by have := size_int 1 (by omega) (by omega); have e : ((1 : Int) : Rat) = 1 := rfl; rw [e] at this; omega)).mono ?_
 rintro e w4 ⟨v, rfl, hv, hb⟩
 rw [Rat.mul_one] at hv
 obtain ⟨A7, n7, c7, A8, n8, c8, rfl, HV4⟩ := hv.opened'
 have H4 := Hd (H3.out.step hb)
 clear hv hb
 go_wp2_with fail
 refine (told_calls w4 _ (n : Rat) HV4.out (by omega)).mono ?_
 rintro e w5 ⟨v, rfl, hv, hb⟩
 rw [capQ_fits (show sizeQ (n : Rat) ≤ 4096 by omega)] at hv
 obtain ⟨A9, n9, c9, A10, n10, c10, rfl, HV5⟩ := hv.opened
 have H5 := Hd (H4.out.step hb)
 clear hv hb hs
 obtain ⟨f0, f1, f2⟩ := (H5.out.blk 0 rfl).f3
 obtain ⟨x0, x1, x2⟩ := (H5.out.blk 0 rfl).c3
 go_wp2_with fail
 refine ret40i Try.results113 rfl rfl ((H5.out.blk 0 rfl).put3 _ _ _) ⟨_, rfl, HV5.out.put3 (H5.out.blk 0 rfl) ni40 _ _ _, below_put3 H5.out.2 (by omega) _ _ _⟩
theorem number_calls (w : World) (n : Int) (h0 : -9223372036854775808 ≤ n) (h1 : n < 9223372036854775808) : Calls Try.prog 80 #[.int .i64 n] w fun e w' => FPost w (n : Rat) e w' := by
 go_enter Try.func80, Try.ntmps80
 go_wp2_with fail
 have H0 := Hd (HS.one (w := w) #[.bool false, .slice none 0 0, .slice none 0 0] 40)
 generalize w.alloc (.cells #[.bool false, .slice none 0 0, .slice none 0 0] 40) = W0 at *
 refine (fmake_calls W0 n h0 h1).mono ?_
 rintro e w1 ⟨v, rfl, hv, hb⟩
 obtain ⟨A1, n1, c1, A2, n2, c2, rfl, HV⟩ := FQ.opened hv
 have H1 := Hd (H0.out.step hb)
 clear hv hb
 obtain ⟨f0, f1, f2⟩ := (H1.out.blk 0 rfl).f3
 obtain ⟨x0, x1, x2⟩ := (H1.out.blk 0 rfl).c3
 have hlt := (H1.out.blk 0 rfl).lt
 go_wp2_with fail
 exact ret40 Try.results80 rfl (((H1.out.blk 0 rfl).put3 _ _ _).alloc _) ⟨_, rfl, (HV.out.put3 (H1.out.blk 0 rfl) ni40 _ _ _).of_below (below_new _ _), below_next (below_put3 H1.out.2 (Nat.le_refl _) _ _ _) (below_new _ _)⟩
def EI (w : World) (vs : Array Value) (n : Int) : Prop := vs = #[.int .i64 n]
theorem EI.stays : Stays EI := fun _ _ _ _ h _ => h
abbrev IL (w : World) (v : Value) (l : List Int) : Prop := SL 1 EI w v l
theorem IL.at1 {w : World} {A : Option Addr} {n c : Nat} {l : List Int} (h : IL w (.slice A n c) l) {j : Nat} {b : Int} (hj : l[j]? = some b) : ∃ g o, A = some ⟨g, o, none⟩ ∧ g < w.heap.size ∧ w.cell? ⟨g, o + j, none⟩ = some (.int .i64 b) := by
 obtain ⟨g, o, vs, hA, hg, hs, hc, he⟩ := h.at_ hj
 subst he
 have := hc 0 _ rfl
 rw [Nat.mul_one] at this
 exact ⟨g, o, hA, hg, this⟩
def UPost (w : World) (r : RowQ) (e : Ending) (w' : World) : Prop := ∃ vs, e = .returned (.agg vs) ∧ ERO w.heap.size w' vs r ∧ Below w.heap.size w w'
def unitL (n : Nat) (v : Int) : List Rat := (List.range n).map fun (i : Nat) => if (i : Int) = v then (1 : Rat) else 0
def unitQ (n : Nat) (v s b : Int) : RowQ := ⟨unitL n v, s, b⟩
theorem unitL_length (n : Nat) (v : Int) : (unitL n v).length = n := by simp [unitL]
theorem Blk.c5 {W : World} {g t : Nat} {a b c d e : Value} (h : Blk W g t #[a, b, c, d, e]) : W.cell? ⟨g, 0, none⟩ = some a ∧ W.cell? ⟨g, 1, none⟩ = some b ∧ W.cell? ⟨g, 2, none⟩ = some c ∧ W.cell? ⟨g, 3, none⟩ = some d ∧ W.cell? ⟨g, 4, none⟩ = some e := ⟨h.cell rfl, h.cell rfl, h.cell rfl, h.cell rfl, h.cell rfl⟩
theorem Blk.f5 {W : World} {g t : Nat} {cs : Array Value} (h : Blk W g t cs) : W.frozen? ⟨g, 0, none⟩ = false ∧ W.frozen? ⟨g, 1, none⟩ = false ∧ W.frozen? ⟨g, 2, none⟩ = false ∧ W.frozen? ⟨g, 3, none⟩ = false ∧ W.frozen? ⟨g, 4, none⟩ = false := ⟨h.frozen 0, h.frozen 1, h.frozen 2, h.frozen 3, h.frozen 4⟩
theorem Blk.put5 {w : World} {g t : Nat} {a b c d e : Value} (h : Blk w g t #[a, b, c, d, e]) (x y z u v : Value) : Blk (_root_.Go.Proofs.Ytfhambfgjigneaa.put5 w g 0 x y z u v) g t #[x, y, z, u, v] :=
 ((((h.put 0 x).put 1 y).put 2 z).put 3 u).put 4 v
theorem below_put5 {B : Nat} {w w1 : World} (h : Below B w w1) {g : Nat} (ha : B ≤ g) (x y z u v : Value) : Below B w (put5 w1 g 0 x y z u v) :=
 Below.setCell (below_put4 h ha x y z u) (p := ⟨g, 4, none⟩) ha v
theorem chg_put5 {base g t : Nat} {w : World} {cs : Array Value} (h : Blk w g t cs) (hg : base ≤ g) (hn : ∀ u ∈ cs, notWord u = true) (x y z u v : Value) : Chg base t w (put5 w g 0 x y z u v) := by
 have ho : ∀ k, k < w.heap.size → k ≠ g → (put5 w g 0 x y z u v).heap[k]? = w.heap[k]? := fun k _ hk => put5_other w g 0 x y z u v hk
 exact Chg.own h hg (Keeps.apart h hn (Nat.le_of_eq (put5_size w g 0 x y z u v).symm) ho) ho
theorem rowA_words {s : Int} {b : Bool} {A0 A1 A2 : Option Addr} {n0 c0 n1 c1 n2 c2 : Nat} : ∀ u ∈ #[Value.slice A0 n0 c0, .int .i64 s, .bool b, .slice A1 n1 c1, .slice A2 n2 c2], notWord u = true := by
 intro u hu
 simp only [List.mem_toArray, List.mem_cons, List.not_mem_nil, or_false] at hu
 rcases hu with rfl | rfl | rfl | rfl | rfl <;> rfl
theorem ret65 {fn : Func} {p : Tmp} {Post : Ending → World → Prop} {tmps : Array Value} {w : World} {g : Nat} {a b c d e : Value} (hres : fn.results = #[.cell p 65]) (hp : tmps.getD p undef = .pointer (some ⟨g, 0, none⟩)) (hb : Blk w g 65 #[a, b, c, d, e])
  (hP : Post (.returned (.agg #[a, b, c, d, e])) w) : bodyPost Try.prog fn Post Exit.ret { tmps := tmps, defers := [] } w :=
 bodyPost_ret (v := .agg #[a, b, c, d, e]) (results_cell_row hres _ _ g 65 #[a, b, c, d, e] (0, 0) _ hp hb Try.underlying65 rfl info65s) rfl hP
def seenB (l : List Int) (i : Nat) (x : Int) : Bool := (l.take i).any fun y => decide (y = x)
def distinctB (n : Int) (l : List Int) : Bool := decide ((∀ x ∈ l, 0 ≤ x ∧ x < n) ∧ l.Nodup)
theorem seenB_next {l : List Int} {i : Nat} {x : Int} (h : l[i]? = some x) (y : Int) : seenB l (i + 1) y = (seenB l i y || decide (x = y)) := by
 unfold seenB
 rw [List.take_add_one, h]
 simp
theorem nodup_take {l : List Int} (h : ∀ (i : Nat) (x : Int), l[i]? = some x → seenB l i x = false) : l.Nodup := by
 rw [List.nodup_iff_pairwise_ne, List.pairwise_iff_getElem]
 intro i j hi hj hij e
 have := h j l[j] (geq hj)
 unfold seenB at this
 rw [List.any_eq_false] at this
 refine this l[i] ?_ (decide_eq_true e)
 rw [List.mem_take_iff_getElem]
 exact ⟨i, by omega, rfl⟩
theorem not_nodup {l : List Int} {i : Nat} {x : Int} (h : l[i]? = some x) (hs : seenB l i x = true) : ¬ l.Nodup := by
 intro hn
 rw [List.nodup_iff_pairwise_ne, List.pairwise_iff_getElem] at hn
 unfold seenB at hs
 rw [List.any_eq_true] at hs
 obtain ⟨y, hy, e⟩ := hs
 obtain ⟨hlt, ex⟩ := List.getElem?_eq_some_iff.1 h
 obtain ⟨j, hj, ey⟩ := List.mem_take_iff_getElem.1 hy
 have hj' : j < i := by omega
 refine hn j i (by omega) hlt hj' ?_
 rw [ey, ex]
 exact of_decide_eq_true e
def boolElem : Value → Option (DataW Nat × List MemPlace)
 | .bool b => some (.lit (.bool b), [])
 | _ => none
theorem boolElem_inv {v : Value} {d : DataW Nat} {ps : List MemPlace} (h : boolElem v = some (d, ps)) : ∃ b, v = .bool b ∧ d = .lit (.bool b) := by
 cases v <;> simp [boolElem] at h
 exact ⟨_, rfl, h.1.symm⟩
theorem law3k : Go.Maps.Keyed Try.prog 3 := Go.Maps.int_keyed Try.underlying3
theorem zero4 (w : World) : (zeroValue 4).run Try.prog w = .ok (.bool false) w := by kernel_rfl
theorem key3 {n : Int} (h : I64 n) : keyOf Try.prog 3 (.int .i64 n) = some (.int .i64 n) := Go.Maps.keyOf_int_mk Try.underlying3 (by unfold I64 at h; simp only [Lit.wf, Bool.and_eq_true, decide_eq_true_eq]; exact h)
def Seen (w : World) (b : Nat) (l : List Int) (i : Nat) : Prop := ∃ D : DataW Nat, w.ownsMap Try.prog 3 boolElem b i D ∧ Go.Maps.IsMap D ∧ ∀ x : Int, D.atKey (.int .i64 x) (.lit (.bool false)) = .lit (.bool (seenB l i x))
theorem Seen.look {w : World} {b i : Nat} {l : List Int} (h : Seen w b l i) {x : Int} (hx : I64 x) : (Instr.lookup 101 (.map (some b)) (.int .i64 x) false).run Try.prog w = .ok (.bool (seenB l i x)) w := by
 obtain ⟨D, hown, _, hat⟩ := h
 obtain ⟨v, ps, hrun, hv⟩ := hown.lookup law3k Try.underlying101 (zero4 w) (zd := .lit (.bool false)) (zp := []) rfl (key3 hx)
 rw [hat] at hv
 obtain ⟨b, rfl, e⟩ := boolElem_inv hv
 injection e with e
 injection e with e
 rw [hrun, e]
theorem Seen.next {w : World} {b i : Nat} {l : List Int} (h : Seen w b l i) {x : Int} (hx : I64 x) (hl : l[i]? = some x) (hi : i < maxLen) : ∃ w', (Instr.mapUpdate 101 (.map (some b)) (.int .i64 x) (.bool true)).run Try.prog w = .ok () w' ∧ Seen w' b l (i + 1) ∧ w.grownBy w' (some b) := by
 obtain ⟨D, hown, hm, hat⟩ := h
 obtain ⟨w', hrun, hown', hg⟩ := hown.update law3k Try.underlying101 hi (val := .bool true) (d := .lit (.bool true)) (ps := []) (key3 hx) rfl
 refine ⟨w', hrun, ⟨_, hown', hm.put _ _, fun y => ?_⟩, hg⟩
 rw [seenB_next hl]
 by_cases e : x = y
 ·subst e
  rw [Go.Maps.atKey_put_same hm (by simp [WideAt.IsKeyLit])]
  simp
 ·rw [Go.Maps.atKey_put_other (by intro h; injection h with _ h; exact e h.symm), hat]
  simp [e]
theorem Seen.made (w : World) (l : List Int) : Seen (w.alloc (.map #[] 0)) w.heap.size l 0 := ⟨_, World.ownsMap_made _ _ _ _, Go.Maps.isMap_empty, fun x => rfl⟩
theorem distinct_calls (w : World) (v : Value) (l : List Int) (n : Int) (h : IL w v l) (hl : l.length ≤ 4000000000000000) (hw : ∀ x ∈ l, I64 x) : Calls Try.prog 46 #[.int .i64 n, v] w fun e w' => BPost w (distinctB n l) e w' := by
 obtain ⟨A, c, rfl, hc⟩ := h.slice
 have HF := Hd h
 have HW := Hd hw
 clear h hw
 have hmm := @run_makeMap Try.prog
 go_enter Try.func46, Try.ntmps46
 go_wp2_with fail
 go_loopw [11] (fun vi wr => ∃ i : Nat, i ≤ l.length ∧ vi = .int .i64 (i : Int) ∧ Seen wr w.heap.size l i ∧ (∀ (j : Nat) (x : Int), j < i → l[j]? = some x → (0 ≤ x ∧ x < n) ∧ seenB l j x = false) ∧ Below w.heap.size w wr) (fun vi _ => l.length - (intOf vi).toNat)
 case atStart => exact ⟨0, Nat.zero_le _, rfl, Seen.made w l, fun j _ h => absurd h (Nat.not_lt_zero _), below_new _ _⟩
 case round =>
  obtain ⟨i, hi, rfl, hsn, hall, hb⟩ := hrel
  have HS0 := Hd hsn
  have HA := Hd hall
  have HB := Hd hb
  clear hsn hall hb hmm
  by_cases hlt : i < l.length
  ·obtain ⟨x, hx⟩ : ∃ x, l[i]? = some x := ⟨l[i], geq hlt⟩
   obtain ⟨g, o, rfl, hg, k0⟩ := IL.at1 (HF.out.below EI.stays HB.out) hx
   have HX := Hd hx
   have hxi := HW.out x (mog hx)
   have HXI := Hd hxi
   have hlook := HS0.out.look hxi
   obtain ⟨w2, hupd, hs2, hg2⟩ := HS0.out.next hxi hx (by unfold maxLen; omega)
   have HS2 := Hd hs2
   have HB2 := Hd (below_none HB.out hg2 (fun k hk => by cases hk; exact Nat.le_refl _))
   clear hx hxi hs2 hg2
   have m1 : (i : Int) < (l.length : Int) := by omega
   have m3 : (i : Int).toNat = i := by omega
   have m4 : (0 : Int) ≤ (i : Int) := by omega
   by_cases q1 : x < 0
   ·have HE2 : Hid (distinctB n l = false) := by
     unfold Hid distinctB
     exact decide_eq_false fun hh => by have := (hh.1 x (mog HX.out)).1; omega
    go_wp2_with fail
    go_ret
    exact ⟨by rw [HE2.out]; rfl, HB.out⟩
   ·by_cases q2 : n ≤ x
    ·have HE2 : Hid (distinctB n l = false) := by
      unfold Hid distinctB
      exact decide_eq_false fun hh => by have := (hh.1 x (mog HX.out)).2; omega
     go_wp2_with fail
     go_ret
     exact ⟨by rw [HE2.out]; rfl, HB.out⟩
    ·cases hsb : seenB l i x
     ·have HSB := Hd hsb
      rw [hsb] at hlook
      clear hsb
      go_wp2_with fail
      go_roundw
      case rel =>
       refine ⟨i + 1, by omega, by go_num, HS2.out, fun j y hj hy => ?_, HB2.out⟩
       by_cases hji : j = i
       ·rw [hji, HX.out] at hy
        injection hy with e
        rw [← e, hji]
        exact ⟨⟨by omega, by omega⟩, HSB.out⟩
       ·exact HA.out j y (by omega) hy
      case measure => simp [intOf]; omega
     ·rw [hsb] at hlook
      have HE2 : Hid (distinctB n l = false) := by
       unfold Hid distinctB
       exact decide_eq_false fun hh => not_nodup HX.out hsb hh.2
      clear hsb
      go_wp2_with fail
      go_ret
      exact ⟨by rw [HE2.out]; rfl, HB.out⟩
  ·obtain rfl : i = l.length := by omega
   have HE2 : Hid (distinctB n l = true) := by
    unfold Hid distinctB
    refine decide_eq_true ⟨fun x hx => ?_, nodup_take fun i x hx => ?_⟩
    ·obtain ⟨j, hj⟩ := List.getElem?_of_mem hx
     exact (HA.out j x (List.getElem?_eq_some_iff.1 hj).1 hj).1
    ·exact (HA.out i x (List.getElem?_eq_some_iff.1 hx).1 hx).2
   go_wp2_with fail
   go_ret
   exact ⟨by rw [HE2.out]; rfl, HB.out⟩
open Go
inductive CU where
 | fin (p0 : List Nat)
 | one (p : List Nat) (c : Nat) (t : CU)
 | two (p : List Nat) (c1 : Nat) (t1 : CU) (c2 : Nat) (t2 : CU)
 | three (p : List Nat) (c1 : Nat) (t1 : CU) (c2 : Nat) (t2 : CU) (c3 : Nat) (t3 : CU)
section
variable {P : Program} {ops : Array Oper} {Q : Exit → Act → World → Prop} {md : Region.Mode} {S : World → Prop} {L : Nat}
def CU.len : CU → Nat
 | .fin p0 => p0.length
 | .one p _ t => p.length + 1 + t.len
 | .two p _ t1 _ _ => p.length + 1 + t1.len
 | .three p _ t1 _ _ _ _ => p.length + 1 + t1.len
def forkF (P : Program) (ops : Array Oper) (Q : Exit → Act → World → Prop) (S : World → Prop) (os : List Oper) : CU → Act → World → Prop
 | .fin p0, a, w => ∃ A, pureTo P ops S p0 a A ∧ wpList P ops Q os A w
 | .one p c t, a, w => ∃ A o, pureTo P ops S p a A ∧ ops[c]? = some o ∧ wpList P ops (chainQ Q fun a' w' => S w' ∧ forkF P ops Q S os t a' w') [o] A w
 | .two p c1 t1 c2 t2, a, w => ∃ A o1 o2, pureTo P ops S p a A ∧ ops[c1]? = some o1 ∧ ops[c2]? = some o2 ∧ wpList P ops (chainQ Q fun a' w' => S w' ∧ forkF P ops Q S os t1 a' w') [o1] A w ∧ wpList P ops (chainQ Q fun a' w' => S w' ∧ forkF P ops Q S os t2 a' w') [o2] A w
 | .three p c1 t1 c2 t2 c3 t3, a, w => ∃ A o1 o2 o3, pureTo P ops S p a A ∧ ops[c1]? = some o1 ∧ ops[c2]? = some o2 ∧ ops[c3]? = some o3 ∧ wpList P ops (chainQ Q fun a' w' => S w' ∧ forkF P ops Q S os t1 a' w') [o1] A w ∧ wpList P ops (chainQ Q fun a' w' => S w' ∧ forkF P ops Q S os t2 a' w') [o2] A w ∧ wpList P ops (chainQ Q fun a' w' => S w' ∧ forkF P ops Q S os t3 a' w') [o3] A w
def forkOk (md : Region.Mode) (ops : Array Oper) (L : Nat) : CU → Array Bool → Bool
 | .fin p0, listed => takesF md ops L p0 listed && freeF md ops (ops.size - L) L (marked p0 listed)
 | .one p c t, listed => takesF md ops L p listed && (Region.ready md ops (marked p listed) == [c]) && forkOk md ops L t ((marked p listed).setIfInBounds c true)
 | .two p c1 t1 c2 t2, listed => takesF md ops L p listed && (Region.ready md ops (marked p listed) == [c1, c2]) && forkOk md ops L t1 ((marked p listed).setIfInBounds c1 true) && forkOk md ops L t2 ((marked p listed).setIfInBounds c2 true) && (t1.len == t2.len)
 | .three p c1 t1 c2 t2 c3 t3, listed => takesF md ops L p listed && (Region.ready md ops (marked p listed) == [c1, c2, c3]) && forkOk md ops L t1 ((marked p listed).setIfInBounds c1 true) && forkOk md ops L t2 ((marked p listed).setIfInBounds c2 true) && forkOk md ops L t3 ((marked p listed).setIfInBounds c3 true) && (t1.len == t2.len) && (t1.len == t3.len)
theorem wpAnyF_two4 {c1 c2 : Nat} {fuel : Nat} {listed : Array Bool} {a : Act} {w : World} (hr : Region.ready md ops listed = [c1, c2])
  (h1 : wpOp P ops Q c1 (fun a' w' => (c1 < L → S w') ∧ wpAnyF P md ops Q S L fuel (listed.setIfInBounds c1 true) a' w') a w)
  (h2 : wpOp P ops Q c2 (fun a' w' => (c2 < L → S w') ∧ wpAnyF P md ops Q S L fuel (listed.setIfInBounds c2 true) a' w') a w) : wpAnyF P md ops Q S L (fuel + 1) listed a w :=
 ⟨fun h0 => (by rw [hr] at h0; cases h0), fun i hi => by
  rw [hr] at hi
  simp at hi
  rcases hi with rfl | rfl
  ·exact h1
  ·exact h2⟩
theorem wpAnyF_three {c1 c2 c3 : Nat} {fuel : Nat} {listed : Array Bool} {a : Act} {w : World} (hr : Region.ready md ops listed = [c1, c2, c3])
  (h1 : wpOp P ops Q c1 (fun a' w' => (c1 < L → S w') ∧ wpAnyF P md ops Q S L fuel (listed.setIfInBounds c1 true) a' w') a w)
  (h2 : wpOp P ops Q c2 (fun a' w' => (c2 < L → S w') ∧ wpAnyF P md ops Q S L fuel (listed.setIfInBounds c2 true) a' w') a w)
  (h3 : wpOp P ops Q c3 (fun a' w' => (c3 < L → S w') ∧ wpAnyF P md ops Q S L fuel (listed.setIfInBounds c3 true) a' w') a w) : wpAnyF P md ops Q S L (fuel + 1) listed a w :=
 ⟨fun h0 => (by rw [hr] at h0; cases h0), fun i hi => by
  rw [hr] at hi
  simp at hi
  rcases hi with rfl | rfl | rfl
  ·exact h1
  ·exact h2
  ·exact h3⟩
theorem fork_sound (hsel : ∀ (j : Nat) (o : Oper) cs b, ops[j]? = some o → o.op ≠ .select cs b) (hQ : ∀ c a d v w, Q (.panic c) (Act.put a d v) w → Q (.panic c) a w) (os : List Oper) (hos : os = ops.toList.drop L) :
  ∀ (t : CU) (listed : Array Bool) (a : Act) (w : World), forkOk md ops L t listed = true → Closed md ops listed → forkF P ops Q S os t a w → S w → ∀ more, wpAnyF P md ops Q S L (t.len + (ops.size - L) + more) listed a w
 | .fin p0, listed, a, w, hc, hcl, ⟨A, hp, h⟩, hS, more => by
  simp only [forkOk, Bool.and_eq_true] at hc
  rw [show (CU.fin p0).len + (ops.size - L) + more = p0.length + (ops.size - L + more) by simp only [CU.len]; omega]
  exact sq53 _
 | .one p c t, listed, a, w, hc, hcl, ⟨A, o, hp, ho, h⟩, hS, more => by
  simp only [forkOk, Bool.and_eq_true, beq_iff_eq] at hc
  obtain ⟨⟨ht, hr⟩, he⟩ := hc
  rw [show (CU.one p c t).len + (ops.size - L) + more = p.length + (t.len + (ops.size - L) + more + 1) by simp only [CU.len]; omega]
  refine takesF_sound hsel hQ p listed a A w _ ht hcl hp hS (fun hcl' => wpAnyF_only hr (wpOp_mono (fun a' w' hk => ⟨fun _ => hk.1, ?_⟩) (wpOp_of_chain ho h)))
  exact fork_sound hsel hQ os hos t _ a' w' he (hcl'.step (by rw [hr]; simp)) hk.2 hk.1 more
 | .two p c1 t1 c2 t2, listed, a, w, hc, hcl, ⟨A, o1, o2, hp, ho1, ho2, h1, h2⟩, hS, more => by
  simp only [forkOk, Bool.and_eq_true, beq_iff_eq] at hc
  obtain ⟨⟨⟨⟨ht, hr⟩, he1⟩, he2⟩, hl⟩ := hc
  rw [show (CU.two p c1 t1 c2 t2).len + (ops.size - L) + more = p.length + (t1.len + (ops.size - L) + more + 1) by simp only [CU.len]; omega]
  refine takesF_sound hsel hQ p listed a A w _ ht hcl hp hS (fun hcl' => wpAnyF_two4 hr (wpOp_mono (fun a' w' hk => ⟨fun _ => hk.1, ?_⟩) (wpOp_of_chain ho1 h1)) (wpOp_mono (fun a' w' hk => ⟨fun _ => hk.1, ?_⟩) (wpOp_of_chain ho2 h2)))
  ·exact fork_sound hsel hQ os hos t1 _ a' w' he1 (hcl'.step (by rw [hr]; simp)) hk.2 hk.1 more
  ·rw [hl]
   exact fork_sound hsel hQ os hos t2 _ a' w' he2 (hcl'.step (by rw [hr]; simp)) hk.2 hk.1 more
 | .three p c1 t1 c2 t2 c3 t3, listed, a, w, hc, hcl, ⟨A, o1, o2, o3, hp, ho1, ho2, ho3, h1, h2, h3⟩, hS, more => by
  simp only [forkOk, Bool.and_eq_true, beq_iff_eq] at hc
  obtain ⟨⟨⟨⟨⟨⟨ht, hr⟩, he1⟩, he2⟩, he3⟩, hl⟩, hl3⟩ := hc
  rw [show (CU.three p c1 t1 c2 t2 c3 t3).len + (ops.size - L) + more = p.length + (t1.len + (ops.size - L) + more + 1) by simp only [CU.len]; omega]
  refine takesF_sound hsel hQ p listed a A w _ ht hcl hp hS (fun hcl' => wpAnyF_three hr (wpOp_mono (fun a' w' hk => ⟨fun _ => hk.1, ?_⟩) (wpOp_of_chain ho1 h1)) (wpOp_mono (fun a' w' hk => ⟨fun _ => hk.1, ?_⟩) (wpOp_of_chain ho2 h2)) (wpOp_mono (fun a' w' hk => ⟨fun _ => hk.1, ?_⟩) (wpOp_of_chain ho3 h3)))
  ·exact fork_sound hsel hQ os hos t1 _ a' w' he1 (hcl'.step (by rw [hr]; simp)) hk.2 hk.1 more
  ·rw [hl]
   exact fork_sound hsel hQ os hos t2 _ a' w' he2 (hcl'.step (by rw [hr]; simp)) hk.2 hk.1 more
  ·rw [hl3]
   exact fork_sound hsel hQ os hos t3 _ a' w' he3 (hcl'.step (by rw [hr]; simp)) hk.2 hk.1 more
theorem wp_fork {id : Nat} {a : Act} {w : World} {l : List Oper} (S : World → Prop) (L : Nat) (t : CU) (hm : P.follows .mixedOrders = true) (hs : Region.noSelect l.toArray = true) (hc : forkOk .any l.toArray L t (Array.replicate l.toArray.size false) = true)
  (hlen : t.len + (l.toArray.size - L) = l.toArray.size) (hS : S w.drew) (h : forkF P l.toArray (NoPanic Q) S (l.drop L) t a w.drew) : (Code.region id l.toArray true).wp P Q a w := by
 have := fork_sound (md := .any) (L := L) (Region.noSelect_spec hs) (fun _ _ _ _ _ h => h) (l.drop L) (by simp) t (Array.replicate l.toArray.size false) a w.drew hc (Closed.start _) h hS 0
 rw [Nat.add_zero, hlen] at this
 exact wp_region_noPanic (wp_region_any hm (wpAny_of_F _ _ _ _ this))
end
end Go.Proofs.Ytfhambfgjigneaa

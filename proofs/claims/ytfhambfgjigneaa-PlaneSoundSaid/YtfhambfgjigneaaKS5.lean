/- Contracts of Go functions that the statement reaches, proved by walking their text, and plain laws over them (texts put together). -/
import Derived.Test.YtfhambfgjigneaaKS4
import Derived.Test.YtfhambfgjigneaaKS1
import Derived.Maps.OwnSet
set_option linter.unusedVariables false
set_option linter.unusedSimpArgs false
set_option maxHeartbeats 64000000
set_option maxRecDepth 100000
namespace Go.Proofs.Ytfhambfgjigneaa
open Go.RowKit
theorem sq41 (P : Prop) (h : P := by
 rw [List.getElem?_append] at hj
 split at hj
 ·obtain ⟨us, h3, h4, h5⟩ := h2 j a hj
  refine ⟨us, h3, fun i u hi => ?_, hE _ _ _ _ h5 hk⟩
  have h6 := h4 i u hi
  rw [List.getElem?_append_left (List.getElem?_eq_some_iff.1 h6).1]
  exact h6
 ·exact sq26 _) : P := h
theorem OL.push1 {α : Type} {k e : Nat} {E : World → Array Value → α → Prop} {base : Nat} {w w1 : World} {v v' : Value} {ys : List α} {vs : Array Value} {b : α} {xs : List Value} (hE : Leans E) (h1 : OwnR w base e k v ys.length xs) (h2 : ∀ j a, ys[j]? = some a → ∃ vs : Array Value, vs.size = k ∧ (∀ i u, vs[i]? = some u → xs[j * k + i]? = some u) ∧ E w vs a)
  (hv : vs.size = k) (hb : E w vs b) (hk : Keeps w w1) (hown : OwnR w1 base e k v' (ys.length + 1) (xs ++ vs.toList)) : OL k e E base w1 v' (ys ++ [b]) := by
 refine ⟨xs ++ vs.toList, by rw [List.length_append]; exact hown, fun j a hj => ?_⟩
 exact sq41 _
def EFQ (w : World) (vs : Array Value) (q : Rat) : Prop := FQ w (.agg vs) q
theorem EFQ.stays : Stays EFQ := fun _ _ _ _ h hb => FQ.of_below h hb
theorem EFQ.leans : Leans EFQ := fun _ _ _ _ h hk => FQ.keeps h hk
theorem EFQ.far : Far EFQ := fun w w1 vs x g t cs h hb hn hs hk => by
 obtain ⟨v1, v2, e, h1, h2⟩ := h
 exact ⟨v1, v2, e, Rd.apart h1 hb hn hs hk, Rd.apart h2 hb hn hs hk⟩
theorem notWord_of_notInt {v : Value} (h : notInt v = true) : notWord v = true := by
 cases v <;> first | rfl | (simp [notInt] at h)
abbrev QO (base : Nat) (w : World) (v : Value) (qs : List Rat) : Prop := OL 3 40 EFQ base w v qs
theorem Row3.own {w : World} {g n base : Nat} {qs : List Rat} (h : Row3 40 EFQ w g n qs) (hn : qs.length = n) (hb : base ≤ g) (hm : n ≤ maxLen) : QO base w (.slice (some ⟨g, 0, none⟩) n n) qs := by
 obtain ⟨cs, hk, hs, hcn, hl, he⟩ := h
 refine ⟨cs.toList, ⟨by simpa [hn] using hs, .inr ⟨g, n, cs, by rw [hn], hb, hk, by omega, hm, hs, ?_, fun u hu => notWord_of_notInt (hcn u hu)⟩⟩, fun j x hj => ?_⟩
 ·rw [hn, ← hs, ← Array.length_toList, List.take_length]
 ·obtain ⟨a, b, c, h0, h1, h2, h3⟩ := he j x hj
  refine ⟨#[a, b, c], rfl, fun i u hi => ?_, h3⟩
  have hi3 : i < 3 := (Array.getElem?_eq_some_iff.1 hi).1
  match i, hi3 with
  | 0, _ => rw [show u = a by simpa using hi.symm]; simpa using h0
  | 1, _ => rw [show u = b by simpa using hi.symm]; simpa using h1
  | 2, _ => rw [show u = c by simpa using hi.symm]; simpa using h2
def LPost (w : World) (qs : List Rat) (e : Ending) (w' : World) : Prop := ∃ v, e = .returned v ∧ QO w.heap.size w' v qs ∧ Below w.heap.size w w'
theorem wpl_appendQ {ops : Array Oper} {rest : List Oper} {o : Oper} {a : Act} {Q : Exit → Act → World → Prop} {W : World} (hgd : o.guard = none) (s x : Operand) (ho : o.op = .call { callee := .builtin .append, args := #[s, x], argTypes := #[23, 23] }) {base : Nat}
  (v : Value) (fs : List Rat) (hs : a.eval s = v) (hown : QO base W v fs) {g : Nat} {b : Bool} {A1 A2 : Option Addr} {n1 c1 n2 c2 : Nat} (f : Rat) (hx : a.eval x = .slice (some ⟨g, 0, none⟩) 1 1) (hk : Blk W g 40 #[.bool b, .slice A1 n1 c1, .slice A2 n2 c2]) (hf : FQ W (.agg #[.bool b, .slice A1 n1 c1, .slice A2 n2 c2]) f)
  (hl : fs.length ≤ 1000000000) (hbase : base ≤ W.heap.size)
  (h : ∀ v' w', QO base w' v' (fs ++ [f]) → W.grownBy w' v.ownBlock → Keeps W w' → (∀ g, v'.ownBlock = some g → v.ownBlock = some g ∨ W.heap.size ≤ g) → wpList Try.prog ops Q rest (a.put o.dst v') w') : wpList Try.prog ops Q (o :: rest) a W := by
 obtain ⟨xs, h1, h2⟩ := hown
 refine wpl_appendR hgd s x 23 ho (base := base) zeroF 56 Try.underlying23 info40z rfl zeroF_words v fs.length xs hs h1 ⟨g, 0, none⟩ 1 1 [.bool b, .slice A1 n1 c1, .slice A2 n2 c2] hx rfl (lit_cells hk) frac_one frac_word (by decide) (by omega) (by omega) hbase fun v' w' h3 h4 h5 h6 => h v' w' ?_ h4 h5 h6
 exact OL.push1 EFQ.leans (k := 3) (e := 40) (vs := #[.bool b, .slice A1 n1 c1, .slice A2 n2 c2]) h1 h2 rfl hf h5 h3
theorem sq39 (P : Prop) (h : P := by
 refine ⟨i + 1, by omega, by go_num, ?_, ?_⟩
 ·have := HRW2.out.push EFQ.far (by rw [hlen]; exact hlt) HV.out (by simp [notInt])
  rw [hlen] at this
  rw [List.take_add_one, HFI.out, List.map_append]
  exact this
 ·exact Below.setCell (Below.setCell (Below.setCell HB2.out (Nat.le_refl _) _) (Nat.le_refl _) _) (Nat.le_refl _) _) : P := h
theorem fixed_calls (w : World) (v : Value) (fs : List RawF) (h : FL w v fs) (hl : fs.length ≤ 1000000000) : Calls Try.prog 83 #[v] w fun e w' => LPost w (fs.map fixQ) e w' := by
 obtain ⟨A, c, rfl, hc⟩ := h.slice
 have HF := Hd h
 clear h
 go_enter Try.func83, Try.ntmps83
 have hmk := run_make3 23 40 _ Try.underlying23 info40m fs.length (by omega)
 go_wp2_with fail
 clear hmk
 have hr0 := Row3.made (E := EFQ) w 40 fs.length #[.bool false, .slice none 0 0, .slice none 0 0] rfl ni40
 have hb0 := below_new w (.cells (madeCells #[.bool false, .slice none 0 0, .slice none 0 0] (fs.length * 3)) 40)
 generalize w.alloc (.cells (madeCells #[.bool false, .slice none 0 0, .slice none 0 0] (fs.length * 3)) 40) = W0 at *
 go_loopw [11] (fun vi wr => ∃ i : Nat, i ≤ fs.length ∧ vi = .int .i64 (i : Int) ∧ Row3 40 EFQ wr w.heap.size fs.length ((fs.take i).map fixQ) ∧ Below w.heap.size w wr) (fun vi _ => fs.length - (intOf vi).toNat)
 case atStart => exact ⟨0, Nat.zero_le _, rfl, hr0, hb0⟩
 case round =>
  obtain ⟨i, hi, rfl, hrow, hb⟩ := hrel
  have HRW := Hd hrow
  have HB := Hd hb
  clear hrow hb hr0 hb0
  by_cases hlt : i < fs.length
  ·obtain ⟨f, hf⟩ : ∃ f, fs[i]? = some f := ⟨fs[i], List.getElem?_eq_getElem hlt⟩
   obtain ⟨g, o, A1, n1, c1, A2, n2, c2, rfl, hg, k0, k1, k2, HE⟩ := FL.at3 (HF.out.below EF.stays HB.out) hf
   have HFI := Hd hf
   clear hf
   have m1 : (i : Int) < (fs.length : Int) := by omega
   have m3 : (i : Int).toNat = i := by omega
   have m4 : (0 : Int) ≤ (i : Int) := by omega
   go_wp2_with fail
   have hb1 := below_new wr (.cells #[.bool f.neg, .slice A1 n1 c1, .slice A2 n2 c2] 40)
   refine (fix_calls _ _ f (HE.out.of_below hb1)).mono ?_
   rintro e w2 ⟨v, rfl, hv, hb2⟩
   obtain ⟨A5, n5, c5, A6, n6, c6, rfl, HV⟩ := hv.opened
   have HRW2 := Hd (HRW.out.below EFQ.stays (below_next hb1 hb2))
   have HB2 := Hd (below_next HB.out (below_next hb1 hb2))
   clear hv hb1 hb2
   obtain ⟨a, b, d, e0, e1, e2, f0, f1, f2⟩ := HRW2.out.cells i hlt
   go_wp2_with fail
   go_roundw
   case rel =>
    have hlen : ((fs.take i).map fixQ).length = i := by rw [List.length_map, List.length_take, Nat.min_eq_left hi]
    exact sq39 _
   case measure => simp [intOf]; omega
  ·obtain rfl : i = fs.length := by omega
   go_wp2_with fail
   go_ret
   rw [List.take_length] at HRW
   exact ⟨_, rfl, Row3.own HRW.out (by simp) (Nat.le_refl _) (by unfold maxLen; omega), HB.out⟩
noncomputable def negF (f : RawF) : Rat := -(fixQ f)
theorem negated_calls (w : World) (v : Value) (fs : List RawF) (h : FL w v fs) (hl : fs.length ≤ 1000000000) : Calls Try.prog 41 #[v] w fun e w' => LPost w (fs.map negF) e w' := by
 obtain ⟨A, c, rfl, hc⟩ := h.slice
 have HF := Hd h
 clear h
 go_enter Try.func41, Try.ntmps41
 have hmk := run_make3 23 40 _ Try.underlying23 info40m fs.length (by omega)
 go_wp2_with fail
 clear hmk
 have hr0 := Row3.made (E := EFQ) w 40 fs.length #[.bool false, .slice none 0 0, .slice none 0 0] rfl ni40
 have hb0 := below_new w (.cells (madeCells #[.bool false, .slice none 0 0, .slice none 0 0] (fs.length * 3)) 40)
 generalize w.alloc (.cells (madeCells #[.bool false, .slice none 0 0, .slice none 0 0] (fs.length * 3)) 40) = W0 at *
 go_loopw [11] (fun vi wr => ∃ i : Nat, i ≤ fs.length ∧ vi = .int .i64 (i : Int) ∧ Row3 40 EFQ wr w.heap.size fs.length ((fs.take i).map negF) ∧ Below w.heap.size w wr) (fun vi _ => fs.length - (intOf vi).toNat)
 case atStart => exact ⟨0, Nat.zero_le _, rfl, hr0, hb0⟩
 case round =>
  obtain ⟨i, hi, rfl, hrow, hb⟩ := hrel
  have HRW := Hd hrow
  have HB := Hd hb
  clear hrow hb hr0 hb0
  by_cases hlt : i < fs.length
  ·obtain ⟨f, hf⟩ : ∃ f, fs[i]? = some f := ⟨fs[i], List.getElem?_eq_getElem hlt⟩
   obtain ⟨g, o, A1, n1, c1, A2, n2, c2, rfl, hg, k0, k1, k2, HE⟩ := FL.at3 (HF.out.below EF.stays HB.out) hf
   have HFI := Hd hf
   clear hf
   have m1 : (i : Int) < (fs.length : Int) := by omega
   have m3 : (i : Int).toNat = i := by omega
   have m4 : (0 : Int) ≤ (i : Int) := by omega
   go_wp2_with fail
   have hb1 := below_new wr (.cells #[.bool f.neg, .slice A1 n1 c1, .slice A2 n2 c2] 40)
   refine (fneg_calls _ _ f (HE.out.of_below hb1)).mono ?_
   rintro e w2 ⟨v, rfl, hv, hb2⟩
   obtain ⟨A5, n5, c5, A6, n6, c6, rfl, HV⟩ := hv.opened
   have HRW2 := Hd (HRW.out.below EFQ.stays (below_next hb1 hb2))
   have HB2 := Hd (below_next HB.out (below_next hb1 hb2))
   clear hv hb1 hb2
   obtain ⟨a, b, d, e0, e1, e2, f0, f1, f2⟩ := HRW2.out.cells i hlt
   go_wp2_with fail
   go_roundw
   case rel =>
    have hlen : ((fs.take i).map negF).length = i := by rw [List.length_map, List.length_take, Nat.min_eq_left hi]
    exact sq39 _
   case measure => simp [intOf]; omega
  ·obtain rfl : i = fs.length := by omega
   go_wp2_with fail
   go_ret
   rw [List.take_length] at HRW
   exact ⟨_, rfl, Row3.own HRW.out (by simp) (Nat.le_refl _) (by unfold maxLen; omega), HB.out⟩
theorem below_none {B : Nat} {w W W' : World} {row : Option Nat} (h : Below B w W) (hg : W.grownBy W' row) (hr : ∀ k, row = some k → B ≤ k) (hB : B ≤ w.heap.size := by exact Nat.le_refl _) : Below B w W' :=
 ⟨hg.os.trans h.os, hg.tape.trans h.tape, hg.output.trans h.output, Nat.le_trans h.size hg.size, fun k hk => (hg.block k (by have := h.size; omega) (fun e => by have := hr k e.symm; omega)).trans (h.block k hk)⟩
def Chg (base t : Nat) (w w1 : World) : Prop := Keeps w w1 ∧ ∀ k, k < w.heap.size → (k < base ∨ ∀ cs, ¬ Blk w k t cs) → w1.heap[k]? = w.heap[k]?
theorem Chg.of_below {base t : Nat} {w w1 : World} (h : Below w.heap.size w w1) : Chg base t w w1 := ⟨Keeps.of_below h, fun k hk _ => h.block k hk⟩
theorem Chg.trans {base t : Nat} {a b c : World} (h : Chg base t a b) (h2 : Chg base t b c) : Chg base t a c := ⟨h.1.trans h2.1, fun k hk ho => by
 have e1 := h.2 k hk ho
 refine (h2.2 k (Nat.lt_of_lt_of_le hk h.1.1) ?_).trans e1
 rcases ho with h3 | h3
 ·exact .inl h3
 ·exact .inr fun cs hb => h3 cs (e1.symm.trans hb)⟩
theorem Chg.own {base t g : Nat} {w w1 : World} {cs : Array Value} (hb : Blk w g t cs) (hg : base ≤ g) (hk : Keeps w w1) (ho : ∀ k, k < w.heap.size → k ≠ g → w1.heap[k]? = w.heap[k]?) : Chg base t w w1 := ⟨hk, fun k hkl h => ho k hkl (by
 rintro rfl
 rcases h with h | h
 ·omega
 ·exact h cs hb)⟩
theorem OwnR.chg {base t e k : Nat} {w w1 : World} {v : Value} {n : Nat} {xs : List Value} (h : OwnR w base e k v n xs) (hc : Chg base t w w1) (hne : e ≠ t) : OwnR w1 base e k v n xs := by
 refine h.move fun g hg => hc.2 g (h.lt g hg).2 (.inr fun cs hb => ?_)
 rcases h.2 with ⟨rfl, _⟩ | ⟨g', cap, cur, rfl, _, hk, _⟩
 ·simp [Value.ownBlock] at hg
 ·simp [Value.ownBlock] at hg
  subst hg
  have := hk.symm.trans hb
  injection this with this
  injection this with _ h2
  exact hne h2
theorem OwnR.changes {base t k : Nat} {w w1 : World} {v : Value} {n : Nat} {xs : List Value} (h : OwnR w base t k v n xs) (hg : w.grownBy w1 v.ownBlock) (hk : Keeps w w1) : Chg base t w w1 := by
 rcases h.2 with ⟨rfl, _⟩ | ⟨g', cap, cur, rfl, hb, hbl, _⟩
 ·exact ⟨hk, fun k hkl _ => hg.block k hkl (by simp [Value.ownBlock])⟩
 ·exact Chg.own hbl hb hk fun k hkl hne => hg.block k hkl (by simp [Value.ownBlock]; exact hne)
theorem HS.chg {base t : Nat} {w W W1 : World} {bs : List (Nat × Nat × Array Value)} (h : HS w bs W) (hc : Chg base t W W1) (hb : ∀ b ∈ bs, b.2.1 ≠ t) (hbase : base = w.heap.size) (hw : W.os = W1.os ∧ W.tape = W1.tape ∧ W.output = W1.output) : HS w bs W1 := by
 subst hbase
 refine ⟨fun b hm => (hc.2 b.1 (h.1 b hm).lt (.inr fun cs hbl => ?_)).trans (h.1 b hm), ⟨hw.1.symm.trans h.2.os, hw.2.1.symm.trans h.2.tape, hw.2.2.symm.trans h.2.output, Nat.le_trans h.2.size hc.1.1, fun k hk => (hc.2 k (Nat.lt_of_lt_of_le hk h.2.size) (.inl hk)).trans (h.2.block k hk)⟩⟩
 have := (h.1 b hm).symm.trans hbl
 injection this with this
 injection this with _ h2
 exact hb b hm h2
def LeansT {α : Type} (base t : Nat) (E : World → Array Value → α → Prop) : Prop := ∀ w w1 vs x, E w vs x → Chg base t w w1 → E w1 vs x
theorem QO.chg {base t : Nat} {w w1 : World} {v : Value} {qs : List Rat} (h : QO base w v qs) (hc : Chg base t w w1) (hne : 40 ≠ t) : QO base w1 v qs := by
 obtain ⟨xs, h1, h2⟩ := h
 refine ⟨xs, h1.chg hc hne, fun j a hj => ?_⟩
 obtain ⟨vs, h3, h4, h5⟩ := h2 j a hj
 exact ⟨vs, h3, h4, EFQ.leans _ _ _ _ h5 hc.1⟩
structure RowQ where
 a : List Rat
 s : Int
 b : Rat
structure ProgQ where
 vars : Int
 free : List Bool
 goal : List Rat
 rows : List RowQ
def ERO (base : Nat) (w : World) (vs : Array Value) (r : RowQ) : Prop := ∃ v A1 n1 c1 A2 n2 c2, vs = #[v, .int .i64 r.s, .bool (negQ r.b), .slice A1 n1 c1, .slice A2 n2 c2] ∧ I64 r.s ∧ QO base w v r.a ∧ FQ w (.agg #[.bool (negQ r.b), .slice A1 n1 c1, .slice A2 n2 c2]) r.b
theorem ERO.stays {base : Nat} : Stays (ERO base) := fun _ _ _ _ h hb => by
 obtain ⟨v, A1, n1, c1, A2, n2, c2, e, hs, h1, h2⟩ := h
 exact ⟨v, A1, n1, c1, A2, n2, c2, e, hs, h1.below EFQ.stays hb, h2.of_below hb⟩
theorem ERO.leans {base t : Nat} (hne : 40 ≠ t) : LeansT base t (ERO base) := fun _ _ _ _ h hc => by
 obtain ⟨v, A1, n1, c1, A2, n2, c2, e, hs, h1, h2⟩ := h
 exact ⟨v, A1, n1, c1, A2, n2, c2, e, hs, h1.chg hc hne, h2.keeps hc.1⟩
abbrev RO (base : Nat) (w : World) (v : Value) (rs : List RowQ) : Prop := OL 5 65 (ERO base) base w v rs
theorem RO.chg {base t : Nat} {w w1 : World} {v : Value} {rs : List RowQ} (h : RO base w v rs) (hc : Chg base t w w1) (hne : 40 ≠ t) (hne2 : 65 ≠ t) : RO base w1 v rs := by
 obtain ⟨xs, h1, h2⟩ := h
 refine ⟨xs, h1.chg hc hne2, fun j a hj => ?_⟩
 obtain ⟨vs, h3, h4, h5⟩ := h2 j a hj
 exact ⟨vs, h3, h4, ERO.leans hne _ _ _ _ h5 hc⟩
def FrO (base : Nat) (w : World) (v : Value) (bs : List Bool) : Prop := BL w v bs ∧ ∀ g, v.ownBlock = some g → 0 < bs.length → g < base ∨ ∃ cs, Blk w g 4 cs
theorem FrO.below {base : Nat} {w w1 : World} {v : Value} {bs : List Bool} (h : FrO base w v bs) (hb : Below w.heap.size w w1) : FrO base w1 v bs := ⟨h.1.below EB.stays hb, fun g hg hp => by
 rcases h.2 g hg hp with h1 | ⟨cs, h1⟩
 ·exact .inl h1
 ·exact .inr ⟨cs, h1.below hb h1.lt⟩⟩
theorem FrO.chg {bf base t : Nat} {w w1 : World} {v : Value} {bs : List Bool} (h : FrO bf w v bs) (hc : Chg base t w w1) (hne : 4 ≠ t) (hbf : bf ≤ base := by first | exact Nat.zero_le _ | exact Nat.le_refl _) : FrO bf w1 v bs := by
 obtain ⟨⟨A, c, rfl, hcl, hr⟩, ho⟩ := h
 have key : ∀ g o, A = some ⟨g, o, none⟩ → 0 < bs.length → g < w.heap.size → w1.heap[g]? = w.heap[g]? := fun g o hA hp hg => hc.2 g hg (by
  rcases ho g (by rw [hA]; rfl) hp with h1 | ⟨cs, h1⟩
  ·exact .inl (Nat.lt_of_lt_of_le h1 hbf)
  ·refine .inr fun cs' hb => ?_
   have := h1.symm.trans hb
   injection this with this
   injection this with _ h2
   exact hne h2)
 refine ⟨⟨A, c, rfl, hcl, fun hp => ?_⟩, fun g hg hp => ?_⟩
 ·obtain ⟨g, o, hA, hg, he⟩ := hr hp
  refine ⟨g, o, hA, Nat.lt_of_lt_of_le hg hc.1.1, fun j x hj => ?_⟩
  obtain ⟨vs, h1, h2, h3⟩ := he j x hj
  exact ⟨vs, h1, fun i u hi => (World.cell?_of_block (a := ⟨g, _, none⟩) (key g o hA hp hg)).trans (h2 i u hi), h3⟩
 ·rcases ho g hg hp with h1 | ⟨cs, h1⟩
  ·exact .inl h1
  ·refine .inr ⟨cs, ?_⟩
   obtain ⟨g', o, hA, hg', _⟩ := hr hp
   have e : g = g' := by rw [hA] at hg; simp [Value.ownBlock] at hg; exact hg.symm
   subst e
   exact (key g o hA hp hg').trans h1
def PO (base : Nat) (w : World) (v : Value) (p : ProgQ) : Prop := ∃ v1 v2 v3, v = .agg #[.int .i64 p.vars, v1, v2, v3] ∧ I64 p.vars ∧ FrO base w v1 p.free ∧ QO base w v2 p.goal ∧ RO base w v3 p.rows
theorem PO.below {base : Nat} {w w1 : World} {v : Value} {p : ProgQ} (h : PO base w v p) (hb : Below w.heap.size w w1) : PO base w1 v p := by
 obtain ⟨v1, v2, v3, e, hv, h1, h2, h3⟩ := h
 exact ⟨v1, v2, v3, e, hv, h1.below hb, h2.below EFQ.stays hb, h3.below ERO.stays hb⟩
theorem PO.chg {base t : Nat} {w w1 : World} {v : Value} {p : ProgQ} (h : PO base w v p) (hc : Chg base t w w1) (h4 : 4 ≠ t) (h40 : 40 ≠ t) (h65 : 65 ≠ t) : PO base w1 v p := by
 obtain ⟨v1, v2, v3, e, hv, h1, h2, h3⟩ := h
 exact ⟨v1, v2, v3, e, hv, h1.chg hc h4, h2.chg hc h40, h3.chg hc h40 h65⟩
theorem FrO.raise {b b' : Nat} {w : World} {v : Value} {bs : List Bool} (h : FrO b w v bs) (hb : b ≤ b') : FrO b' w v bs := ⟨h.1, fun g hg hp => by
 rcases h.2 g hg hp with h1 | h1
 ·exact .inl (Nat.lt_of_lt_of_le h1 hb)
 ·exact .inr h1⟩
def CPost (w : World) (p : ProgQ) (e : Ending) (w' : World) : Prop := ∃ v1 v2 v3, e = .returned (.agg #[.int .i64 p.vars, v1, v2, v3]) ∧ FrO 0 w' v1 p.free ∧ QO w.heap.size w' v2 p.goal ∧ RO w.heap.size w' v3 p.rows ∧ Below w.heap.size w w'
noncomputable def cleanR (r : RowF) : RowQ := ⟨r.a.map fixQ, r.s, fixQ r.b⟩
noncomputable def cleanQ (p : ProgF) : ProgQ := ⟨p.vars, p.free, p.goal.map fixQ, p.rows.map cleanR⟩
def zeroR : Value := .agg #[.slice none 0 0, .int .i64 0, .bool false, .slice none 0 0, .slice none 0 0]
theorem info65 : (Try.prog.info? 65).map (fun i => (i.zero, i.size, i.bytes)) = some (some zeroR, 5, 88) := by kernel_rfl
theorem info26s : (Try.prog.info? 26).map (·.size) = some 4 := by kernel_rfl
theorem info4 : (Try.prog.info? 4).map (fun i => (i.zero, i.size, i.bytes)) = some (some (.bool false), 1, 1) := by kernel_rfl
theorem zeroR_words : ∀ u ∈ zeroR.cells, notWord u = true := by simp [zeroR, Value.cells, notWord]
theorem row_one {v : Value} {s : Int} {b : Bool} {A0 A1 A2 : Option Addr} {n0 c0 n1 c1 n2 c2 : Nat} (hv : v = .slice A0 n0 c0) : ∀ u ∈ [v, .int .i64 s, .bool b, .slice A1 n1 c1, .slice A2 n2 c2], u.oneCell' = true := by
 subst hv
 intro u hu
 simp only [List.mem_cons, List.not_mem_nil, or_false] at hu
 rcases hu with rfl | rfl | rfl | rfl | rfl <;> rfl
theorem row_word {v : Value} {s : Int} {b : Bool} {A0 A1 A2 : Option Addr} {n0 c0 n1 c1 n2 c2 : Nat} (hv : v = .slice A0 n0 c0) : ∀ u ∈ [v, .int .i64 s, .bool b, .slice A1 n1 c1, .slice A2 n2 c2], notWord u = true := by
 subst hv
 intro u hu
 simp only [List.mem_cons, List.not_mem_nil, or_false] at hu
 rcases hu with rfl | rfl | rfl | rfl | rfl <;> rfl
theorem OL.pushT {α : Type} {k e : Nat} {E : World → Array Value → α → Prop} {base : Nat} {w w1 : World} {v v' : Value} {ys : List α} {vs : Array Value} {b : α} {xs : List Value} (hE : LeansT base e E) (h1 : OwnR w base e k v ys.length xs) (h2 : ∀ j a, ys[j]? = some a → ∃ vs : Array Value, vs.size = k ∧ (∀ i u, vs[i]? = some u → xs[j * k + i]? = some u) ∧ E w vs a)
  (hv : vs.size = k) (hb : E w vs b) (hk : Chg base e w w1) (hown : OwnR w1 base e k v' (ys.length + 1) (xs ++ vs.toList)) : OL k e E base w1 v' (ys ++ [b]) := by
 refine ⟨xs ++ vs.toList, by rw [List.length_append]; exact hown, fun j a hj => ?_⟩
 exact sq41 _
theorem wpl_appendR5 {ops : Array Oper} {rest : List Oper} {o : Oper} {a : Act} {Q : Exit → Act → World → Prop} {W : World} (hgd : o.guard = none) (s x : Operand) (ho : o.op = .call { callee := .builtin .append, args := #[s, x], argTypes := #[24, 24] }) {base : Nat}
  (v : Value) (rs : List RowQ) (hs : a.eval s = v) (hown : RO base W v rs) {g : Nat} {sn : Int} {b : Bool} {A0 A1 A2 : Option Addr} {n0 c0 n1 c1 n2 c2 : Nat} (r : RowQ) (hx : a.eval x = .slice (some ⟨g, 0, none⟩) 1 1) (hk : Blk W g 65 #[.slice A0 n0 c0, .int .i64 sn, .bool b, .slice A1 n1 c1, .slice A2 n2 c2]) (hf : ERO base W #[.slice A0 n0 c0, .int .i64 sn, .bool b, .slice A1 n1 c1, .slice A2 n2 c2] r)
  (hl : rs.length ≤ 1000000000) (hbase : base ≤ W.heap.size)
  (h : ∀ v' w', RO base w' v' (rs ++ [r]) → Chg base 65 W w' → (W.os = w'.os ∧ W.tape = w'.tape ∧ W.output = w'.output) → (∀ g, v'.ownBlock = some g → base ≤ g) → wpList Try.prog ops Q rest (a.put o.dst v') w') : wpList Try.prog ops Q (o :: rest) a W := by
 obtain ⟨xs, h1, h2⟩ := hown
 refine wpl_appendR hgd s x 24 ho (base := base) zeroR 88 Try.underlying24 info65 rfl zeroR_words v rs.length xs hs h1 ⟨g, 0, none⟩ 1 1 [.slice A0 n0 c0, .int .i64 sn, .bool b, .slice A1 n1 c1, .slice A2 n2 c2] hx rfl (lit_cells hk) (row_one rfl) (row_word rfl) (by decide) (by omega) (by omega) hbase fun v' w' h3 h4 h5 h6 => h v' w' ?_ (h1.changes h4 h5) ⟨h4.os.symm, h4.tape.symm, h4.output.symm⟩ (fun g hg => (h3.lt g hg).1)
 exact OL.pushT (ERO.leans (by decide)) (k := 5) (e := 65) (vs := #[.slice A0 n0 c0, .int .i64 sn, .bool b, .slice A1 n1 c1, .slice A2 n2 c2]) h1 h2 rfl hf (h1.changes h4 h5) h3
theorem OwnR.lower {w : World} {base base' e k : Nat} {v : Value} {n : Nat} {xs : List Value} (h : OwnR w base e k v n xs) (hb : base' ≤ base) : OwnR w base' e k v n xs := by
 obtain ⟨hl, h⟩ := h
 refine ⟨hl, ?_⟩
 rcases h with h | ⟨g, cap, cur, e1, h1, h2⟩
 ·exact .inl h
 ·exact .inr ⟨g, cap, cur, e1, by omega, h2⟩
theorem QO.lower {w : World} {base base' : Nat} {v : Value} {qs : List Rat} (h : QO base w v qs) (hb : base' ≤ base) : QO base' w v qs := by
 obtain ⟨xs, h1, h2⟩ := h
 exact ⟨xs, h1.lower hb, h2⟩
theorem Blk.put4 {w : World} {g t : Nat} {a b c d : Value} (h : Blk w g t #[a, b, c, d]) (x y z u : Value) : Blk ((((w.setCell ⟨g, 0, none⟩ x).setCell ⟨g, 1, none⟩ y).setCell ⟨g, 2, none⟩ z).setCell ⟨g, 3, none⟩ u) g t #[x, y, z, u] :=
 (((h.put 0 x).put 1 y).put 2 z).put 3 u
theorem below_put4 {B : Nat} {w w1 : World} (h : Below B w w1) {g : Nat} (ha : B ≤ g) (x y z u : Value) : Below B w ((((w1.setCell ⟨g, 0, none⟩ x).setCell ⟨g, 1, none⟩ y).setCell ⟨g, 2, none⟩ z).setCell ⟨g, 3, none⟩ u) :=
 Below.setCell (below_put3 h ha x y z) (p := ⟨g, 3, none⟩) ha u
theorem Blk.f4 {W : World} {g t : Nat} {cs : Array Value} (h : Blk W g t cs) : W.frozen? ⟨g, 0, none⟩ = false ∧ W.frozen? ⟨g, 1, none⟩ = false ∧ W.frozen? ⟨g, 2, none⟩ = false ∧ W.frozen? ⟨g, 3, none⟩ = false := ⟨h.frozen 0, h.frozen 1, h.frozen 2, h.frozen 3⟩
theorem Blk.c4 {W : World} {g t : Nat} {a b c d : Value} (h : Blk W g t #[a, b, c, d]) : W.cell? ⟨g, 0, none⟩ = some a ∧ W.cell? ⟨g, 1, none⟩ = some b ∧ W.cell? ⟨g, 2, none⟩ = some c ∧ W.cell? ⟨g, 3, none⟩ = some d := ⟨h.cell rfl, h.cell rfl, h.cell rfl, h.cell rfl⟩
theorem HS.other1 {w W : World} {bs : List (Nat × Nat × Array Value)} {g : Nat} (h : HS w bs W) (hg : w.heap.size ≤ g) (hne : ∀ b ∈ bs, b.1 ≠ g) (j : Nat) (x : Value) : HS w bs (W.setCell ⟨g, j, none⟩ x) :=
 ⟨fun b hm => (h.1 b hm).other (a := ⟨g, j, none⟩) (hne b hm) x, Below.setCell h.2 (p := ⟨g, j, none⟩) hg x⟩
theorem HS.other4 {w W : World} {bs : List (Nat × Nat × Array Value)} {g : Nat} (h : HS w bs W) (hg : w.heap.size ≤ g) (hne : ∀ b ∈ bs, b.1 ≠ g) (x y z u : Value) : HS w bs ((((W.setCell ⟨g, 0, none⟩ x).setCell ⟨g, 1, none⟩ y).setCell ⟨g, 2, none⟩ z).setCell ⟨g, 3, none⟩ u) :=
 (((h.other1 hg hne 0 x).other1 hg hne 1 y).other1 hg hne 2 z).other1 hg hne 3 u
theorem chg_put4 {base g t : Nat} {w : World} {a b c d : Value} (h : Blk w g t #[a, b, c, d]) (hg : base ≤ g) (hn : ∀ u ∈ #[a, b, c, d], notWord u = true) (x y z u : Value) : Chg base t w ((((w.setCell ⟨g, 0, none⟩ x).setCell ⟨g, 1, none⟩ y).setCell ⟨g, 2, none⟩ z).setCell ⟨g, 3, none⟩ u) := by
 have ho : ∀ k, k < w.heap.size → k ≠ g → ((((w.setCell ⟨g, 0, none⟩ x).setCell ⟨g, 1, none⟩ y).setCell ⟨g, 2, none⟩ z).setCell ⟨g, 3, none⟩ u).heap[k]? = w.heap[k]? := fun k _ hk => by
  rw [Below.heap_setCell _ _ _ k hk, Below.heap_setCell _ _ _ k hk, Below.heap_setCell _ _ _ k hk, Below.heap_setCell _ _ _ k hk]
 exact Chg.own h hg (Keeps.apart h hn (by simp [World.setCell]) ho) ho
theorem chg_put1 {base g t j : Nat} {w : World} {cs : Array Value} (h : Blk w g t cs) (hg : base ≤ g) (hn : ∀ u ∈ cs, notWord u = true) (x : Value) : Chg base t w (w.setCell ⟨g, j, none⟩ x) := by
 have ho : ∀ k, k < w.heap.size → k ≠ g → (w.setCell ⟨g, j, none⟩ x).heap[k]? = w.heap[k]? := fun k _ hk => Below.heap_setCell _ _ _ k hk
 exact Chg.own h hg (Keeps.apart h hn (by simp [World.setCell]) ho) ho
theorem Blk.chg {base t t' g : Nat} {w w1 : World} {cs : Array Value} (h : Blk w g t' cs) (hc : Chg base t w w1) (hne : t' ≠ t) : Blk w1 g t' cs :=
 (hc.2 g h.lt (.inr fun cs' hb => by
  have := h.symm.trans hb
  injection this with this
  injection this with _ h2
  exact hne h2)).trans h
theorem prog_words {n : Int} {A1 A2 A3 : Option Addr} {n1 c1 n2 c2 n3 c3 : Nat} : ∀ u ∈ #[Value.int .i64 n, .slice A1 n1 c1, .slice A2 n2 c2, .slice A3 n3 c3], notWord u = true := by
 intro u hu
 simp only [List.mem_toArray, List.mem_cons, List.not_mem_nil, or_false] at hu
 rcases hu with rfl | rfl | rfl | rfl <;> rfl
theorem ret26 {fn : Func} {p : Tmp} {Post : Ending → World → Prop} {tmps : Array Value} {w : World} {g : Nat} {a b c d : Value} (hres : fn.results = #[.cell p 26]) (hp : tmps.getD p undef = .pointer (some ⟨g, 0, none⟩)) (hb : Blk w g 26 #[a, b, c, d])
  (hP : Post (.returned (.agg #[a, b, c, d])) w) : bodyPost Try.prog fn Post Exit.ret { tmps := tmps, defers := [] } w :=
 bodyPost_ret (v := .agg #[a, b, c, d]) (results_cell_row hres _ _ g 26 #[a, b, c, d] (0, 0) _ hp hb Try.underlying26 rfl info26s) rfl hP
theorem append_bools {base : Nat} {w : World} {A : Option Addr} {n c : Nat} {bs : List Bool} (h : BL w (.slice A n c) bs) (hl : bs.length ≤ 1000000) (hb : base ≤ w.heap.size) :
  ∃ v' w', (Builtin.append_ #[22, 22] 22 #[.slice none 0 0, .slice A n c]).run Try.prog w = .ok v' w' ∧ FrO base w' v' bs ∧ Below w.heap.size w w' := by
 obtain ⟨A', c', e, hc, hr⟩ := h
 injection e with e1 e2 e3
 subst e1 e2 e3
 obtain ⟨i, hi, hzz⟩ := Option.map_eq_some_iff.1 info4
 simp only [Prod.mk.injEq] at hzz
 obtain ⟨hz, hsz, hby⟩ := hzz
 by_cases h0 : bs.length = 0
 ·have hnil : bs = [] := List.eq_nil_of_length_eq_zero h0
  subst hnil
  have hsrc : Src Try.prog i.size 22 (.slice A 0 c) 0 [] w := by
   cases A with
   | none => exact Src.ofNil w Try.underlying22 c
   | some a => exact Src.ofSlice w Try.underlying22 a 0 c [] (by simp) (fun j u hu => by simp at hu) (fun u hu => by cases hu)
  exact ⟨_, w, run_append_nothing w 22 22 22 4 i Try.underlying22 hi none 0 0 (Nat.le_refl _) _ hsrc, ⟨⟨none, 0, rfl, Nat.le_refl _, fun hp => absurd hp (by simp)⟩, fun g hg _ => by simp [Value.ownBlock] at hg⟩, Below.refl _ _⟩
 ·obtain ⟨g, o, rfl, hg, he⟩ := hr (by omega)
  have hcell : ∀ j u, (bs.map Value.bool)[j]? = some u → w.cell? ((⟨g, o, none⟩ : Addr).add j) = some u := fun j u hu => by
   rw [List.getElem?_map] at hu
   obtain ⟨b, hb, rfl⟩ := Option.map_eq_some_iff.1 hu
   obtain ⟨vs, _, h2, rfl⟩ := he j b hb
   have := h2 0 _ rfl
   rw [Nat.mul_one, Nat.add_zero] at this
   rw [add_at']
   exact this
  obtain ⟨v', w', hrun, hown, hgr, hk, hob⟩ := (OwnR.nil w w.heap.size 4 1).append (P := Try.prog) 22 22 (.bool false) 1 Try.underlying22 info4 rfl (by simp [Value.cells, notWord]) ⟨g, o, none⟩ bs.length c (bs.map Value.bool) (by simp) hcell (fun u hu => by obtain ⟨b, _, rfl⟩ := List.mem_map.1 hu; rfl) (fun u hu => by obtain ⟨b, _, rfl⟩ := List.mem_map.1 hu; rfl) (by omega) (by omega) (by omega) (Nat.le_refl _)
  refine ⟨v', w', hrun, ?_, ⟨hgr.os, hgr.tape, hgr.output, hgr.size, fun k hk => hgr.block k hk (by simp [Value.ownBlock])⟩⟩
  rw [Nat.zero_add, List.nil_append] at hown
  rcases hown.2 with ⟨_, h1⟩ | ⟨g', cap, cur, rfl, hb', hbl, hnc, hcm, hcs, htake, hw⟩
  ·exact absurd h1 h0
  ·refine ⟨⟨some ⟨g', 0, none⟩, cap, rfl, hnc, fun hp => ⟨g', 0, rfl, hbl.lt, fun j x hj => ⟨#[.bool x], rfl, fun i u hi => ?_, rfl⟩⟩⟩, fun q hq _ => .inr ⟨cur, by simp [Value.ownBlock] at hq; subst hq; exact hbl⟩⟩
   have hi0 : i = 0 := by
    have := (Array.getElem?_eq_some_iff.1 hi).1
    simp at this
    exact this
   subst hi0
   have hu : u = .bool x := by simpa using hi.symm
   subst hu
   rw [Nat.zero_add, Nat.mul_one, Nat.add_zero]
   refine hbl.cell ?_
   have h6 : (bs.map Value.bool)[j]? = some (.bool x) := by rw [List.getElem?_map, hj]; rfl
   rw [← htake, List.getElem?_take] at h6
   split at h6
   ·simpa using h6
   ·cases h6
theorem wpl_append_bools {ops : Array Oper} {rest : List Oper} {o : Oper} {a : Act} {Q : Exit → Act → World → Prop} {W : World} (hgd : o.guard = none) (s x : Operand) (ho : o.op = .call { callee := .builtin .append, args := #[s, x], argTypes := #[22, 22] }) (hty : o.type = 22) {base : Nat}
  (hs : a.eval s = .slice none 0 0) {A : Option Addr} {n c : Nat} (bs : List Bool) (hx : a.eval x = .slice A n c) (hbl : BL W (.slice A n c) bs) (hl : bs.length ≤ 1000000) (hbase : base ≤ W.heap.size)
  (h : ∀ v' w', FrO base w' v' bs → Below W.heap.size W w' → wpList Try.prog ops Q rest (a.put o.dst v') w') : wpList Try.prog ops Q (o :: rest) a W :=
 wpList_plain hgd fun K hK => by
  obtain ⟨v', w', hr, h2, h3⟩ := append_bools hbl hl hbase
  unfold Oper.wp execOp
  simp only [ho, hty, resolve, invoke, builtin, Sem.run_bind, Sem.run_pure, Result.andThen_ok, List.map_toArray, List.map_cons, List.map_nil, hs, hx, hr]
  exact hK _ _ (h v' w' h2 h3)
theorem sq2 (P : Prop) (h : P := by
 clear i0 i1 i2 i3 g0 g1 g2 g3 hltq hcg
 clear D0 E0 hz0
 clear D1 E1 hz1
 clear D2 E2 hz2
 clear D3 E3 hz3
 clear H0 hsz1 l0 x0 x1 x2 x3
 obtain ⟨x0, x1, x2, x3⟩ := HSc.out.c4 1 rfl
 have hltp := (HSc.out.blk 1 rfl).lt
 obtain ⟨qg, hqg⟩ : ∃ q, q = p.goal.map fixQ := ⟨_, rfl⟩
 rw [← hqg] at HQc
 have HQG := Hd hqg
 obtain ⟨rq, hrq⟩ : ∃ q, q = p.rows.map cleanR := ⟨_, rfl⟩
 have HRQ := Hd hrq
 clear hqg hrq
 go_wp2_with fail
 clear x0 x1 x2 x3
 go_loopw [18] (fun vi wr => ∃ i : Nat, i ≤ p.rows.length ∧ vi = .int .i64 (i : Int) ∧ (∃ A5 c5, Blk wr gq 26 #[.int .i64 vars, .slice B1 p.free.length d1, .slice B2 p.goal.length d2, .slice A5 i c5] ∧ RO w.heap.size wr (.slice A5 i c5) (rq.take i)) ∧ FrO 0 wr (.slice B1 p.free.length d1) p.free ∧ QO w.heap.size wr (.slice B2 p.goal.length d2) qg ∧ w.heap.size + 2 ≤ wr.heap.size ∧ HS w [(w.heap.size + 1, 26, #[.int .i64 0, .slice none 0 0, .slice none 0 0, .slice none 0 0]), (w.heap.size, 26, #[.int .i64 vars, .slice A1 p.free.length c1, .slice A2 p.goal.length c2, .slice A3 p.rows.length c3])] wr) (fun vi _ => p.rows.length - (intOf vi).toNat)
 case atStart => exact ⟨0, Nat.zero_le _, rfl, ⟨none, 0, HBc.out, OL.nil _ _ _ _ _⟩, HFc.out, HQc.out, hszc, HSc.out⟩
 case round =>
  obtain ⟨i, hi, rfl, ⟨A5, c5, hbq, hro⟩, hfr, hqo, hsz2, hs⟩ := hrel
  have HBQ := Hd hbq
  have HRO := Hd hro
  have HFR := Hd hfr
  have HQO := Hd hqo
  have HK := Hd hs
  clear hbq hro hfr hqo hs HBc HFc HQc HSc hszc hltp
  by_cases hlt : i < p.rows.length
  ·obtain ⟨r, hr'⟩ : ∃ r, p.rows[i]? = some r := ⟨p.rows[i], List.getElem?_eq_getElem hlt⟩
   obtain ⟨g1, o1, C1, e1, C2, n2, e2, C3, n3, e3, rfl, hg, k0, k1, k2, k3, k4, HIS, HRA, HRB⟩ := RL.at5 (H3.out.below ER.stays HK.out.2) hr'
   have hra : r.a.length ≤ 1000000000 := by have := HLA.out r (List.mem_of_getElem? hr'); omega
   have HNX : Hid (rq.take (i + 1) = rq.take i ++ [cleanR r]) := by
    unfold Hid
    rw [List.take_add_one, HRQ.out, List.getElem?_map, hr']
    rfl
   have hrl : (rq.take i).length ≤ 1000000000 := by rw [List.length_take]; omega
   have HRL : Hid ((rq.take (i + 1)).length = i + 1) := by unfold Hid; rw [List.length_take, HRQ.out, List.length_map]; omega
   have m1 : (i : Int) < (p.rows.length : Int) := by omega
   have m3 : (i : Int).toNat = i := by omega
   have m4 : (0 : Int) ≤ (i : Int) := by omega
   obtain ⟨s, hs⟩ : ∃ s, s = r.s := ⟨_, rfl⟩
   rw [← hs] at k1
   have HSE := Hd hs
   have hltq := HBQ.out.lt
   clear hr' hs
   go_wp2_with fail
   have HB1 := Hd (below_new wr (.cells #[.slice C1 r.a.length e1, .int .i64 s, .bool r.b.neg, .slice C2 n2 e2, .slice C3 n3 e3] 65))
   have HKB1 := Hd (Blk.new wr 65 #[.slice C1 r.a.length e1, .int .i64 s, .bool r.b.neg, .slice C2 n2 e2, .slice C3 n3 e3])
   obtain ⟨gr, hgr⟩ : ∃ gr, gr = wr.heap.size := ⟨_, rfl⟩
   rw [← hgr] at HKB1
   generalize wr.alloc (.cells #[.slice C1 r.a.length e1, .int .i64 s, .bool r.b.neg, .slice C2 n2 e2, .slice C3 n3 e3] 65) = W1 at *
   rw [← hgr]
   clear hgr k0 k1 k2 k3 k4
   have z0 := HKB1.out.cell (j := 0) rfl
   have z1 := HKB1.out.cell (j := 1) rfl
   have z2 := HKB1.out.cell (j := 2) rfl
   have z3 := HKB1.out.cell (j := 3) rfl
   have z4 := HKB1.out.cell (j := 4) rfl
   have hzl := HKB1.out.lt
   have HBQ1 := Hd (HBQ.out.below HB1.out HBQ.out.lt)
   obtain ⟨i0, i1, i2, i3⟩ := HBQ1.out.c4
   have hltq1 := HBQ1.out.lt
   have hsz3 : w.heap.size ≤ W1.heap.size := by have := HB1.out.size; omega
   refine wp_chainF (l := [_, _, _, _, _, _, _, _, _, _, _, _, _, _, _]) (S := Below W1.heap.size W1) 12 [([0, 1, 2, 3, 5, 6, 7, 8], 4), ([], 9), ([10], 11)] [] (by kernel_rfl) (by kernel_rfl) (by kernel_rfl) rfl (Below.drew (Below.refl _ _)) ?_
   refine ⟨?_, _, ?_, rfl, ?_⟩
   rotate_left
   ·repeat (refine pu ?_; (try simp only [SQ]))
    exact rfl
   have D0 : Hid (Below W1.heap.size W1 W1.drew) := Below.drew (Below.refl _ _)
   have F0 := Hd (below_next HB1.out D0.out)
   go_wp2_with fail
   refine (fixed_calls _ _ r.a (HRA.out.below EF.stays F0.out) hra).mono ?_
   rintro e W2 ⟨v2, rfl, hq, hb⟩
   have hq' := hq.lower (base' := w.heap.size) (Nat.le_trans hsz3 D0.out.size)
   obtain ⟨C4, e4, hv2, _⟩ := hq'.slice
   rw [List.length_map] at hv2
   subst hv2
   have HQ2 := Hd hq'
   have D2 := Hd (below_next D0.out hb)
   have F2 := Hd (below_next HB1.out D2.out)
   clear hq hq' hb
   go_wp2_with fail
   refine And.intro D2.out ⟨_, _, rfl, rfl, ?_⟩
   go_wp2_with fail
   refine (fix_calls _ _ r.b (HRB.out.of_below F2.out)).mono ?_
   rintro e W3 ⟨v3, rfl, hv, hb⟩
   obtain ⟨C5, n5, e5, C6, n6, e6, rfl, HV3⟩ := hv.opened
   have HQ3 := Hd (HQ2.out.below EFQ.stays hb)
   have D3 := Hd (below_next D2.out hb)
   clear hv hb
   go_wp2_with fail
   refine And.intro D3.out ⟨?_, _, ?_, rfl, ?_⟩
   rotate_left
   ·repeat (refine pu ?_; (try simp only [SQ]))
    exact rfl
   go_wp2_with fail
   have HL4 := Hd (Blk.new W3 65 #[.slice C4 r.a.length e4, .int .i64 s, .bool (negQ (fixQ r.b)), .slice C5 n5 e5, .slice C6 n6 e6])
   have hbn := below_new W3 (.cells #[.slice C4 r.a.length e4, .int .i64 s, .bool (negQ (fixQ r.b)), .slice C5 n5 e5, .slice C6 n6 e6] 65)
   have D4 := Hd (below_next D3.out hbn)
   have HQ4 := Hd (HQ3.out.below EFQ.stays hbn)
   have HV4 := Hd (HV3.out.of_below hbn)
   obtain ⟨gl, hgl⟩ : ∃ g, g = W3.heap.size := ⟨_, rfl⟩
   rw [← hgl] at HL4 ⊢
   generalize W3.alloc (.cells #[.slice C4 r.a.length e4, .int .i64 s, .bool (negQ (fixQ r.b)), .slice C5 n5 e5, .slice C6 n6 e6] 65) = W4 at *
   clear hgl hbn
   refine And.intro D4.out ⟨_, rfl, ?_⟩
   have F4 := Hd (below_next HB1.out D4.out)
   have HBQ4 := Hd (HBQ.out.below F4.out HBQ.out.lt)
   have HRO4 := Hd (HRO.out.below ERO.stays F4.out)
   have HFR4 := Hd (HFR.out.below F4.out)
   have HQO4 := Hd (HQO.out.below EFQ.stays F4.out)
   have HK4 := Hd (HK.out.step F4.out)
   have hbase4 : w.heap.size ≤ W4.heap.size := Nat.le_trans hsz3 D4.out.size
   have HER : Hid (ERO w.heap.size W4 #[.slice C4 r.a.length e4, .int .i64 s, .bool (negQ (fixQ r.b)), .slice C5 n5 e5, .slice C6 n6 e6] (cleanR r)) := ⟨_, _, _, _, _, _, _, by unfold cleanR; rw [HSE.out], HIS.out, HQ4.out, HV4.out⟩
   simp only [SQ, List.drop_succ_cons, List.drop_zero]
   clear i0 i1 i2 i3 z0 z1 z2 z3 z4
   go_wp2_with (at_builtin; refine wpl_appendR5 rfl (.tmp 23) (.tmp 33) rfl (base := w.heap.size) (.slice A5 i c5) (rq.take i) rfl HRO4.out (cleanR r) rfl HL4.out HER.out hrl hbase4 ?_; intro v6 W6 hro6 hcg6 hw6 hob6; obtain ⟨A6, c6, hv6, _⟩ := hro6.slice; rw [← HNX.out] at hro6 hv6; rw [HRL.out] at hv6; subst hv6; have HRO6 := Hd hro6; have HBQ6 := Hd (HBQ4.out.chg hcg6 (by decide)); have HFR6 := Hd (HFR4.out.chg hcg6 (by decide)); have HQO6 := Hd (QO.chg HQO4.out hcg6 (by decide)); have HK6 := Hd (HS.chg HK4.out hcg6 (by simp) rfl hw6); have hsz6 : w.heap.size + 2 ≤ W6.heap.size := (by have := hcg6.1.1; have := D4.out.size; have := HB1.out.size; omega); obtain ⟨i0, i1, i2, i3⟩ := HBQ6.out.c4; obtain ⟨f0, f1, f2, f3⟩ := HBQ6.out.f4; have hltq6 := HBQ6.out.lt; clear hro6 hcg6 hw6 hob6)
   refine NoPanic.normal ?_
   have hcp := chg_put1 (base := w.heap.size) (j := 3) HBQ6.out (by omega) prog_words (.slice A6 (i + 1) c6)
   have HX1 := Hd (HBQ6.out.put 3 (.slice A6 (i + 1) c6))
   have HX2 := Hd (RO.chg HRO6.out hcp (by decide) (by decide))
   have HX3 := Hd (HFR6.out.chg hcp (by decide))
   have HX4 := Hd (QO.chg HQO6.out hcp (by decide))
   have HX5 := Hd (HK6.out.other1 (g := gq) (by omega) (by simp; omega) 3 (.slice A6 (i + 1) c6))
   have hsz7 : w.heap.size + 2 ≤ (W6.setCell ⟨gq, 3, none⟩ (.slice A6 (i + 1) c6)).heap.size := by have := hcp.1.1; omega
   clear hcp
   go_wp2_with fail
   go_roundw
   case rel => exact ⟨i + 1, by omega, by go_num, ⟨A6, c6, HX1.out, HX2.out⟩, HX3.out, HX4.out, hsz7, HX5.out⟩
   case measure => simp [intOf]; omega
  ·obtain rfl : i = p.rows.length := by omega
   have hrt : rq.take p.rows.length = rq := List.take_of_length_le (by rw [HRQ.out, List.length_map]; exact Nat.le_refl _)
   rw [hrt] at HRO
   clear hrt
   obtain ⟨i0, i1, i2, i3⟩ := HBQ.out.c4
   have hltq := HBQ.out.lt
   obtain ⟨j0, j1, j2, j3⟩ := (HK.out.blk 0 rfl).c4
   obtain ⟨f0, f1, f2, f3⟩ := (HK.out.blk 0 rfl).f4
   have hlt0 := (HK.out.blk 0 rfl).lt
   go_wp2_with fail
   have hcg := chg_put4 (base := w.heap.size) (HK.out.blk 0 rfl) (by simp) prog_words (.int .i64 vars) (.slice B1 p.free.length d1) (.slice B2 p.goal.length d2) (.slice A5 p.rows.length c5)
   exact ret26 Try.results40 rfl ((HK.out.blk 0 rfl).put4 _ _ _ _) ⟨_, _, _, by unfold cleanQ; rw [HV.out], HFR.out.chg hcg (by decide), by show QO _ _ _ (p.goal.map fixQ); rw [← HQG.out]; exact QO.chg HQO.out hcg (by decide), by show RO _ _ _ (p.rows.map cleanR); rw [← HRQ.out]; exact RO.chg HRO.out hcg (by decide) (by decide), below_put4 HK.out.2 (by simp) _ _ _ _⟩) : P := h
theorem sq19 (P : Prop) (h : P := by
 obtain ⟨B2, d2, hv2, _⟩ := hq'.slice
 rw [List.length_map] at hv2
 subst hv2
 have HQ3 := Hd hq'
 clear hq hq' hbb
 go_wp2_with fail
 refine And.intro D3.out ⟨?_, ?_, ?_⟩
 rotate_left
 ·repeat (refine pu ?_; (try simp only [SQ]))
  exact rfl
 obtain ⟨i0, i1, i2, i3⟩ := HB3.out.c4
 obtain ⟨g0, g1, g2, g3⟩ := HB3.out.f4
 have hltq := HB3.out.lt
 go_wp2_with fail
 refine NoPanic.normal ?_
 have HBc := Hd (HB3.out.put4 (.int .i64 vars) (.slice B1 p.free.length d1) (.slice B2 p.goal.length d2) (.slice none 0 0))
 have hcg := chg_put4 (base := w.heap.size) HB3.out (by omega) prog_words (.int .i64 vars) (.slice B1 p.free.length d1) (.slice B2 p.goal.length d2) (.slice none 0 0)
 have HFc := Hd (HF3.out.chg hcg (by decide))
 have HQc := Hd (QO.chg HQ3.out hcg (by decide))
 have HSc := Hd (E3.out.other4 (g := gq) (by omega) (by simp; omega) (.int .i64 vars) (.slice B1 p.free.length d1) (.slice B2 p.goal.length d2) (.slice none 0 0))
 have hszc : w.heap.size + 2 ≤ ((((Wb.setCell ⟨gq, 0, none⟩ (.int .i64 vars)).setCell ⟨gq, 1, none⟩ (.slice B1 p.free.length d1)).setCell ⟨gq, 2, none⟩ (.slice B2 p.goal.length d2)).setCell ⟨gq, 3, none⟩ (.slice none 0 0)).heap.size := by have := hcg.1.1; omega
 generalize (((Wb.setCell ⟨gq, 0, none⟩ (.int .i64 vars)).setCell ⟨gq, 1, none⟩ (.slice B1 p.free.length d1)).setCell ⟨gq, 2, none⟩ (.slice B2 p.goal.length d2)).setCell ⟨gq, 3, none⟩ (.slice none 0 0) = Wc at *
 exact sq2 _) : P := h
theorem clean_calls (w : World) (v : Value) (p : ProgF) (h : PR w v p) (hlf : p.free.length ≤ 1000) (hlg : p.goal.length ≤ 1000) (hlr : p.rows.length ≤ 1000) (hla : ∀ r ∈ p.rows, r.a.length ≤ 1000) : Calls Try.prog 40 #[v] w fun e w' => CPost w (cleanQ p) e w' := by
 obtain ⟨A1, c1, A2, c2, A3, c3, rfl, HI, H1, H2, H3⟩ := h.opened
 clear h
 obtain ⟨vars, hv⟩ : ∃ n, n = p.vars := ⟨_, rfl⟩
 rw [← hv]
 have HV := Hd hv
 have HLA := Hd hla
 clear hv hla
 go_enter Try.func40, Try.ntmps40
 go_wp2_with fail
 have H0 := Hd (HS.two (w := w) #[.int .i64 vars, .slice A1 p.free.length c1, .slice A2 p.goal.length c2, .slice A3 p.rows.length c3] #[.int .i64 0, .slice none 0 0, .slice none 0 0, .slice none 0 0] 26 26)
 have hsz0 : ((w.alloc (.cells #[.int .i64 vars, .slice A1 p.free.length c1, .slice A2 p.goal.length c2, .slice A3 p.rows.length c3] 26)).alloc (.cells #[.int .i64 0, .slice none 0 0, .slice none 0 0, .slice none 0 0] 26)).heap.size = w.heap.size + 2 := by simp
 generalize (w.alloc (.cells #[.int .i64 vars, .slice A1 p.free.length c1, .slice A2 p.goal.length c2, .slice A3 p.rows.length c3] 26)).alloc (.cells #[.int .i64 0, .slice none 0 0, .slice none 0 0, .slice none 0 0] 26) = W0 at *
 have hsz1 : w.heap.size + 2 ≤ W0.heap.size := by omega
 clear hsz0
 obtain ⟨x0, x1, x2, x3⟩ := H0.out.c4 1 rfl
 have l0 := (H0.out.blk 1 rfl).lt
 have hlf' : p.free.length ≤ 1000000 := by omega
 have hlg' : p.goal.length ≤ 1000000000 := by omega
 refine wp_tree (l := [_, _, _, _, _, _, _, _, _, _, _]) (S := Below W0.heap.size W0) 10 (.two [0, 1, 2, 3, 5, 6] 4 (.two [] 7 (.one [8] 9 (.fin [])) 9 (.one [] 7 (.fin [8]))) 9 (.one [] 4 (.one [] 7 (.fin [8])))) (by kernel_rfl) (by kernel_rfl) (by kernel_rfl) rfl (Below.drew (Below.refl _ _)) ?_
 refine ⟨?_, _, _, ?_, rfl, rfl, ?_, ?_⟩
 rotate_left
 ·repeat (refine pu ?_; (try simp only [SQ]))
  exact rfl
 ·have D0 : Hid (Below W0.heap.size W0 W0.drew) := Below.drew (Below.refl _ _)
  have E0 := Hd (HS.step H0.out D0.out)
  have hz0 : w.heap.size + 2 ≤ W0.drew.heap.size := hsz1
  generalize W0.drew = Wx at *
  simp only [SQ]
  go_wp2_with (at_builtin; (refine wpl_append_bools rfl (.const (.slice none 0 0)) (.tmp 9) rfl rfl (base := 0) rfl p.free rfl (H1.out.below EB.stays E0.out.2) hlf' (Nat.zero_le _) ?_); intro v1 Wa hfr hba)
  have D1 := Hd (below_next D0.out hba)
  have E1 := Hd (HS.step H0.out D1.out)
  have hz1 : w.heap.size + 2 ≤ Wa.heap.size := Nat.le_trans hz0 (hba).size
  obtain ⟨B1, d1, rfl, _⟩ := hfr.1.slice
  have HF1 := Hd hfr
  clear hfr hba
  go_wp2_with fail
  refine And.intro D1.out ⟨_, _, _, rfl, rfl, rfl, ?_, ?_⟩
  ·go_wp2_with fail
   refine (fixed_calls _ _ p.goal (H2.out.below EF.stays E1.out.2) hlg').mono ?_
   rintro e Wb ⟨v2, rfl, hq, hbb⟩
   have hq' := hq.lower (Nat.le_trans (Nat.le_add_right _ 2) hz1)
   have D2 := Hd (below_next D1.out hbb)
   have E2 := Hd (HS.step H0.out D2.out)
   have hz2 : w.heap.size + 2 ≤ Wb.heap.size := Nat.le_trans hz1 (hbb).size
   have HF2 := Hd (HF1.out.below hbb)
   obtain ⟨B2, d2, hv2, _⟩ := hq'.slice
   rw [List.length_map] at hv2
   subst hv2
   have HQ2 := Hd hq'
   clear hq hq' hbb
   go_wp2_with fail
   refine And.intro D2.out ⟨?_, _, ?_, rfl, ?_⟩
   rotate_left
   ·repeat (refine pu ?_; (try simp only [SQ]))
    exact rfl
   go_wp2_with fail
   have hBq := Blk.new Wb 26 #[.int .i64 0, .slice none 0 0, .slice none 0 0, .slice none 0 0]
   obtain ⟨gq, hgq⟩ : ∃ gq, gq = Wb.heap.size := ⟨_, rfl⟩
   have hgq2 : w.heap.size + 2 ≤ gq := by have := hz2; omega
   have hba2 := (below_new Wb (.cells #[.int .i64 0, .slice none 0 0, .slice none 0 0, .slice none 0 0] 26))
   have D3 := Hd (below_next D2.out hba2)
   have E3 := Hd (HS.step H0.out D3.out)
   have hz3 : w.heap.size + 2 ≤ (Wb.alloc (.cells #[.int .i64 0, .slice none 0 0, .slice none 0 0, .slice none 0 0] 26)).heap.size := Nat.le_trans hz2 (hba2).size
   have HF3 := Hd (HF2.out.below hba2)
   have HQ3 := Hd (HQ2.out.below EFQ.stays hba2)
   try rw [← show gq = Wb.heap.size from hgq] at hBq
   try rw [← show gq = Wb.heap.size from hgq]
   have HB3 := Hd hBq
   clear hBq hba2 hgq
   generalize Wb.alloc (.cells #[.int .i64 0, .slice none 0 0, .slice none 0 0, .slice none 0 0] 26) = Wd at *
   refine And.intro D3.out ⟨_, rfl, ?_⟩
   obtain ⟨i0, i1, i2, i3⟩ := HB3.out.c4
   obtain ⟨g0, g1, g2, g3⟩ := HB3.out.f4
   have hltq := HB3.out.lt
   go_wp2_with fail
   refine NoPanic.normal ?_
   have HBc := Hd (HB3.out.put4 (.int .i64 vars) (.slice B1 p.free.length d1) (.slice B2 p.goal.length d2) (.slice none 0 0))
   have hcg := chg_put4 (base := w.heap.size) HB3.out (by omega) prog_words (.int .i64 vars) (.slice B1 p.free.length d1) (.slice B2 p.goal.length d2) (.slice none 0 0)
   have HFc := Hd (HF3.out.chg hcg (by decide))
   have HQc := Hd (QO.chg HQ3.out hcg (by decide))
   have HSc := Hd (E3.out.other4 (g := gq) (by omega) (by simp; omega) (.int .i64 vars) (.slice B1 p.free.length d1) (.slice B2 p.goal.length d2) (.slice none 0 0))
   have hszc : w.heap.size + 2 ≤ ((((Wd.setCell ⟨gq, 0, none⟩ (.int .i64 vars)).setCell ⟨gq, 1, none⟩ (.slice B1 p.free.length d1)).setCell ⟨gq, 2, none⟩ (.slice B2 p.goal.length d2)).setCell ⟨gq, 3, none⟩ (.slice none 0 0)).heap.size := by have := hcg.1.1; omega
   generalize (((Wd.setCell ⟨gq, 0, none⟩ (.int .i64 vars)).setCell ⟨gq, 1, none⟩ (.slice B1 p.free.length d1)).setCell ⟨gq, 2, none⟩ (.slice B2 p.goal.length d2)).setCell ⟨gq, 3, none⟩ (.slice none 0 0) = Wc at *
   exact sq2 _
  ·go_wp2_with fail
   have hBq := Blk.new Wa 26 #[.int .i64 0, .slice none 0 0, .slice none 0 0, .slice none 0 0]
   obtain ⟨gq, hgq⟩ : ∃ gq, gq = Wa.heap.size := ⟨_, rfl⟩
   have hgq2 : w.heap.size + 2 ≤ gq := by have := hz1; omega
   have hba2 := (below_new Wa (.cells #[.int .i64 0, .slice none 0 0, .slice none 0 0, .slice none 0 0] 26))
   have D2 := Hd (below_next D1.out hba2)
   have E2 := Hd (HS.step H0.out D2.out)
   have hz2 : w.heap.size + 2 ≤ (Wa.alloc (.cells #[.int .i64 0, .slice none 0 0, .slice none 0 0, .slice none 0 0] 26)).heap.size := Nat.le_trans hz1 (hba2).size
   have HF2 := Hd (HF1.out.below hba2)
   try rw [← show gq = Wa.heap.size from hgq] at hBq
   try rw [← show gq = Wa.heap.size from hgq]
   have HB2 := Hd hBq
   clear hBq hba2 hgq
   generalize Wa.alloc (.cells #[.int .i64 0, .slice none 0 0, .slice none 0 0, .slice none 0 0] 26) = Wd at *
   refine And.intro D2.out ⟨_, _, rfl, rfl, ?_⟩
   go_wp2_with fail
   refine (fixed_calls _ _ p.goal (H2.out.below EF.stays E2.out.2) hlg').mono ?_
   rintro e Wb ⟨v2, rfl, hq, hbb⟩
   have hq' := hq.lower (Nat.le_trans (Nat.le_add_right _ 2) hz2)
   have D3 := Hd (below_next D2.out hbb)
   have E3 := Hd (HS.step H0.out D3.out)
   have hz3 : w.heap.size + 2 ≤ Wb.heap.size := Nat.le_trans hz2 (hbb).size
   have HF3 := Hd (HF2.out.below hbb)
   have HB3 := Hd (HB2.out.below hbb HB2.out.lt)
   exact sq19 _
 ·have D0 : Hid (Below W0.heap.size W0 W0.drew) := Below.drew (Below.refl _ _)
  have E0 := Hd (HS.step H0.out D0.out)
  have hz0 : w.heap.size + 2 ≤ W0.drew.heap.size := hsz1
  generalize W0.drew = Wx at *
  go_wp2_with fail
  have hBq := Blk.new Wx 26 #[.int .i64 0, .slice none 0 0, .slice none 0 0, .slice none 0 0]
  obtain ⟨gq, hgq⟩ : ∃ gq, gq = Wx.heap.size := ⟨_, rfl⟩
  have hgq2 : w.heap.size + 2 ≤ gq := by have := hz0; omega
  have hba2 := (below_new Wx (.cells #[.int .i64 0, .slice none 0 0, .slice none 0 0, .slice none 0 0] 26))
  have D1 := Hd (below_next D0.out hba2)
  have E1 := Hd (HS.step H0.out D1.out)
  have hz1 : w.heap.size + 2 ≤ (Wx.alloc (.cells #[.int .i64 0, .slice none 0 0, .slice none 0 0, .slice none 0 0] 26)).heap.size := Nat.le_trans hz0 (hba2).size
  try rw [← show gq = Wx.heap.size from hgq] at hBq
  try rw [← show gq = Wx.heap.size from hgq]
  have HB1 := Hd hBq
  clear hBq hba2 hgq
  generalize Wx.alloc (.cells #[.int .i64 0, .slice none 0 0, .slice none 0 0, .slice none 0 0] 26) = Wd at *
  refine And.intro D1.out ⟨_, _, rfl, rfl, ?_⟩
  simp only [SQ]
  go_wp2_with (at_builtin; (refine wpl_append_bools rfl (.const (.slice none 0 0)) (.tmp 9) rfl rfl (base := 0) rfl p.free rfl (H1.out.below EB.stays E1.out.2) hlf' (Nat.zero_le _) ?_); intro v1 Wa hfr hba)
  have D2 := Hd (below_next D1.out hba)
  have E2 := Hd (HS.step H0.out D2.out)
  have hz2 : w.heap.size + 2 ≤ Wa.heap.size := Nat.le_trans hz1 (hba).size
  have HB2 := Hd (HB1.out.below hba HB1.out.lt)
  obtain ⟨B1, d1, rfl, _⟩ := hfr.1.slice
  have HF2 := Hd hfr
  clear hfr hba
  go_wp2_with fail
  refine And.intro D2.out ⟨_, _, rfl, rfl, ?_⟩
  go_wp2_with fail
  refine (fixed_calls _ _ p.goal (H2.out.below EF.stays E2.out.2) hlg').mono ?_
  rintro e Wb ⟨v2, rfl, hq, hbb⟩
  have hq' := hq.lower (Nat.le_trans (Nat.le_add_right _ 2) hz2)
  have D3 := Hd (below_next D2.out hbb)
  have E3 := Hd (HS.step H0.out D3.out)
  have hz3 : w.heap.size + 2 ≤ Wb.heap.size := Nat.le_trans hz2 (hbb).size
  have HB3 := Hd (HB2.out.below hbb HB2.out.lt)
  have HF3 := Hd (HF2.out.below hbb)
  exact sq19 _
def Small (q : Rat) : Prop := sizeQ q ≤ 4096
def SmallR (r : RowQ) : Prop := (∀ q ∈ r.a, Small q) ∧ Small r.b
def SmallP (p : ProgQ) : Prop := (∀ q ∈ p.goal, Small q) ∧ ∀ r ∈ p.rows, SmallR r
theorem small_neg {q : Rat} (h : Small q) : Small (-q) := by
 unfold Small sizeQ at *
 rw [Rat.neg_num, Rat.neg_den, Int.natAbs_neg]
 exact h
theorem small_fix (f : RawF) : Small (fixQ f) := sizeQ_fix f
theorem small_clean (p : ProgF) : SmallP (cleanQ p) := ⟨fun q hq => by
 obtain ⟨f, _, rfl⟩ := List.mem_map.1 hq
 exact small_fix f, fun r hr => by
 obtain ⟨f, _, rfl⟩ := List.mem_map.1 hr
 exact ⟨fun q hq => by
  obtain ⟨g, _, rfl⟩ := List.mem_map.1 hq
  exact small_fix g, small_fix _⟩⟩
theorem SL.mapE {α β : Type} {k : Nat} {E : World → Array Value → α → Prop} {F : World → Array Value → β → Prop} {w : World} {v : Value} {xs : List α} (f : α → β) (h : SL k E w v xs) (hE : ∀ vs x, x ∈ xs → E w vs x → F w vs (f x)) : SL k F w v (xs.map f) := by
 obtain ⟨A, c, e, hc, hr⟩ := h
 refine ⟨A, c, by rw [List.length_map]; exact e, by rw [List.length_map]; exact hc, fun hp => ?_⟩
 rw [List.length_map] at hp
 obtain ⟨g, o, hA, hg, he⟩ := hr hp
 refine ⟨g, o, hA, hg, fun j y hy => ?_⟩
 rw [List.getElem?_map] at hy
 obtain ⟨x, hx, rfl⟩ := Option.map_eq_some_iff.1 hy
 obtain ⟨vs, h1, h2, h3⟩ := he j x hx
 exact ⟨vs, h1, h2, hE vs x (List.mem_of_getElem? hx) h3⟩
theorem QO.fl {base : Nat} {w : World} {v : Value} {qs : List Rat} (h : QO base w v qs) (hs : ∀ q ∈ qs, Small q) : FL w v (qs.map rawQ) :=
 SL.mapE rawQ (OL.sl h) fun vs q hq he => FR.of_fq he (hs q hq)
theorem neg_raw {qs : List Rat} (hs : ∀ q ∈ qs, Small q) : (qs.map rawQ).map negF = qs.map fun q => -q := by
 rw [List.map_map]
 refine List.map_congr_left fun q hq => ?_
 show negF (rawQ q) = -q
 unfold negF
 rw [fixQ_raw q (hs q hq)]
theorem RO.at5 {base : Nat} {w : World} {A : Option Addr} {n c : Nat} {rs : List RowQ} (h : RO base w (.slice A n c) rs) {j : Nat} {r : RowQ} (hj : rs[j]? = some r) :
  ∃ g A1 c1 A2 n2 c2 A3 n3 c3, A = some ⟨g, 0, none⟩ ∧ base ≤ g ∧ g < w.heap.size ∧ w.cell? ⟨g, j * 5, none⟩ = some (.slice A1 r.a.length c1) ∧ w.cell? ⟨g, j * 5 + 1, none⟩ = some (.int .i64 r.s) ∧ w.cell? ⟨g, j * 5 + 2, none⟩ = some (.bool (negQ r.b)) ∧
   w.cell? ⟨g, j * 5 + 3, none⟩ = some (.slice A2 n2 c2) ∧ w.cell? ⟨g, j * 5 + 4, none⟩ = some (.slice A3 n3 c3) ∧ (∀ k, w.frozen? ⟨g, k, none⟩ = false) ∧ Hid (I64 r.s) ∧ Hid (QO base w (.slice A1 r.a.length c1) r.a) ∧ Hid (FQ w (.agg #[.bool (negQ r.b), .slice A2 n2 c2, .slice A3 n3 c3]) r.b) := by
 obtain ⟨xs, ⟨hl, h1⟩, h2⟩ := h
 rcases h1 with ⟨e0, h0⟩ | ⟨g, cap, cur, e1, hb, hbl, hnc, hcm, hcs, htake, hcw⟩
 ·have := (List.getElem?_eq_some_iff.1 hj).1
  omega
 ·injection e1 with e1 e2 e3
  subst e1 e3
  obtain ⟨vs, h3, h4, v, A2, n2, c2, A3, n3, c3, rfl, hI, h5, h6⟩ := h2 j r hj
  obtain ⟨A1, c1, rfl, _⟩ := OL.slice h5
  have hc : ∀ k u, #[Value.slice A1 r.a.length c1, .int .i64 r.s, .bool (negQ r.b), .slice A2 n2 c2, .slice A3 n3 c3][k]? = some u → w.cell? ⟨g, j * 5 + k, none⟩ = some u := fun k u hk => by
   have h7 := h4 k u hk
   refine hbl.cell ?_
   rw [← htake, List.getElem?_take] at h7
   split at h7
   ·simpa using h7
   ·cases h7
  exact ⟨g, A1, c1, A2, n2, c2, A3, n3, c3, rfl, hb, hbl.lt, hc 0 _ rfl, hc 1 _ rfl, hc 2 _ rfl, hc 3 _ rfl, hc 4 _ rfl, fun k => hbl.frozen k, hI, h5, h6⟩
theorem PO.opened {base : Nat} {w : World} {v : Value} {p : ProgQ} (h : PO base w v p) : ∃ A1 c1 A2 c2 A3 c3, v = .agg #[.int .i64 p.vars, .slice A1 p.free.length c1, .slice A2 p.goal.length c2, .slice A3 p.rows.length c3] ∧ Hid (I64 p.vars) ∧ Hid (FrO base w (.slice A1 p.free.length c1) p.free) ∧ Hid (QO base w (.slice A2 p.goal.length c2) p.goal) ∧ Hid (RO base w (.slice A3 p.rows.length c3) p.rows) := by
 obtain ⟨v1, v2, v3, rfl, hv, h1, h2, h3⟩ := h
 obtain ⟨A1, c1, rfl, _⟩ := h1.1.slice
 obtain ⟨A2, c2, rfl, _⟩ := OL.slice h2
 obtain ⟨A3, c3, rfl, _⟩ := OL.slice h3
 exact ⟨A1, c1, A2, c2, A3, c3, rfl, hv, h1, h2, h3⟩
theorem RO.lower {base base' : Nat} {w : World} {v : Value} {rs : List RowQ} (h : RO base w v rs) (hb : base' ≤ base) : RO base' w v rs := by
 obtain ⟨xs, h3, h4⟩ := h
 refine ⟨xs, h3.lower hb, fun j a hj => ?_⟩
 obtain ⟨vs, h5, h6, v, B1, m1, d1, B2, m2, d2, e2, h7, h8, h9⟩ := h4 j a hj
 exact ⟨vs, h5, h6, v, B1, m1, d1, B2, m2, d2, e2, h7, QO.lower h8 hb, h9⟩
def AccF (W : World) (g : Nat) (q : Rat) : Prop := ∃ A1 n1 c1 A2 n2 c2, Blk W g 40 #[.bool (negQ q), .slice A1 n1 c1, .slice A2 n2 c2] ∧ FQ W (.agg #[.bool (negQ q), .slice A1 n1 c1, .slice A2 n2 c2]) q
theorem AccF.step {W W' : World} {g : Nat} {q : Rat} (h : AccF W g q) (hb : Below W.heap.size W W') : AccF W' g q := by
 obtain ⟨A1, n1, c1, A2, n2, c2, h1, h2⟩ := h
 exact ⟨A1, n1, c1, A2, n2, c2, h1.below hb h1.lt, h2.of_below hb⟩
theorem AccF.put {W : World} {g : Nat} {q p : Rat} {A1 A2 : Option Addr} {n1 c1 n2 c2 : Nat} (h : AccF W g q) (hp : FQ W (.agg #[.bool (negQ p), .slice A1 n1 c1, .slice A2 n2 c2]) p) : AccF (((W.setCell ⟨g, 0, none⟩ (.bool (negQ p))).setCell ⟨g, 1, none⟩ (.slice A1 n1 c1)).setCell ⟨g, 2, none⟩ (.slice A2 n2 c2)) g p := by
 obtain ⟨_, _, _, _, _, _, h1, _⟩ := h
 exact ⟨A1, n1, c1, A2, n2, c2, h1.put3 _ _ _, hp.put3 h1 ni_box _ _ _⟩
def dotStep (s p : Rat) : Rat := capQ (s + capQ p)
theorem capQ_fits {q : Rat} (h : sizeQ q ≤ 4096) : capQ q = q := by unfold capQ; rw [if_pos h]
theorem capQ_capQ (q : Rat) : capQ (capQ q) = capQ q := capQ_fits (capQ_size q)
theorem rdot_cap (l : List Rat) : ∀ s, capQ s = s → capQ (l.foldl dotStep s) = l.foldl dotStep s := by
 induction l with
 | nil => exact fun s h => h
 | cons p l ih => exact fun s h => ih _ (capQ_capQ _)
theorem dotStep_zero {s : Rat} (h : capQ s = s) : dotStep s 0 = s := by unfold dotStep; rw [capQ_zero, Rat.add_zero, h]
theorem fold_snoc (l : List Rat) (q : Rat) (s : Rat) : (l ++ [q]).foldl dotStep s = dotStep (l.foldl dotStep s) q := by rw [List.foldl_append]; rfl
def FR0 (w : World) (v : Value) (f : RawF) : Prop := (f.num.length ≤ 9223372036854775807 ∧ f.den.length ≤ 9223372036854775807) ∧ ∃ v1 v2, v = .agg #[.bool f.neg, v1, v2] ∧ Rd w v1 f.num ∧ Rd w v2 f.den
def EF0 (w : World) (vs : Array Value) (f : RawF) : Prop := FR0 w (.agg vs) f
abbrev FL0 (w : World) (v : Value) (fs : List RawF) : Prop := SL 3 EF0 w v fs
theorem FR0.of_below {w w1 : World} {v : Value} {f : RawF} (h : FR0 w v f) (hb : Below w.heap.size w w1) : FR0 w1 v f := by
 obtain ⟨hl, v1, v2, e, h1, h2⟩ := h
 exact ⟨hl, v1, v2, e, h1.below hb, h2.below hb⟩
theorem EF0.stays : Stays EF0 := fun _ _ _ _ h hb => FR0.of_below h hb
theorem FR0.opened {w : World} {v : Value} {f : RawF} (h : FR0 w v f) : ∃ A1 c1 A2 c2, v = .agg #[.bool f.neg, .slice A1 f.num.length c1, .slice A2 f.den.length c2] ∧ Hid (FR0 w (.agg #[.bool f.neg, .slice A1 f.num.length c1, .slice A2 f.den.length c2]) f) := by
 have h0 := h
 obtain ⟨hl, v1, v2, rfl, h1, h2⟩ := h
 obtain ⟨A1, c1, rfl, _⟩ := h1.slice
 obtain ⟨A2, c2, rfl, _⟩ := h2.slice
 exact ⟨A1, c1, A2, c2, rfl, h0⟩
theorem FL0.at3 {w : World} {A : Option Addr} {n c : Nat} {fs : List RawF} (h : FL0 w (.slice A n c) fs) {j : Nat} {f : RawF} (hj : fs[j]? = some f) :
  ∃ g o A1 c1 A2 c2, A = some ⟨g, o, none⟩ ∧ g < w.heap.size ∧ w.cell? ⟨g, o + j * 3, none⟩ = some (.bool f.neg) ∧ w.cell? ⟨g, o + j * 3 + 1, none⟩ = some (.slice A1 f.num.length c1) ∧ w.cell? ⟨g, o + j * 3 + 2, none⟩ = some (.slice A2 f.den.length c2) ∧ Hid (FR0 w (.agg #[.bool f.neg, .slice A1 f.num.length c1, .slice A2 f.den.length c2]) f) := by
 obtain ⟨g, o, vs, hA, hg, hs, hc, he⟩ := h.at_ hj
 obtain ⟨A1, c1, A2, c2, e, hF⟩ := FR0.opened he
 injection e with e
 subst e
 exact ⟨g, o, A1, c1, A2, c2, hA, hg, hc 0 _ rfl, hc 1 _ rfl, hc 2 _ rfl, hF⟩
theorem FR0.lens {w : World} {v : Value} {f : RawF} (h : FR0 w v f) : f.num.length ≤ 9223372036854775807 ∧ f.den.length ≤ 9223372036854775807 := h.1
theorem FR0.full {w : World} {v : Value} {f : RawF} (h : FR0 w v f) (hl : f.num.length ≤ 1000000000 ∧ f.den.length ≤ 1000000000) : FR w v f := ⟨hl, h.2⟩
def wordF (n : Nat) (f : RawF) : Bool := decide (f.num.length ≤ n) && decide (f.den.length ≤ n)
def wordsB (fs : List RawF) (n : Nat) : Bool := fs.all (wordF n)
theorem wordF_ok {n : Nat} {f : RawF} (h : wordF n f = true) : f.num.length ≤ n ∧ f.den.length ≤ n := by
 unfold wordF at h
 simpa using h
theorem wordsB_ok {n : Nat} {fs : List RawF} (h : wordsB fs n = true) : ∀ f ∈ fs, f.num.length ≤ n ∧ f.den.length ≤ n := fun f hf => wordF_ok (List.all_eq_true.1 h f hf)
theorem FL0.full {w : World} {v : Value} {fs : List RawF} (h : FL0 w v fs) {n : Nat} (hn : n ≤ 1000000000) (hl : wordsB fs n = true) : FL w v fs := by
 obtain ⟨A, c, e, hc, hr⟩ := h
 refine ⟨A, c, e, hc, fun hp => ?_⟩
 obtain ⟨g, o, hA, hg, he⟩ := hr hp
 refine ⟨g, o, hA, hg, fun j x hx => ?_⟩
 obtain ⟨vs, h1, h2, h3⟩ := he j x hx
 have := wordsB_ok hl x (List.mem_of_getElem? hx)
 exact ⟨vs, h1, h2, FR0.full h3 ⟨by omega, by omega⟩⟩
theorem words_calls (w : World) (v : Value) (fs : List RawF) (n : Nat) (h : FL0 w v fs) (hl : fs.length ≤ 9223372036854775807) (hn : n ≤ 1000) : Calls Try.prog 19 #[v, .int .i64 (n : Int)] w fun e w' => BPost w (wordsB fs n) e w' := by
 obtain ⟨A, c, rfl, hc⟩ := h.slice
 have HF := Hd h
 clear h
 go_enter Try.func19, Try.ntmps19
 go_wp2_with fail
 go_loopw [9] (fun vi wr => ∃ i : Nat, i ≤ fs.length ∧ vi = .int .i64 (i : Int) ∧ (∀ (j : Nat) (f : RawF), j < i → fs[j]? = some f → wordF n f = true) ∧ Below w.heap.size w wr) (fun vi _ => fs.length - (intOf vi).toNat)
 case atStart => exact ⟨0, Nat.zero_le _, rfl, fun j _ h => absurd h (Nat.not_lt_zero _), Below.refl _ _⟩
 case round =>
  obtain ⟨i, hi, rfl, hall, hb⟩ := hrel
  have HA := Hd hall
  have HB := Hd hb
  clear hall hb
  by_cases hlt : i < fs.length
  ·obtain ⟨f, hf⟩ : ∃ f, fs[i]? = some f := ⟨fs[i], List.getElem?_eq_getElem hlt⟩
   obtain ⟨g, o, B1, d1, B2, d2, rfl, hg, k0, k1, k2, HE⟩ := FL0.at3 (HF.out.below EF0.stays HB.out) hf
   have HFI := Hd hf
   have hl1 := HE.out.lens.1
   have hl2 := HE.out.lens.2
   clear hf
   obtain ⟨l1, e1⟩ : ∃ l, l = f.num.length := ⟨_, rfl⟩
   obtain ⟨l2, e2⟩ : ∃ l, l = f.den.length := ⟨_, rfl⟩
   rw [← e1] at hl1 HE k1
   rw [← e2] at hl2 HE k2
   have E1 := Hd e1
   have E2 := Hd e2
   have m1 : (i : Int) < (fs.length : Int) := by omega
   have m3 : (i : Int).toNat = i := by omega
   have m4 : (0 : Int) ≤ (i : Int) := by omega
   clear e1 e2
   by_cases q1 : n < l1
   ·have u1 : decide (n < l1) = true := decide_eq_true q1
    have HE2 : Hid (wordsB fs n = false) := by
     unfold Hid wordsB
     refine all_false HFI.out ?_
     unfold wordF
     rw [← E1.out, decide_eq_false (by omega)]
     rfl
    clear q1
    go_wp2_with fail
    go_ret
    exact ⟨by rw [HE2.out]; rfl, below_next HB.out (below_new _ _)⟩
   have u1 : decide (n < l1) = false := decide_eq_false q1
   by_cases q2 : n < l2
   ·have u2 : decide (n < l2) = true := decide_eq_true q2
    have HE2 : Hid (wordsB fs n = false) := by
     unfold Hid wordsB
     refine all_false HFI.out ?_
     unfold wordF
     rw [← E2.out, decide_eq_false (show ¬ l2 ≤ n by omega), Bool.and_false]
    clear q1 q2
    go_wp2_with fail
    go_ret
    exact ⟨by rw [HE2.out]; rfl, below_next HB.out (below_new _ _)⟩
   have u2 : decide (n < l2) = false := decide_eq_false q2
   have HG : Hid (wordF n f = true) := by
    unfold Hid wordF
    rw [← E1.out, ← E2.out, decide_eq_true (show l1 ≤ n by omega), decide_eq_true (show l2 ≤ n by omega)]
    rfl
   clear q1 q2
   go_wp2_with fail
   go_roundw
   case rel =>
    refine ⟨i + 1, by omega, by go_num, fun j f' hj hf' => ?_, below_next HB.out (below_new _ _)⟩
    by_cases hji : j = i
    ·rw [hji, HFI.out] at hf'
     injection hf' with e
     rw [← e]
     exact HG.out
    ·exact HA.out j f' (by omega) hf'
   case measure => simp [intOf]; omega
  ·obtain rfl : i = fs.length := by omega
   have HE2 : Hid (wordsB fs n = true) := by
    unfold Hid wordsB
    exact all_true fun j f hf => HA.out j f (List.getElem?_eq_some_iff.1 hf).1 hf
   go_wp2_with fail
   go_ret
   exact ⟨by rw [HE2.out]; rfl, HB.out⟩
theorem HS.add {w W : World} {bs : List (Nat × Nat × Array Value)} (h : HS w bs W) (cs : Array Value) (t : Nat) : HS w ((W.heap.size, t, cs) :: bs) (W.alloc (.cells cs t)) := by
 have h1 := h.step (below_new W (.cells cs t))
 refine ⟨fun b hm => ?_, h1.2⟩
 rcases List.mem_cons.1 hm with rfl | hm
 ·exact Blk.new _ _ _
 ·exact h1.1 b hm
structure CertF where
 kind : Int
 x : List RawF
 y : List RawF
 ray : List RawF
def CG0 (w : World) (v : Value) (c : CertF) : Prop := (c.x.length ≤ 9223372036854775807 ∧ c.y.length ≤ 9223372036854775807 ∧ c.ray.length ≤ 9223372036854775807) ∧ ∃ v1 v2 v3, v = .agg #[.int .i64 c.kind, v1, v2, v3] ∧ I64 c.kind ∧ FL0 w v1 c.x ∧ FL0 w v2 c.y ∧ FL0 w v3 c.ray
def CR (w : World) (v : Value) (c : CertF) : Prop := ∃ v1 v2 v3, v = .agg #[.int .i64 c.kind, v1, v2, v3] ∧ I64 c.kind ∧ FL w v1 c.x ∧ FL w v2 c.y ∧ FL w v3 c.ray
theorem CG0.of_below {w w1 : World} {v : Value} {c : CertF} (h : CG0 w v c) (hb : Below w.heap.size w w1) : CG0 w1 v c := by
 obtain ⟨hl, v1, v2, v3, e, hk, h1, h2, h3⟩ := h
 exact ⟨hl, v1, v2, v3, e, hk, h1.below EF0.stays hb, h2.below EF0.stays hb, h3.below EF0.stays hb⟩
theorem CR.of_below {w w1 : World} {v : Value} {c : CertF} (h : CR w v c) (hb : Below w.heap.size w w1) : CR w1 v c := by
 obtain ⟨v1, v2, v3, e, hk, h1, h2, h3⟩ := h
 exact ⟨v1, v2, v3, e, hk, h1.below EF.stays hb, h2.below EF.stays hb, h3.below EF.stays hb⟩
theorem CG0.opened {w : World} {v : Value} {c : CertF} (h : CG0 w v c) : ∃ A1 c1 A2 c2 A3 c3, v = .agg #[.int .i64 c.kind, .slice A1 c.x.length c1, .slice A2 c.y.length c2, .slice A3 c.ray.length c3] ∧ Hid (FL0 w (.slice A1 c.x.length c1) c.x) ∧ Hid (FL0 w (.slice A2 c.y.length c2) c.y) ∧ Hid (FL0 w (.slice A3 c.ray.length c3) c.ray) := by
 obtain ⟨_, v1, v2, v3, rfl, _, h1, h2, h3⟩ := h
 obtain ⟨A1, c1, rfl, _⟩ := h1.slice
 obtain ⟨A2, c2, rfl, _⟩ := h2.slice
 obtain ⟨A3, c3, rfl, _⟩ := h3.slice
 exact ⟨A1, c1, A2, c2, A3, c3, rfl, h1, h2, h3⟩
theorem CR.opened {w : World} {v : Value} {c : CertF} (h : CR w v c) : ∃ A1 c1 A2 c2 A3 c3, v = .agg #[.int .i64 c.kind, .slice A1 c.x.length c1, .slice A2 c.y.length c2, .slice A3 c.ray.length c3] ∧ Hid (FL w (.slice A1 c.x.length c1) c.x) ∧ Hid (FL w (.slice A2 c.y.length c2) c.y) ∧ Hid (FL w (.slice A3 c.ray.length c3) c.ray) := by
 obtain ⟨v1, v2, v3, rfl, _, h1, h2, h3⟩ := h
 obtain ⟨A1, c1, rfl, _⟩ := h1.slice
 obtain ⟨A2, c2, rfl, _⟩ := h2.slice
 obtain ⟨A3, c3, rfl, _⟩ := h3.slice
 exact ⟨A1, c1, A2, c2, A3, c3, rfl, h1, h2, h3⟩
def certB (c : CertF) (n : Nat) : Bool := decide (c.x.length ≤ n) && (decide (c.y.length ≤ n) && (decide (c.ray.length ≤ n) && (wordsB c.x 12 && (wordsB c.y 12 && wordsB c.ray 12))))
theorem certB_ok {c : CertF} {n : Nat} (h : certB c n = true) : (c.x.length ≤ n ∧ c.y.length ≤ n ∧ c.ray.length ≤ n) ∧ wordsB c.x 12 = true ∧ wordsB c.y 12 = true ∧ wordsB c.ray 12 = true := by
 unfold certB at h
 simp only [Bool.and_eq_true, decide_eq_true_eq] at h
 exact ⟨⟨h.1, h.2.1, h.2.2.1⟩, h.2.2.2⟩
theorem CG0.full {w : World} {v : Value} {c : CertF} (h : CG0 w v c) {n : Nat} (hc : certB c n = true) : CR w v c := by
 obtain ⟨_, v1, v2, v3, e, hk, h1, h2, h3⟩ := h
 obtain ⟨_, a, b, d⟩ := certB_ok hc
 exact ⟨v1, v2, v3, e, hk, h1.full (by decide) a, h2.full (by decide) b, h3.full (by decide) d⟩
theorem cert_calls (w : World) (v : Value) (c : CertF) (n : Nat) (h : CG0 w v c) (hn : n ≤ 1000) : Calls Try.prog 27 #[v, .int .i64 (n : Int)] w fun e w' => BPost w (certB c n) e w' := by
 have hl := h.1
 obtain ⟨A1, c1, A2, c2, A3, c3, rfl, H1, H2, H3⟩ := h.opened
 have hl1 := hl.1
 have hl2 := hl.2.1
 have hl3 := hl.2.2
 clear h hl
 obtain ⟨kd, hkd⟩ : ∃ k, k = c.kind := ⟨_, rfl⟩
 rw [← hkd]
 clear hkd
 go_enter Try.func27, Try.ntmps27
 by_cases a1 : n < c.x.length
 ·have t1 : decide (c.x.length ≤ n) = false := decide_eq_false (by omega)
  have HR : Hid (certB c n = false) := by unfold Hid certB; rw [t1]; simp
  clear a1
  go_wp2_with fail
  go_ret
  exact ⟨by rw [HR.out]; rfl, below_new w _⟩
 have t1 : decide (c.x.length ≤ n) = true := decide_eq_true (by omega)
 by_cases a2 : n < c.y.length
 ·have t2 : decide (c.y.length ≤ n) = false := decide_eq_false (by omega)
  have HR : Hid (certB c n = false) := by unfold Hid certB; rw [t2]; simp
  clear a1 a2
  go_wp2_with fail
  go_ret
  exact ⟨by rw [HR.out]; rfl, below_new w _⟩
 have t2 : decide (c.y.length ≤ n) = true := decide_eq_true (by omega)
 by_cases a3 : n < c.ray.length
 ·have t3 : decide (c.ray.length ≤ n) = false := decide_eq_false (by omega)
  have HR : Hid (certB c n = false) := by unfold Hid certB; rw [t3]; simp
  clear a1 a2 a3
  go_wp2_with fail
  go_ret
  exact ⟨by rw [HR.out]; rfl, below_new w _⟩
 have t3 : decide (c.ray.length ≤ n) = true := decide_eq_true (by omega)
 have HHEAD : Hid (certB c n = (wordsB c.x 12 && (wordsB c.y 12 && wordsB c.ray 12))) := by unfold Hid certB; rw [t1, t2, t3]; rfl
 clear a1 a2 a3
 go_wp2_with fail
 have H0 := Hd (HS.one (w := w) #[.int .i64 kd, .slice A1 c.x.length c1, .slice A2 c.y.length c2, .slice A3 c.ray.length c3] 44)
 generalize w.alloc (.cells #[.int .i64 kd, .slice A1 c.x.length c1, .slice A2 c.y.length c2, .slice A3 c.ray.length c3] 44) = W0 at *
 refine (words_calls W0 _ c.x 12 (H1.out.below EF0.stays H0.out.2) hl1 (by decide)).mono ?_
 rintro e w1 ⟨rfl, hb⟩
 have K1 := Hd (H0.out.step hb)
 obtain ⟨x0, x1, x2, x3⟩ := K1.out.c4 0 rfl
 clear hb
 cases hg1 : wordsB c.x 12 with
 | false =>
  have HR : Hid (certB c n = false) := by unfold Hid; rw [HHEAD.out, hg1]; simp
  clear hg1
  go_wp2_with fail
  go_ret
  exact ⟨by rw [HR.out]; rfl, K1.out.2⟩
 | true =>
  have G1 := Hd hg1
  clear hg1
  go_wp2_with fail
  refine (words_calls w1 _ c.y 12 (H2.out.below EF0.stays K1.out.2) hl2 (by decide)).mono ?_
  rintro e w2 ⟨rfl, hb⟩
  have K2 := Hd (K1.out.step hb)
  obtain ⟨x0, x1, x2, x3⟩ := K2.out.c4 0 rfl
  clear hb
  cases hg2 : wordsB c.y 12 with
  | false =>
   have HR : Hid (certB c n = false) := by unfold Hid; rw [HHEAD.out, hg2]; simp
   clear hg2
   go_wp2_with fail
   go_ret
   exact ⟨by rw [HR.out]; rfl, K2.out.2⟩
  | true =>
   have G2 := Hd hg2
   clear hg2
   go_wp2_with fail
   refine (words_calls w2 _ c.ray 12 (H3.out.below EF0.stays K2.out.2) hl3 (by decide)).mono ?_
   rintro e w3 ⟨rfl, hb⟩
   have K3 := Hd (K2.out.step hb)
   obtain ⟨x0, x1, x2, x3⟩ := K3.out.c4 0 rfl
   clear hb
   cases hg3 : wordsB c.ray 12 with
   | false =>
    have HR : Hid (certB c n = false) := by unfold Hid; rw [HHEAD.out, hg3]; simp
    clear hg3
    go_wp2_with fail
    go_ret
    exact ⟨by rw [HR.out]; rfl, K3.out.2⟩
   | true =>
    have G3 := Hd hg3
    clear hg3
    have HR : Hid (certB c n = true) := by unfold Hid; rw [HHEAD.out, G1.out, G2.out, G3.out]; rfl
    go_wp2_with fail
    go_ret
    exact ⟨by rw [HR.out]; rfl, K3.out.2⟩
noncomputable def rowGoes (x : List Rat) (r : RowF) : Bool := holdsB r.s (capQ (dotQ (r.a.map fixQ) x)) 0
noncomputable def goesB (p : ProgF) (x : List RawF) : Bool := decide ((x.length : Int) = p.vars) && (signedB p.free (x.map fixQ) && (p.rows.all (rowGoes (x.map fixQ)) && decide (signQ (capQ (dotQ (p.goal.map fixQ) (x.map fixQ))) > 0)))
theorem fixQ_zero : fixQ (rawQ 0) = 0 := fixQ_raw 0 (by rw [sizeQ_zero]; decide)
theorem holds0_calls (w : World) (s : Int) (v v2 : Value) (f : RawF) (h : FR w v f) (h2 : FQ w v2 0) : Calls Try.prog 96 #[.int .i64 s, v, v2] w fun e w' => BPost w (holdsB s (fixQ f) 0) e w' := by
 have := holds_calls w s v v2 f (rawQ 0) h (FR.of_fq h2 (by rw [sizeQ_zero]; decide))
 rw [fixQ_zero] at this
 exact this
theorem frac_nil_calls (w : World) : Calls Try.prog 54 #[.slice none 0 0] w fun e w' => FPost w 0 e w' := by
 have := fsum_calls w _ [] (FL.nil w) (by simp)
 rw [show capQ (sumQ (List.map fixQ [])) = 0 from capQ_zero] at this
 exact this
theorem goes_calls (w : World) (v v2 : Value) (p : ProgF) (x : List RawF) (h : PR w v p) (h2 : FL w v2 x) (hr : rightP p = 0) : Calls Try.prog 63 #[v, v2] w fun e w' => BPost w (goesB p x) e w' := by
 have hrl := rightP_len hr
 clear hr
 have HP := Hd h
 obtain ⟨A1, c1, A2, c2, A3, c3, rfl, HI, H1, H2, H3⟩ := h.opened
 obtain ⟨A4, c4, rfl, hc4⟩ := h2.slice
 have HX := Hd h2
 clear h h2
 obtain ⟨vars, hv⟩ : ∃ n, n = p.vars := ⟨_, rfl⟩
 rw [← hv] at HP ⊢
 have HV := Hd hv
 have hfl : (p.free.length : Int) = vars := by rw [hv]; exact hrl.1
 have hvl : vars ≤ 160 := by rw [hv]; exact hrl.2.2.2.1
 have hrw : p.rows.length ≤ 400 := hrl.2.2.2.2.1
 have hgl : p.goal.length ≤ 100000 := by have := hrl.2.1; omega
 have HROW : Hid (∀ (r : RowF), r ∈ p.rows → (r.a.length : Int) = vars) := by unfold Hid; rw [hv]; exact fun r hm => (hrl.2.2.2.2.2 r hm).1
 clear hv hrl
 go_enter Try.func63, Try.ntmps63
 by_cases q1 : (x.length : Int) = vars
 case neg =>
  have u1 : ((x.length : Int) != vars) = true := bneI q1
  have HE : Hid (goesB p x = false) := by unfold Hid goesB; rw [decide_eq_false (by rw [← HV.out]; exact q1)]; rfl
  clear q1 hfl
  go_wp2_with fail
  go_ret
  exact ⟨by rw [HE.out]; rfl, below_new w _⟩
 have u1 : ((x.length : Int) != vars) = false := beqI q1
 have hxl : x.length ≤ 100000 := by omega
 have hxf : x.length = p.free.length := by omega
 have HXV := Hd q1
 have HXF := Hd hxf
 clear q1 hfl hxf
 go_wp2_with fail
 have H0 := Hd (HS.one (w := w) #[.int .i64 vars, .slice A1 p.free.length c1, .slice A2 p.goal.length c2, .slice A3 p.rows.length c3] 26)
 generalize w.alloc (.cells #[.int .i64 vars, .slice A1 p.free.length c1, .slice A2 p.goal.length c2, .slice A3 p.rows.length c3] 26) = W0 at *
 refine (signed_calls W0 _ _ p x (HP.out.of_below H0.out.2) (HX.out.below EF.stays H0.out.2) HXF.out hxl).mono ?_
 rintro e w1 ⟨rfl, hb⟩
 have h1' := H0.out.step hb
 have H1' := Hd h1'
 obtain ⟨x0, x1, x2, x3⟩ := H1'.out.c4 0 rfl
 clear hb h1'
 cases hsg : signedB p.free (x.map fixQ) with
 | false =>
  have HE : Hid (goesB p x = false) := by unfold Hid goesB; rw [hsg]; simp
  clear hsg
  go_wp2_with fail
  go_ret
  exact ⟨by rw [HE.out]; rfl, H1'.out.2⟩
 | true =>
  have HE : Hid (goesB p x = (p.rows.all (rowGoes (x.map fixQ)) && decide (signQ (capQ (dotQ (p.goal.map fixQ) (x.map fixQ))) > 0))) := by unfold Hid goesB; rw [hsg, decide_eq_true (by rw [← HV.out]; exact HXV.out)]; rfl
  clear hsg
  go_wp2_with fail
  clear x0 x1 x2 x3
  refine (frac_nil_calls w1).mono ?_
  rintro e w2 ⟨v, rfl, hv, hb⟩
  obtain ⟨A5, n5, c5, A6, n6, c6, rfl, HVZ⟩ := hv.opened
  have HZ1 := Hd (H1'.out.step hb)
  have hz1 := H1'.out.2.size
  have hz2 := hb.size
  have hlt1 := (H1'.out.blk 0 rfl).lt
  obtain ⟨x0, x1, x2, x3⟩ := HZ1.out.c4 0 rfl
  have hlt2 := (HZ1.out.blk 0 rfl).lt
  clear hv hb
  go_wp2_with fail
  clear x0 x1 x2 x3
  have HZ := Hd (HS.add HZ1.out #[.bool (negQ 0), .slice A5 n5 c5, .slice A6 n6 c6] 40)
  have HVZ2 := Hd (HVZ.out.of_below (below_new w2 (.cells #[.bool (negQ 0), .slice A5 n5 c5, .slice A6 n6 c6] 40)))
  obtain ⟨gz, hgz⟩ : ∃ gz, gz = w2.heap.size := ⟨_, rfl⟩
  rw [← hgz] at HZ ⊢
  have hzne : w.heap.size < gz := by omega
  generalize w2.alloc (.cells #[.bool (negQ 0), .slice A5 n5 c5, .slice A6 n6 c6] 40) = W2 at *
  clear hgz
  go_loopw [23] (fun vi wr => ∃ i : Nat, i ≤ p.rows.length ∧ vi = .int .i64 (i : Int) ∧ (∀ (j : Nat) (r : RowF), j < i → p.rows[j]? = some r → rowGoes (x.map fixQ) r = true) ∧ HS w [(gz, 40, #[.bool (negQ 0), .slice A5 n5 c5, .slice A6 n6 c6]), (w.heap.size, 26, #[.int .i64 vars, .slice A1 p.free.length c1, .slice A2 p.goal.length c2, .slice A3 p.rows.length c3])] wr ∧ FQ wr (.agg #[.bool (negQ 0), .slice A5 n5 c5, .slice A6 n6 c6]) 0) (fun vi _ => p.rows.length - (intOf vi).toNat)
  case atStart => exact ⟨0, Nat.zero_le _, rfl, fun j _ h => absurd h (Nat.not_lt_zero _), HZ.out, HVZ2.out⟩
  case round =>
   obtain ⟨i, hi, rfl, hall, hk, hvz⟩ := hrel
   have HVZ3 := Hd hvz
   clear hvz
   have HA := Hd hall
   have HK := Hd hk
   clear hall hk
   by_cases hlt : i < p.rows.length
   ·obtain ⟨r, hr⟩ : ∃ r, p.rows[i]? = some r := ⟨p.rows[i], List.getElem?_eq_getElem hlt⟩
    obtain ⟨g, o, B1, d1, B2, n2, d2, B3, n3, d3, rfl, hg, k0, k1, k2, k3, k4, HI', HA', HB'⟩ := RL.at5 (H3.out.below ER.stays HK.out.2) hr
    have hrl : r.a.length ≤ 100000 := by have := HROW.out r (List.mem_of_getElem? hr); omega
    have HRR := Hd hr
    clear hr
    have m1 : (i : Int) < (p.rows.length : Int) := by omega
    have m3 : (i : Int).toNat = i := by omega
    have m4 : (0 : Int) ≤ (i : Int) := by omega
    obtain ⟨s, hs⟩ : ∃ s, s = r.s := ⟨_, rfl⟩
    rw [← hs] at k1
    have HSE := Hd hs
    clear hs
    go_wp2_with fail
    have hb1 := below_new wr (.cells #[.slice B1 r.a.length d1, .int .i64 s, .bool r.b.neg, .slice B2 n2 d2, .slice B3 n3 d3] 65)
    have hk1 := Blk.new wr 65 #[.slice B1 r.a.length d1, .int .i64 s, .bool r.b.neg, .slice B2 n2 d2, .slice B3 n3 d3]
    have HB1 := Hd hb1
    have z0 := hk1.cell (j := 0) rfl
    have z1 := hk1.cell (j := 1) rfl
    have z2 := hk1.cell (j := 2) rfl
    have z3 := hk1.cell (j := 3) rfl
    have z4 := hk1.cell (j := 4) rfl
    have hz := hk1.lt
    generalize wr.alloc (.cells #[.slice B1 r.a.length d1, .int .i64 s, .bool r.b.neg, .slice B2 n2 d2, .slice B3 n3 d3] 65) = W1 at *
    clear hk1 hb1
    obtain ⟨y0, y1, y2⟩ := ((HK.out.step HB1.out).blk 0 rfl).c3
    have hzl := ((HK.out.step HB1.out).blk 0 rfl).lt
    refine wp_chainS (S := Below W1.heap.size W1) [([0, 1, 2, 3, 4, 6], 5), ([], 7)] [8] (by kernel_rfl) (by kernel_rfl) (by kernel_rfl) rfl (Below.drew (Below.refl _ _)) ?_
    refine ⟨?_, _, ?_, rfl, ?_⟩
    rotate_left
    ·repeat (refine pu ?_; (try simp only [SQ]))
     exact rfl
    have hbd : Below W1.heap.size W1 W1.drew := Below.drew (Below.refl _ _)
    have hbx := below_next HB1.out hbd
    have HBX := Hd hbx
    go_wp2_with fail
    refine (fdot_calls _ _ _ r.a x (HA'.out.below EF.stays HBX.out) (HX.out.below EF.stays (HK.out.step HBX.out).2) hrl hxl).mono ?_
    rintro e w7 ⟨v, rfl, hv, hb⟩
    obtain ⟨A7, n7, c7, A8, n8, c8, rfl, HV5⟩ := hv.opened
    have HB7 := Hd (below_next hbd hb)
    have HB17 := Hd (below_next HB1.out HB7.out)
    clear hv hb hbd hbx
    go_wp2_with fail
    refine And.intro HB7.out ⟨_, _, rfl, rfl, ?_⟩
    go_wp2_with fail
    refine (holds0_calls _ s _ _ _ (FR.of_fq HV5.out (capQ_size _)) (HVZ3.out.of_below HB17.out)).mono ?_
    rintro e w8 ⟨rfl, hb⟩
    have HB8 := Hd (below_next HB7.out hb)
    have HB18 := Hd (below_next HB1.out HB8.out)
    have HH : Hid (holdsB s (fixQ (rawQ (capQ (dotQ (r.a.map fixQ) (x.map fixQ))))) 0 = rowGoes (x.map fixQ) r) := by unfold Hid rowGoes; rw [fix_cap, HSE.out]
    rw [HH.out]
    clear hb
    go_wp2_with fail
    refine And.intro HB8.out ⟨?_, ?_, ?_⟩
    rotate_left
    ·repeat (refine pu ?_; (try simp only [SQ]))
     exact rfl
    refine NoPanic.normal ?_
    cases hb : rowGoes (x.map fixQ) r with
    | false =>
     have HE2 : Hid (goesB p x = false) := by unfold Hid; rw [HE.out, all_false HRR.out hb]; rfl
     clear hb
     go_wp2_with fail
     go_ret
     exact ⟨by rw [HE2.out]; rfl, (HK.out.step HB18.out).2⟩
    | true =>
     have HG := Hd hb
     clear hb
     go_wp2_with fail
     go_roundw
     case rel =>
      refine ⟨i + 1, by omega, by go_num, fun j r' hj hr' => ?_, HK.out.step HB18.out, HVZ3.out.of_below HB18.out⟩
      by_cases hji : j = i
      ·rw [hji, HRR.out] at hr'
       injection hr' with e
       rw [← e]
       exact HG.out
      ·exact HA.out j r' (by omega) hr'
     case measure => simp [intOf]; omega
   ·obtain rfl : i = p.rows.length := by omega
    have HE2 : Hid (goesB p x = decide (signQ (capQ (dotQ (p.goal.map fixQ) (x.map fixQ))) > 0)) := by unfold Hid; rw [HE.out, all_true fun j r hr => HA.out j r (List.getElem?_eq_some_iff.1 hr).1 hr]; rfl
    obtain ⟨x0, x1, x2, x3⟩ := HK.out.c4 1 rfl
    go_wp2_with fail
    refine (fdot_calls _ _ _ p.goal x (H2.out.below EF.stays HK.out.2) (HX.out.below EF.stays HK.out.2) hgl hxl).mono ?_
    rintro e w7 ⟨v, rfl, hv, hb⟩
    obtain ⟨A7, n7, c7, A8, n8, c8, rfl, HV7⟩ := hv.opened
    have HK7 := Hd (HK.out.step hb)
    clear hv hb
    go_wp2_with fail
    refine (sgn_calls _ _ _ (FR.of_fq HV7.out (capQ_size _))).mono ?_
    rintro e w8 ⟨rfl, hb⟩
    rw [fix_cap]
    have HK8 := Hd (HK7.out.step hb)
    clear hb
    go_wp2_with fail
    go_ret
    exact ⟨by rw [HE2.out]; rfl, HK8.out.2⟩
def nthF (fs : List RawF) (i : Nat) : RawF := fs.getD i ⟨false, [], []⟩
theorem nthF_get {fs : List RawF} {i : Nat} {f : RawF} (h : fs[i]? = some f) : nthF fs i = f := by unfold nthF; rw [List.getD_eq_getElem?_getD, h]; rfl
def badSign (s : Int) (q : Rat) : Bool := (decide (s = -1) && decide (signQ q < 0)) || (decide (s = 1) && decide (signQ q > 0))
noncomputable def signsB (rows : List RowF) (y : List Rat) : Bool := (rows.zip y).all fun ry => !badSign ry.1.s ry.2
noncomputable def colL (rows : List RowF) (y : List Rat) (v : Nat) : List Rat := List.zipWith (fun r q => q * fixQ (nthF r.a v)) rows y
noncomputable def colQ (rows : List RowF) (y : List Rat) (v : Nat) : Rat := (colL rows y v).foldl dotStep 0
noncomputable def colV (rows : List RowF) (y : List Rat) (goal : Option (List RawF)) (v : Nat) : Rat := match goal with
 | none => colQ rows y v
 | some g => capQ (colQ rows y v + -(fixQ (nthF g v)))
def freeAt (p : ProgF) (v : Nat) : Bool := p.free.getD v false
noncomputable def colOk (p : ProgF) (y : List Rat) (goal : Option (List RawF)) (v : Nat) : Bool := !(decide (signQ (colV p.rows y goal v) < 0) || (decide (signQ (colV p.rows y goal v) > 0) && freeAt p v))
noncomputable def boundsB (p : ProgF) (y : List RawF) (goal : Option (List RawF)) : Bool := decide (y.length = p.rows.length) && (signsB p.rows (y.map fixQ) && (List.range p.vars.toNat).all (colOk p (y.map fixQ) goal))
theorem zip_all_false {α β : Type} {l : List α} {m : List β} {f : α × β → Bool} {i : Nat} {a : α} {b : β} (h1 : l[i]? = some a) (h2 : m[i]? = some b) (h : f (a, b) = false) : (l.zip m).all f = false := all_false (i := i) (by rw [List.getElem?_zip_eq_some]; exact ⟨h1, h2⟩) h
theorem zip_all_true {α β : Type} {l : List α} {m : List β} {f : α × β → Bool} (h : ∀ (i : Nat) (a : α) (b : β), l[i]? = some a → m[i]? = some b → f (a, b) = true) : (l.zip m).all f = true := all_true fun i ab hi => by
 obtain ⟨a, b⟩ := ab
 rw [List.getElem?_zip_eq_some] at hi
 exact h i a b hi.1 hi.2
theorem range_all_true {n : Nat} {f : Nat → Bool} (h : ∀ i, i < n → f i = true) : (List.range n).all f = true := by
 rw [List.all_eq_true]
 intro i hi
 exact h i (List.mem_range.1 hi)
theorem range_all_false {n : Nat} {f : Nat → Bool} {i : Nat} (hi : i < n) (h : f i = false) : (List.range n).all f = false := by
 rw [Bool.eq_false_iff, ne_eq, List.all_eq_true]
 intro h0
 rw [h0 i (List.mem_range.2 hi)] at h
 cases h
theorem signQ_zero_iff {q : Rat} : signQ q = 0 ↔ q = 0 := by
 unfold signQ
 constructor
 ·intro h
  split at h
  ·rename_i h0; exact Rat.num_eq_zero.1 h0
  ·split at h <;> omega
 ·rintro rfl; rfl
theorem neq_nil (w : World) : Sem.run Try.prog (binOp .neq 23 (.slice none 0 0) (.slice none 0 0)) w = .ok (.bool false) w := by
 kernel_rfl
theorem neq_some (w : World) (A : Addr) (n c : Nat) : Sem.run Try.prog (binOp .neq 23 (.slice (some A) n c) (.slice none 0 0)) w = .ok (.bool true) w := by
 kernel_rfl
theorem beqI' {a b : Int} (h : a = b) : (a == b) = true := by simpa using h
theorem bneI' {a b : Int} (h : a ≠ b) : (a == b) = false := by simpa using h
def GoV (w : World) (v : Value) (go : Option (List RawF)) (n : Int) : Prop := match go with
 | none => v = .slice none 0 0
 | some g => FL w v g ∧ (g.length : Int) = n
theorem boundsG_calls (w : World) (v v2 v3 : Value) (p : ProgF) (y : List RawF) (go : Option (List RawF)) (h : PR w v p) (h2 : FL w v2 y) (hgo : GoV w v3 go p.vars) (hr : rightP p = 0) (hy : y.length ≤ 100000) : Calls Try.prog 61 #[v, v2, v3] w fun e w' => BPost w (boundsB p y go) e w' := by
 have hrl := rightP_len hr
 clear hr
 obtain ⟨A1, c1, A2, c2, A3, c3, rfl, HI, H1, H2, H3⟩ := h.opened
 obtain ⟨A4, c4, rfl, hc4⟩ := h2.slice
 have HY := Hd h2
 clear h h2
 obtain ⟨vars, hv⟩ : ∃ n, n = p.vars := ⟨_, rfl⟩
 rw [← hv]
 have HV := Hd hv
 have hfl : (p.free.length : Int) = vars := by rw [hv]; exact hrl.1
 have hv1 : 1 ≤ vars := by rw [hv]; exact hrl.2.2.1
 have hvl : vars ≤ 160 := by rw [hv]; exact hrl.2.2.2.1
 have hrw : p.rows.length ≤ 400 := hrl.2.2.2.2.1
 have HROW : Hid (∀ (r : RowF), r ∈ p.rows → (r.a.length : Int) = vars) := by unfold Hid; rw [hv]; exact fun r hm => (hrl.2.2.2.2.2 r hm).1
 have hgo' : GoV w v3 go vars := by rw [hv]; exact hgo
 have HGO := Hd hgo'
 clear hgo hgo'
 clear hv hrl
 obtain ⟨n, hn⟩ : ∃ n : Nat, vars = (n : Int) := ⟨vars.toNat, by omega⟩
 subst hn
 have hn1 : 1 ≤ n := by omega
 have hn2 : n ≤ 160 := by omega
 have HFL : Hid (p.free.length = n) := by unfold Hid; omega
 have HVN : Hid (p.vars.toNat = n) := by unfold Hid; rw [← HV.out]; omega
 obtain ⟨ys, hys⟩ : ∃ ys, ys = y.map fixQ := ⟨_, rfl⟩
 have HYS := Hd hys
 clear hfl hv1 hvl hys
 go_enter Try.func61, Try.ntmps61
 by_cases q1 : y.length = p.rows.length
 case neg =>
  have u1 : ((y.length : Int) != (p.rows.length : Int)) = true := bneI (by omega)
  have HE : Hid (boundsB p y go = false) := by unfold Hid boundsB; rw [decide_eq_false q1]; rfl
  clear q1
  go_wp2_with fail
  go_ret
  exact ⟨by rw [HE.out]; rfl, below_new w _⟩
 have HE0 : Hid (boundsB p y go = (signsB p.rows ys && (List.range n).all (colOk p ys go))) := by unfold Hid boundsB; rw [decide_eq_true q1, HYS.out, HVN.out]; rfl
 have HLEN := Hd q1
 clear q1
 have hlr : p.rows.length = y.length := HLEN.out.symm
 have u1 : ((y.length : Int) != (p.rows.length : Int)) = false := beqI (by omega)
 clear hlr
 go_wp2_with fail
 have H0 := Hd (HS.one (w := w) #[.int .i64 (n : Int), .slice A1 p.free.length c1, .slice A2 p.goal.length c2, .slice A3 p.rows.length c3] 26)
 generalize w.alloc (.cells #[.int .i64 (n : Int), .slice A1 p.free.length c1, .slice A2 p.goal.length c2, .slice A3 p.rows.length c3] 26) = W0 at *
 clear u1
 go_loopw [24] (fun vi wr => ∃ i : Nat, i ≤ p.rows.length ∧ vi = .int .i64 (i : Int) ∧ (∀ (j : Nat) (r : RowF) (q : Rat), j < i → p.rows[j]? = some r → ys[j]? = some q → badSign r.s q = false) ∧ HS w [(w.heap.size, 26, #[.int .i64 (n : Int), .slice A1 p.free.length c1, .slice A2 p.goal.length c2, .slice A3 p.rows.length c3])] wr) (fun vi _ => p.rows.length - (intOf vi).toNat)
 case atStart => exact ⟨0, Nat.zero_le _, rfl, fun j _ _ h => absurd h (Nat.not_lt_zero _), H0.out⟩
 case round =>
  obtain ⟨i, hi, rfl, hall, hk⟩ := hrel
  have HA := Hd hall
  have HK := Hd hk
  clear hall hk
  by_cases hlt : i < p.rows.length
  ·obtain ⟨r, hr⟩ : ∃ r, p.rows[i]? = some r := ⟨p.rows[i], List.getElem?_eq_getElem hlt⟩
   have hly := HLEN.out
   obtain ⟨f, hf⟩ : ∃ f, y[i]? = some f := ⟨y[i]'(by omega), List.getElem?_eq_getElem _⟩
   obtain ⟨g1, o1, B1, d1, B2, n2, d2, B3, n3, d3, rfl, hg, k0, k1, k2, k3, k4, _, _, _⟩ := RL.at5 (H3.out.below ER.stays HK.out.2) hr
   obtain ⟨g2, o2, C1, l1, e1, C2, l2, e2, rfl, hg2, j0, j1, j2, HFE⟩ := FL.at3 (HY.out.below EF.stays HK.out.2) hf
   have HYI : Hid (ys[i]? = some (fixQ f)) := by unfold Hid; rw [HYS.out, List.getElem?_map, hf]; rfl
   have HRR := Hd hr
   have m1 : (i : Int) < (p.rows.length : Int) := by omega
   have m2 : (i : Int) < (y.length : Int) := by omega
   have m3 : (i : Int).toNat = i := by omega
   have m4 : (0 : Int) ≤ (i : Int) := by omega
   obtain ⟨s, hs⟩ : ∃ s, s = r.s := ⟨_, rfl⟩
   rw [← hs] at k1
   have HSE := Hd hs
   have hz0 := (HK.out.blk 0 rfl).lt
   clear hr hf hs hly
   go_wp2_with fail
   have HB1 := Hd (below_new wr (.cells #[.slice B1 r.a.length d1, .int .i64 s, .bool r.b.neg, .slice B2 n2 d2, .slice B3 n3 d3] 65))
   have HKB1 := Hd (Blk.new wr 65 #[.slice B1 r.a.length d1, .int .i64 s, .bool r.b.neg, .slice B2 n2 d2, .slice B3 n3 d3])
   generalize wr.alloc (.cells #[.slice B1 r.a.length d1, .int .i64 s, .bool r.b.neg, .slice B2 n2 d2, .slice B3 n3 d3] 65) = W1 at *
   refine (sgn_calls W1 _ f (HFE.out.of_below HB1.out)).mono ?_
   rintro e w2 ⟨rfl, hb⟩
   have HB2 := Hd (below_next HB1.out hb)
   have z1 := (HKB1.out.below hb HKB1.out.lt).cell (j := 1) rfl
   clear hb
   obtain ⟨c, hc⟩ : ∃ c, c = signQ (fixQ f) := ⟨_, rfl⟩
   have HBAD : Hid (badSign r.s (fixQ f) = ((decide (s = -1) && decide (c < 0)) || (decide (s = 1) && decide (c > 0)))) := by unfold Hid badSign; rw [← HSE.out, ← hc]
   rw [← hc]
   clear hc
   have fin : ∀ wz, Below wr.heap.size wr wz → badSign r.s (fixQ f) = false → (∃ i', i' ≤ p.rows.length ∧ Value.int .i64 ((i : Int) + 1) = .int .i64 (i' : Int) ∧ (∀ (j : Nat) (r : RowF) (q : Rat), j < i' → p.rows[j]? = some r → ys[j]? = some q → badSign r.s q = false) ∧ HS w [(w.heap.size, 26, #[.int .i64 (n : Int), .slice A1 p.free.length c1, .slice A2 p.goal.length c2, .slice (some ⟨g1, o1, none⟩) p.rows.length c3])] wz) := fun wz hbz hgood => by
    refine ⟨i + 1, by omega, by go_num, fun j r' q' hj hr' hq' => ?_, HK.out.step hbz⟩
    by_cases hji : j = i
    ·subst hji
     rw [HRR.out] at hr'
     rw [HYI.out] at hq'
     injection hr' with e1
     injection hq' with e2
     rw [← e1, ← e2]
     exact hgood
    ·exact HA.out j r' q' (by omega) hr' hq'
   have HFin := Hd fin
   have bad : badSign r.s (fixQ f) = true → boundsB p y go = false := fun h => by
    rw [HE0.out, show signsB p.rows ys = false from zip_all_false HRR.out HYI.out (by rw [h]; rfl)]
    rfl
   have HBadR := Hd bad
   clear fin bad
   by_cases s1 : s = -1
   ·have t1 : (s == -1) = true := beqI' s1
    by_cases s2 : c < 0
    ·have t2 : decide (c < 0) = true := decide_eq_true s2
     have HE2 := Hd (HBadR.out (by rw [HBAD.out, decide_eq_true s1, t2]; rfl))
     clear s1 s2
     go_wp2_with fail
     go_ret
     exact ⟨by rw [HE2.out]; rfl, (HK.out.step HB2.out).2⟩
    ·have t2 : decide (c < 0) = false := decide_eq_false s2
     have t3 : (s == 1) = false := bneI' (by omega)
     have HG : Hid (badSign r.s (fixQ f) = false) := by unfold Hid; rw [HBAD.out, t2, decide_eq_false (show ¬ s = 1 by omega)]; simp
     clear s1 s2
     go_wp2_with fail
     go_roundw
     case rel => exact HFin.out _ HB2.out HG.out
     case measure => simp [intOf]; omega
   ·have t1 : (s == -1) = false := bneI' s1
    by_cases s3 : s = 1
    ·have t3 : (s == 1) = true := beqI' s3
     by_cases s2 : c > 0
     ·have t2 : decide (c > 0) = true := decide_eq_true s2
      have HE2 := Hd (HBadR.out (by rw [HBAD.out, decide_eq_true s3, t2]; simp))
      clear s1 s2 s3
      go_wp2_with fail
      go_ret
      exact ⟨by rw [HE2.out]; rfl, (HK.out.step HB2.out).2⟩
     ·have t2 : decide (c > 0) = false := decide_eq_false s2
      have HG : Hid (badSign r.s (fixQ f) = false) := by unfold Hid; rw [HBAD.out, t2, decide_eq_false s1]; simp
      clear s1 s2 s3
      go_wp2_with fail
      go_roundw
      case rel => exact HFin.out _ HB2.out HG.out
      case measure => simp [intOf]; omega
    ·have t3 : (s == 1) = false := bneI' s3
     have HG : Hid (badSign r.s (fixQ f) = false) := by unfold Hid; rw [HBAD.out, decide_eq_false s1, decide_eq_false s3]; simp
     clear s1 s3
     go_wp2_with fail
     go_roundw
     case rel => exact HFin.out _ HB2.out HG.out
     case measure => simp [intOf]; omega
  ·obtain rfl : i = p.rows.length := by omega
   have HE1 : Hid (boundsB p y go = (List.range n).all (colOk p ys go)) := by
    unfold Hid
    rw [HE0.out, show signsB p.rows ys = true from zip_all_true fun j r q h1 h2 => by
     rw [HA.out j r q (List.getElem?_eq_some_iff.1 h1).1 h1 h2]; rfl]
    rfl
   obtain ⟨wo, hwo⟩ : ∃ wo, wo = wr := ⟨_, rfl⟩
   rw [← hwo] at HK ⊢
   obtain ⟨x0, x1, x2, x3⟩ := HK.out.c4 0 rfl
   clear hwo HA H0 HE0
   go_wp2_with fail
   clear x0 x1 x2 x3
   go_loopw [53] (fun vi wr => ∃ i : Nat, i ≤ n ∧ vi = .int .i64 (i : Int) ∧ (∀ (j : Nat), j < i → colOk p ys go j = true) ∧ HS w [(w.heap.size, 26, #[.int .i64 (n : Int), .slice A1 p.free.length c1, .slice A2 p.goal.length c2, .slice A3 p.rows.length c3])] wr) (fun vi _ => n - (intOf vi).toNat)
   case atStart => exact ⟨0, Nat.zero_le _, rfl, fun j h => absurd h (Nat.not_lt_zero _), HK.out⟩
   case round =>
    obtain ⟨i, hi, rfl, hall, hk⟩ := hrel
    have HA := Hd hall
    have HK2 := Hd hk
    clear hall hk HK
    by_cases hlt : i < n
    case neg =>
     obtain rfl : i = n := by omega
     have HE2 : Hid (boundsB p y go = true) := by unfold Hid; rw [HE1.out]; exact range_all_true HA.out
     go_wp2_with fail
     go_ret
     exact ⟨by rw [HE2.out]; rfl, HK2.out.2⟩
    have m1 : (i : Int) < (n : Int) := by omega
    go_wp2_with fail
    refine (frac_nil_calls wr).mono ?_
    rintro e w1 ⟨v, rfl, hv, hb⟩
    obtain ⟨D5, n5, d5, D6, n6, d6, rfl, HVZ⟩ := hv.opened
    have HK3 := Hd (HK2.out.step hb)
    obtain ⟨x0, x1, x2, x3⟩ := HK3.out.c4 0 rfl
    have hlt2 := (HK3.out.blk 0 rfl).lt
    clear hv hb
    go_wp2_with fail
    clear x0 x1 x2 x3
    have HK4 := Hd (HK3.out.more (.cells #[.bool (negQ 0), .slice D5 n5 d5, .slice D6 n6 d6] 40))
    have HA0 := Hd (show AccF (w1.alloc (.cells #[.bool (negQ 0), .slice D5 n5 d5, .slice D6 n6 d6] 40)) w1.heap.size 0 from ⟨D5, n5, d5, D6, n6, d6, Blk.new _ _ _, HVZ.out.of_below (below_new _ _)⟩)
    obtain ⟨gz, hgz⟩ : ∃ gz, gz = w1.heap.size := ⟨_, rfl⟩
    rw [← hgz] at HA0
    have hzne : w.heap.size < gz := by omega
    generalize w1.alloc (.cells #[.bool (negQ 0), .slice D5 n5 d5, .slice D6 n6 d6] 40) = W2 at *
    rw [← hgz]
    clear hgz
    obtain ⟨ds, hds⟩ : ∃ ds, ds = colL p.rows ys i := ⟨_, rfl⟩
    have HDS := Hd hds
    clear hds hlt2
    go_loopw [60] (fun vj wr => ∃ j : Nat, j ≤ p.rows.length ∧ vj = .int .i64 (j : Int) ∧ AccF wr gz ((ds.take j).foldl dotStep 0) ∧ HS w [(w.heap.size, 26, #[.int .i64 (n : Int), .slice A1 p.free.length c1, .slice A2 p.goal.length c2, .slice A3 p.rows.length c3])] wr) (fun vj _ => p.rows.length - (intOf vj).toNat)
    case atStart => exact ⟨0, Nat.zero_le _, rfl, HA0.out, HK4.out⟩
    case round =>
     obtain ⟨j, hj, rfl, hacc, hk⟩ := hrel
     have HA5 := Hd hacc
     have HK5 := Hd hk
     have hcap : capQ ((ds.take j).foldl dotStep 0) = (ds.take j).foldl dotStep 0 := rdot_cap _ _ capQ_zero
     obtain ⟨sm, hsm⟩ : ∃ s, s = (ds.take j).foldl dotStep 0 := ⟨_, rfl⟩
     rw [← hsm] at hcap HA5
     have HSM := Hd hsm
     have HCAP := Hd hcap
     clear hacc hk hsm hcap HA0 HK4 HK3
     by_cases hjlt : j < p.rows.length
     ·obtain ⟨r, hr⟩ : ∃ r, p.rows[j]? = some r := ⟨p.rows[j], List.getElem?_eq_getElem hjlt⟩
      have hly := HLEN.out
      have hra := HROW.out r (List.mem_of_getElem? hr)
      obtain ⟨f, hf⟩ : ∃ f, y[j]? = some f := ⟨y[j]'(by omega), List.getElem?_eq_getElem _⟩
      obtain ⟨av, hav⟩ : ∃ f, r.a[i]? = some f := ⟨r.a[i]'(by omega), List.getElem?_eq_getElem _⟩
      obtain ⟨g1, o1, B1, d1, B2, n2, d2, B3, n3, d3, rfl, hg, k0, k1, k2, k3, k4, _, HRA, _⟩ := RL.at5 (H3.out.below ER.stays HK5.out.2) hr
      obtain ⟨g2, o2, C1, l1, e1, C2, l2, e2, rfl, hg2, j0, j1, j2, HFE⟩ := FL.at3 (HY.out.below EF.stays HK5.out.2) hf
      obtain ⟨g3, o3, C3, l3, e3, C4, l4, e4, rfl, hg3, q0, q1, q2, HAE⟩ := FL.at3 HRA.out hav
      have hdj : ds[j]? = some (fixQ f * fixQ av) := by rw [HDS.out, HYS.out]; unfold colL; simp [List.getElem?_zipWith, hr, hf, nthF_get hav]
      obtain ⟨pr, hpr⟩ : ∃ q, q = fixQ f * fixQ av := ⟨_, rfl⟩
      rw [← hpr] at hdj
      have HPR := Hd hpr
      have HNX : Hid ((ds.take (j + 1)).foldl dotStep 0 = dotStep sm pr) := by
       unfold Hid
       rw [List.take_add_one, hdj]
       rw [show ds.take j ++ (some pr).toList = ds.take j ++ [pr] from rfl, fold_snoc, ← HSM.out]
      have n1 : (j : Int) < (p.rows.length : Int) := by omega
      have n2' : (j : Int) < (y.length : Int) := by omega
      have n3' : (j : Int).toNat = j := by omega
      have n4' : (0 : Int) ≤ (j : Int) := by omega
      have n5' : (i : Int) < (r.a.length : Int) := by omega
      have n6' : (i : Int).toNat = i := by omega
      have n7' : (0 : Int) ≤ (i : Int) := by omega
      obtain ⟨s, hs⟩ : ∃ s, s = r.s := ⟨_, rfl⟩
      rw [← hs] at k1
      have hz0 := (HK5.out.blk 0 rfl).lt
      clear hr hf hs hly hav hdj hpr hra
      go_wp2_with fail
      have HB1 := Hd (below_new wr (.cells #[.slice (some ⟨g3, o3, none⟩) r.a.length d1, .int .i64 s, .bool r.b.neg, .slice B2 n2 d2, .slice B3 n3 d3] 65))
      have HKB1 := Hd (Blk.new wr 65 #[.slice (some ⟨g3, o3, none⟩) r.a.length d1, .int .i64 s, .bool r.b.neg, .slice B2 n2 d2, .slice B3 n3 d3])
      obtain ⟨gr, hgr⟩ : ∃ gr, gr = wr.heap.size := ⟨_, rfl⟩
      rw [← hgr] at HKB1
      generalize wr.alloc (.cells #[.slice (some ⟨g3, o3, none⟩) r.a.length d1, .int .i64 s, .bool r.b.neg, .slice B2 n2 d2, .slice B3 n3 d3] 65) = W1 at *
      rw [← hgr]
      clear hgr
      refine (sgn_calls W1 _ f (HFE.out.of_below HB1.out)).mono ?_
      rintro e w2 ⟨rfl, hb⟩
      have HB2 := Hd (below_next HB1.out hb)
      have hkb2 := HKB1.out.below hb HKB1.out.lt
      have z0 := hkb2.cell (j := 0) rfl
      have hzl := hkb2.lt
      clear hb hkb2
      have HRound : Hid (∀ wz, AccF wz gz (dotStep sm pr) → HS w [(w.heap.size, 26, #[.int .i64 (n : Int), .slice A1 p.free.length c1, .slice A2 p.goal.length c2, .slice (some ⟨g1, o1, none⟩) p.rows.length c3])] wz → ∃ j', j' ≤ p.rows.length ∧ Value.int .i64 ((j : Int) + 1) = .int .i64 (j' : Int) ∧ AccF wz gz ((ds.take j').foldl dotStep 0) ∧ HS w [(w.heap.size, 26, #[.int .i64 (n : Int), .slice A1 p.free.length c1, .slice A2 p.goal.length c2, .slice (some ⟨g1, o1, none⟩) p.rows.length c3])] wz) := by
       intro wz h1 h2
       exact ⟨j + 1, by omega, by go_num, by rw [HNX.out]; exact h1, h2⟩
      by_cases s0 : signQ (fixQ f) = 0
      ·have t0 : (signQ (fixQ f) != 0) = false := beqI s0
       have HP0 : Hid (dotStep sm pr = sm) := by unfold Hid; rw [HPR.out, signQ_zero_iff.1 s0, Rat.zero_mul, dotStep_zero HCAP.out]
       clear s0
       go_wp2_with fail
       go_roundw
       case rel => exact HRound.out _ (by rw [HP0.out]; exact HA5.out.step HB2.out) (HK5.out.step HB2.out)
       case measure => simp [intOf]; omega
      have t0 : (signQ (fixQ f) != 0) = true := bneI s0
      clear s0
      have HA6 := Hd (HA5.out.step HB2.out)
      have hb2c := (bcell HB2.out).1
      obtain ⟨E5, k5, f5, E6, k6, f6, hk, hR⟩ := HA6.out
      have HR1 := Hd hR
      obtain ⟨a0, a1, a2⟩ := hk.c3
      obtain ⟨b0, b1, b2⟩ := hk.f3
      have hlt3 := hk.lt
      have HFE2 := Hd (HFE.out.of_below HB2.out)
      have HAE2 := Hd (HAE.out.of_below HB2.out)
      have HK6 := Hd (HK5.out.step HB2.out)
      have j0' := (hb2c g2 _ hg2).trans j0
      have j1' := (hb2c g2 _ hg2).trans j1
      have j2' := (hb2c g2 _ hg2).trans j2
      have q0' := (hb2c g3 _ hg3).trans q0
      have q1' := (hb2c g3 _ hg3).trans q1
      have q2' := (hb2c g3 _ hg3).trans q2
      have hg2' : g2 < w2.heap.size := Nat.lt_of_lt_of_le hg2 HB2.out.size
      have hg3' : g3 < w2.heap.size := Nat.lt_of_lt_of_le hg3 HB2.out.size
      clear hR hk hb2c j0 j1 j2 q0 q1 q2 k0 k1 k2 k3 k4
      go_wp2_with fail
      refine wp_chain (S := Below w2.heap.size w2) 12 [([0, 1, 2, 3, 4, 5, 6, 7, 8, 9], 10), ([], 11), ([], 12)] (by kernel_rfl) (by kernel_rfl) (by kernel_rfl) rfl (Below.drew (Below.refl _ _)) ?_
      refine ⟨?_, _, ?_, rfl, ?_⟩
      rotate_left
      ·repeat (refine pu ?_; (try simp only [SQ]))
       exact rfl
      go_wp2_with fail
      refine (fmul_calls _ _ _ f av (HFE2.out.of_below (Below.drew (Below.refl _ _))) (HAE2.out.of_below (Below.drew (Below.refl _ _)))).mono ?_
      rintro e w7 ⟨v, rfl, hv, hb⟩
      rw [← HPR.out] at hv
      obtain ⟨A7, n7, c7, A8, n8, c8, rfl, HV5⟩ := hv.opened
      have HB7 := Hd (below_next (Below.drew (Below.refl w2.heap.size w2)) hb)
      clear hv hb
      go_wp2_with fail
      refine And.intro HB7.out ⟨_, _, rfl, rfl, ?_⟩
      go_wp2_with fail
      refine (fadd_calls _ _ _ _ _ (FR.of_fq (HR1.out.of_below HB7.out) (by rw [← HCAP.out]; exact capQ_size _)) (FR.of_fq HV5.out (capQ_size _))).mono ?_
      rintro e w8 ⟨v, rfl, hv, hb⟩
      have hpost : capQ (fixQ (rawQ sm) + fixQ (rawQ (capQ pr))) = dotStep sm pr := by
       rw [fixQ_raw _ (by rw [← HCAP.out]; exact capQ_size _), fixQ_raw _ (capQ_size _)]
       rfl
      rw [hpost] at hv
      obtain ⟨A9, n9, c9, A10, n10, c10, rfl, HV6⟩ := hv.opened
      have HB8 := Hd (below_next HB7.out hb)
      clear hv hb hpost
      go_wp2_with fail
      refine And.intro HB8.out ⟨_, _, rfl, rfl, ?_⟩
      have HA8 := Hd (HA6.out.step HB8.out)
      obtain ⟨_, _, _, _, _, _, hk5, _⟩ := HA8.out
      obtain ⟨y0, y1, y2⟩ := hk5.c3
      obtain ⟨f0, f1, f2⟩ := hk5.f3
      clear hk5
      go_wp2_with fail
      refine NoPanic.normal ?_
      go_wp2_with fail
      go_roundw
      case rel => exact HRound.out _ (HA8.out.put HV6.out) ((HK6.out.step HB8.out).other3 (by omega) (by simp; omega) _ _ _)
      case measure => simp [intOf]; omega
     ·obtain rfl : j = p.rows.length := by omega
      have hly := HLEN.out
      have hzl : ds.take p.rows.length = ds := List.take_of_length_le (by rw [HDS.out, HYS.out]; unfold colL; rw [List.length_zipWith, List.length_map]; omega)
      have HCQ : Hid (colQ p.rows ys i = sm) := by unfold Hid colQ; rw [← HDS.out, HSM.out, hzl]
      clear hzl hly
      have hif : i < p.free.length := by have := HFL.out; omega
      obtain ⟨bf, hbf⟩ : ∃ b, p.free[i]? = some b := ⟨p.free[i], List.getElem?_eq_getElem hif⟩
      obtain ⟨g4, o4, rfl, hg4, kb⟩ := BL.at1 (H1.out.below EB.stays HK5.out.2) hbf
      have HFA : Hid (freeAt p i = bf) := by unfold Hid freeAt; rw [List.getD_eq_getElem?_getD, hbf]; rfl
      have m6 : (i : Int).toNat = i := by omega
      have m7 : (0 : Int) ≤ (i : Int) := by omega
      have m8 : (i : Int) < (p.free.length : Int) := by omega
      have HBF := Hd hbf
      clear hbf hif
      rcases go with _ | g
      ·obtain rfl : v3 = .slice none 0 0 := HGO.out
       have HCV : Hid (colV p.rows ys none i = sm) := by unfold Hid colV; exact HCQ.out
       obtain ⟨E5, k5, f5, E6, k6, f6, hk, hR⟩ := HA5.out
       have HR1 := Hd hR
       obtain ⟨a0, a1, a2⟩ := hk.c3
       have hnn := neq_nil wr
       clear hR hk
       go_wp2_with fail
       refine (sgn_calls _ _ _ (FR.of_fq HR1.out (by rw [← HCAP.out]; exact capQ_size _))).mono ?_
       rintro e wE ⟨rfl, hb⟩
       rw [fixQ_raw _ (by rw [← HCAP.out]; exact capQ_size _)]
       have HKE := Hd (HK5.out.step hb)
       have kb' := ((bcell hb).1 g4 _ hg4).trans kb
       clear hb kb
       obtain ⟨x0, x1, x2, x3⟩ := HKE.out.c4 0 rfl
       have hltp := (HKE.out.blk 0 rfl).lt
       obtain ⟨c, hc⟩ : ∃ c, c = signQ sm := ⟨_, rfl⟩
       have HOK : Hid (colOk p ys none i = !(decide (c < 0) || (decide (c > 0) && bf))) := by unfold Hid colOk; rw [HCV.out, hc, HFA.out]
       rw [← hc]
       clear hc
       have HRound : Hid (∀ wz, Below wE.heap.size wE wz → colOk p ys none i = true → ∃ i', i' ≤ n ∧ Value.int .i64 ((i : Int) + 1) = .int .i64 (i' : Int) ∧ (∀ (j : Nat), j < i' → colOk p ys none j = true) ∧ HS w [(w.heap.size, 26, #[.int .i64 (n : Int), .slice (some ⟨g4, o4, none⟩) p.free.length c1, .slice A2 p.goal.length c2, .slice A3 p.rows.length c3])] wz) := by
        intro wz h1 h2
        refine ⟨i + 1, by omega, by go_num, fun j hj => ?_, HKE.out.step h1⟩
        by_cases hji : j = i
        ·rw [hji]; exact h2
        ·exact HA.out j (by omega)
       by_cases s1 : c < 0
       ·have t1 : decide (c < 0) = true := decide_eq_true s1
        have HE2 : Hid (boundsB p y none = false) := by unfold Hid; rw [HE1.out]; exact range_all_false hlt (by rw [HOK.out, t1]; rfl)
        clear s1
        go_wp2_with fail
        go_ret
        exact ⟨by rw [HE2.out]; rfl, HKE.out.2⟩
       have t1 : decide (c < 0) = false := decide_eq_false s1
       by_cases s2 : c > 0
       ·have t2 : decide (c > 0) = true := decide_eq_true s2
        cases bf with
        | true =>
         have HE2 : Hid (boundsB p y none = false) := by unfold Hid; rw [HE1.out]; exact range_all_false hlt (by rw [HOK.out, t1, t2]; rfl)
         clear s1 s2
         go_wp2_with fail
         go_ret
         exact ⟨by rw [HE2.out]; rfl, HKE.out.2⟩
        | false =>
         have HG : Hid (colOk p ys none i = true) := by unfold Hid; rw [HOK.out, t1, t2]; rfl
         clear s1 s2
         go_wp2_with fail
         go_roundw
         case rel => exact HRound.out _ (Below.refl _ _) HG.out
         case measure => simp [intOf]; omega
       ·have t2 : decide (c > 0) = false := decide_eq_false s2
        have HG : Hid (colOk p ys none i = true) := by unfold Hid; rw [HOK.out, t1, t2]; rfl
        clear s1 s2
        go_wp2_with fail
        go_roundw
        case rel => exact HRound.out _ (Below.refl _ _) HG.out
        case measure => simp [intOf]; omega
      ·obtain ⟨hg3, hgl⟩ : FL w v3 g ∧ (g.length : Int) = (n : Int) := HGO.out
       have HGV := Hd hgl
       obtain ⟨g0, hg0⟩ : ∃ f, g[0]? = some f := ⟨g[0]'(by omega), List.getElem?_eq_getElem _⟩
       obtain ⟨A6, c6, rfl, hc6⟩ := hg3.slice
       obtain ⟨gb, ob, _, _, _, _, _, _, rfl, _, _, _, _, _⟩ := FL.at3 hg3 hg0
       have HG := Hd hg3
       clear hg0 hg3
       clear hgl
       obtain ⟨fg, hfg⟩ : ∃ f, g[i]? = some f := ⟨g[i]'(by have := HGV.out; omega), List.getElem?_eq_getElem _⟩
       obtain ⟨g5, o5, C5, l5, e5, C6, l6, e6, ee, hg5, q0, q1, q2, HGE⟩ := FL.at3 (HG.out.below EF.stays HK5.out.2) hfg
       injection ee with ee
       injection ee with ee1 ee2
       subst ee1 ee2
       have m9 : (i : Int) < (g.length : Int) := by have := HGV.out; omega
       obtain ⟨cv, hcv⟩ : ∃ c, c = capQ (sm + -(fixQ fg)) := ⟨_, rfl⟩
       have HCV : Hid (colV p.rows ys (some g) i = cv) := by unfold Hid colV; simp only; rw [HCQ.out, nthF_get hfg, hcv]
       have HCC := Hd hcv
       obtain ⟨E5, k5, f5, E6, k6, f6, hk, hR⟩ := HA5.out
       have HR1 := Hd hR
       obtain ⟨a0, a1, a2⟩ := hk.c3
       obtain ⟨b0, b1, b2⟩ := hk.f3
       have hlt3 := hk.lt
       have hnn := neq_some wr ⟨gb, ob, none⟩ g.length c6
       clear hR hk hfg hcv
       go_wp2_with fail
       refine wp_chain (S := Below wr.heap.size wr) 6 [([0, 1, 2, 3, 4], 5), ([], 6)] (by kernel_rfl) (by kernel_rfl) (by kernel_rfl) rfl (Below.drew (Below.refl _ _)) ?_
       refine ⟨?_, _, ?_, rfl, ?_⟩
       rotate_left
       ·repeat (refine pu ?_; (try simp only [SQ]))
        exact rfl
       go_wp2_with fail
       refine (fsub_calls _ _ _ _ fg (FR.of_fq (HR1.out.of_below (Below.drew (Below.refl _ _))) (by rw [← HCAP.out]; exact capQ_size _)) (HGE.out.of_below (Below.drew (Below.refl _ _)))).mono ?_
       rintro e w8 ⟨v, rfl, hv, hb⟩
       rw [fixQ_raw _ (by rw [← HCAP.out]; exact capQ_size _), ← HCC.out] at hv
       obtain ⟨A9, n9, c9, A10, n10, c10, rfl, HV6⟩ := hv.opened
       have HB8 := Hd (below_next (Below.drew (Below.refl wr.heap.size wr)) hb)
       clear hv hb
       go_wp2_with fail
       refine And.intro HB8.out ⟨_, _, rfl, rfl, ?_⟩
       have HA8 := Hd (HA5.out.step HB8.out)
       obtain ⟨_, _, _, _, _, _, hk5, _⟩ := HA8.out
       obtain ⟨y0, y1, y2⟩ := hk5.c3
       obtain ⟨f0, f1, f2⟩ := hk5.f3
       clear hk5
       go_wp2_with fail
       refine NoPanic.normal ?_
       have HA9 := Hd (HA8.out.put HV6.out)
       have HK9 := Hd ((HK5.out.step HB8.out).other3 (g := gz) (by omega) (by simp; omega) (.bool (negQ cv)) (.slice A9 n9 c9) (.slice A10 n10 c10))
       generalize ((w8.setCell ⟨gz, 0, none⟩ (.bool (negQ cv))).setCell ⟨gz, 1, none⟩ (.slice A9 n9 c9)).setCell ⟨gz, 2, none⟩ (.slice A10 n10 c10) = W9 at *
       obtain ⟨E7, k7, f7, E8, k8, f8, hk, hR⟩ := HA9.out
       have HR9 := Hd hR
       obtain ⟨i0, i1, i2⟩ := hk.c3
       clear hR hk
       go_wp2_with fail
       have hcs : sizeQ cv ≤ 4096 := by rw [HCC.out]; exact capQ_size _
       refine (sgn_calls _ _ _ (FR.of_fq HR9.out hcs)).mono ?_
       rintro e wE ⟨rfl, hb⟩
       rw [fixQ_raw _ hcs]
       have HKE := Hd (HK9.out.step hb)
       obtain ⟨g4', o4', ee, hg4', kb'⟩ := BL.at1 (H1.out.below EB.stays HKE.out.2) HBF.out
       injection ee with ee
       injection ee with ee1 ee2
       subst ee1 ee2
       clear hb kb
       obtain ⟨x0, x1, x2, x3⟩ := HKE.out.c4 0 rfl
       have hltp := (HKE.out.blk 0 rfl).lt
       obtain ⟨c, hc⟩ : ∃ c, c = signQ cv := ⟨_, rfl⟩
       have HOK : Hid (colOk p ys (some g) i = !(decide (c < 0) || (decide (c > 0) && bf))) := by unfold Hid colOk; rw [HCV.out, hc, HFA.out]
       rw [← hc]
       clear hc
       have HRound : Hid (∀ wz, Below wE.heap.size wE wz → colOk p ys (some g) i = true → ∃ i', i' ≤ n ∧ Value.int .i64 ((i : Int) + 1) = .int .i64 (i' : Int) ∧ (∀ (j : Nat), j < i' → colOk p ys (some g) j = true) ∧ HS w [(w.heap.size, 26, #[.int .i64 (n : Int), .slice (some ⟨g4, o4, none⟩) p.free.length c1, .slice A2 p.goal.length c2, .slice A3 p.rows.length c3])] wz) := by
        intro wz h1 h2
        refine ⟨i + 1, by omega, by go_num, fun j hj => ?_, HKE.out.step h1⟩
        by_cases hji : j = i
        ·rw [hji]; exact h2
        ·exact HA.out j (by omega)
       by_cases s1 : c < 0
       ·have t1 : decide (c < 0) = true := decide_eq_true s1
        have HE2 : Hid (boundsB p y (some g) = false) := by unfold Hid; rw [HE1.out]; exact range_all_false hlt (by rw [HOK.out, t1]; rfl)
        clear s1
        go_wp2_with fail
        go_ret
        exact ⟨by rw [HE2.out]; rfl, HKE.out.2⟩
       have t1 : decide (c < 0) = false := decide_eq_false s1
       by_cases s2 : c > 0
       ·have t2 : decide (c > 0) = true := decide_eq_true s2
        cases bf with
        | true =>
         have HE2 : Hid (boundsB p y (some g) = false) := by unfold Hid; rw [HE1.out]; exact range_all_false hlt (by rw [HOK.out, t1, t2]; rfl)
         clear s1 s2
         go_wp2_with fail
         go_ret
         exact ⟨by rw [HE2.out]; rfl, HKE.out.2⟩
        | false =>
         have HG : Hid (colOk p ys (some g) i = true) := by unfold Hid; rw [HOK.out, t1, t2]; rfl
         clear s1 s2
         go_wp2_with fail
         go_roundw
         case rel => exact HRound.out _ (Below.refl _ _) HG.out
         case measure => simp [intOf]; omega
       ·have t2 : decide (c > 0) = false := decide_eq_false s2
        have HG : Hid (colOk p ys (some g) i = true) := by unfold Hid; rw [HOK.out, t1, t2]; rfl
        clear s1 s2
        go_wp2_with fail
        go_roundw
        case rel => exact HRound.out _ (Below.refl _ _) HG.out
        case measure => simp [intOf]; omega
theorem bounds0_calls (w : World) (v v2 : Value) (p : ProgF) (y : List RawF) (h : PR w v p) (h2 : FL w v2 y) (hr : rightP p = 0) (hy : y.length ≤ 100000) : Calls Try.prog 61 #[v, v2, .slice none 0 0] w fun e w' => BPost w (boundsB p y none) e w' := boundsG_calls w v v2 _ p y none h h2 rfl hr hy
theorem bounds_calls (w : World) (v v2 : Value) (p : ProgF) (y : List RawF) (h : PR w v p) (h2 : FL w v2 y) (v3 : Value) (g : List RawF) (hg3 : FL w v3 g) (hgl : (g.length : Int) = p.vars) (hr : rightP p = 0) (hy : y.length ≤ 100000) : Calls Try.prog 61 #[v, v2, v3] w fun e w' => BPost w (boundsB p y (some g)) e w' := boundsG_calls w v v2 v3 p y (some g) h h2 ⟨hg3, hgl⟩ hr hy
theorem fmake_calls (w : World) (n : Int) (h0 : -9223372036854775808 ≤ n) (h1 : n < 9223372036854775808) :
  Calls Try.prog 113 #[.int .i64 n, .int .i64 1] w fun e w' => ∃ v, e = .returned (.tuple #[v, .int .i64 0]) ∧ FQ w' v (n : Rat) ∧ Below w.heap.size w w' := by
 go_enter Try.func113, Try.ntmps113
 go_wp2_with fail
 have H0 := Hd (HS.one (w := w) #[.bool false, .slice none 0 0, .slice none 0 0] 40)
 generalize w.alloc (.cells #[.bool false, .slice none 0 0, .slice none 0 0] 40) = W0 at *
 refine (whole_calls W0 n h0 h1).mono ?_
 rintro e w1 ⟨v, rfl, hv, hb⟩
 obtain ⟨A1, n1, c1, A2, n2, c2, rfl, HV⟩ := hv.opened'
 have H1 := Hd (H0.out.step hb)
 clear hv hb
 go_wp2_with fail
 refine (whole_calls w1 1 (by omega) (by omega)).mono ?_
 rintro e w2 ⟨v, rfl, hv, hb⟩
 have hone : ((1 : Int) : Rat) = 1 := rfl
 rw [hone] at hv
 obtain ⟨A3, n3, c3, A4, n4, c4, rfl, HW⟩ := hv.opened'
 have H2 := Hd (H1.out.step hb)
 have HV2 := Hd (HV.out.of_below hb)
 clear hv hb hone
 go_wp2_with fail
 refine (over_calls w2 _ 1 HW.out (by decide)).mono ?_
 rintro e w3 ⟨v, rfl, hv, hb⟩
 rw [rat_inv_one] at hv
 obtain ⟨A5, n5, c5, A6, n6, c6, rfl, HW3⟩ := hv.opened'
 have H3 := Hd (H2.out.step hb)
 have HV3 := Hd (HV2.out.of_below hb)
 clear hv hb
 go_wp2_with fail
 have hs := size_int n h0 h1
 refine (times_calls w3 _ _ (n : Rat) 1 HV3.out HW3.out (by omega) (by have := size_int 1 (by omega) (by omega); have e : ((1 : Int) : Rat) = 1 := rfl; rw [e] at this; omega)).mono ?_
 rintro e w4 ⟨v, rfl, hv, hb⟩
 rw [Rat.mul_one] at hv
 obtain ⟨A7, n7, c7, A8, n8, c8, rfl, HV4⟩ := hv.opened'
 have H4 := Hd (H3.out.step hb)
 clear hv hb
 go_wp2_with fail
 refine (told_calls w4 _ (n : Rat) HV4.out (by omega)).mono ?_
 rintro e w5 ⟨v, rfl, hv, hb⟩
 rw [capQ_fits (show sizeQ (n : Rat) ≤ 4096 by omega)] at hv
 obtain ⟨A9, n9, c9, A10, n10, c10, rfl, HV5⟩ := hv.opened
 have H5 := Hd (H4.out.step hb)
 clear hv hb hs
 obtain ⟨f0, f1, f2⟩ := (H5.out.blk 0 rfl).f3
 obtain ⟨x0, x1, x2⟩ := (H5.out.blk 0 rfl).c3
 go_wp2_with fail
 refine ret40i Try.results113 rfl rfl ((H5.out.blk 0 rfl).put3 _ _ _) ⟨_, rfl, HV5.out.put3 (H5.out.blk 0 rfl) ni40 _ _ _, below_put3 H5.out.2 (by omega) _ _ _⟩
theorem number_calls (w : World) (n : Int) (h0 : -9223372036854775808 ≤ n) (h1 : n < 9223372036854775808) : Calls Try.prog 80 #[.int .i64 n] w fun e w' => FPost w (n : Rat) e w' := by
 go_enter Try.func80, Try.ntmps80
 go_wp2_with fail
 have H0 := Hd (HS.one (w := w) #[.bool false, .slice none 0 0, .slice none 0 0] 40)
 generalize w.alloc (.cells #[.bool false, .slice none 0 0, .slice none 0 0] 40) = W0 at *
 refine (fmake_calls W0 n h0 h1).mono ?_
 rintro e w1 ⟨v, rfl, hv, hb⟩
 obtain ⟨A1, n1, c1, A2, n2, c2, rfl, HV⟩ := FQ.opened hv
 have H1 := Hd (H0.out.step hb)
 clear hv hb
 obtain ⟨f0, f1, f2⟩ := (H1.out.blk 0 rfl).f3
 obtain ⟨x0, x1, x2⟩ := (H1.out.blk 0 rfl).c3
 have hlt := (H1.out.blk 0 rfl).lt
 go_wp2_with fail
 exact ret40 Try.results80 rfl (((H1.out.blk 0 rfl).put3 _ _ _).alloc _) ⟨_, rfl, (HV.out.put3 (H1.out.blk 0 rfl) ni40 _ _ _).of_below (below_new _ _), below_next (below_put3 H1.out.2 (Nat.le_refl _) _ _ _) (below_new _ _)⟩
def EI (w : World) (vs : Array Value) (n : Int) : Prop := vs = #[.int .i64 n]
theorem EI.stays : Stays EI := fun _ _ _ _ h _ => h
abbrev IL (w : World) (v : Value) (l : List Int) : Prop := SL 1 EI w v l
theorem IL.at1 {w : World} {A : Option Addr} {n c : Nat} {l : List Int} (h : IL w (.slice A n c) l) {j : Nat} {b : Int} (hj : l[j]? = some b) : ∃ g o, A = some ⟨g, o, none⟩ ∧ g < w.heap.size ∧ w.cell? ⟨g, o + j, none⟩ = some (.int .i64 b) := by
 obtain ⟨g, o, vs, hA, hg, hs, hc, he⟩ := h.at_ hj
 subst he
 have := hc 0 _ rfl
 rw [Nat.mul_one] at this
 exact ⟨g, o, hA, hg, this⟩
def unitL (n : Nat) (v : Int) : List Rat := (List.range n).map fun (i : Nat) => if (i : Int) = v then (1 : Rat) else 0
def unitQ (n : Nat) (v s b : Int) : RowQ := ⟨unitL n v, s, b⟩
theorem Blk.c5 {W : World} {g t : Nat} {a b c d e : Value} (h : Blk W g t #[a, b, c, d, e]) : W.cell? ⟨g, 0, none⟩ = some a ∧ W.cell? ⟨g, 1, none⟩ = some b ∧ W.cell? ⟨g, 2, none⟩ = some c ∧ W.cell? ⟨g, 3, none⟩ = some d ∧ W.cell? ⟨g, 4, none⟩ = some e := ⟨h.cell rfl, h.cell rfl, h.cell rfl, h.cell rfl, h.cell rfl⟩
open Go
inductive CU where
 | fin (p0 : List Nat)
 | one (p : List Nat) (c : Nat) (t : CU)
 | two (p : List Nat) (c1 : Nat) (t1 : CU) (c2 : Nat) (t2 : CU)
 | three (p : List Nat) (c1 : Nat) (t1 : CU) (c2 : Nat) (t2 : CU) (c3 : Nat) (t3 : CU)
section
variable {P : Program} {ops : Array Oper} {Q : Exit → Act → World → Prop} {md : Region.Mode} {S : World → Prop} {L : Nat}
def CU.len : CU → Nat
 | .fin p0 => p0.length
 | .one p _ t => p.length + 1 + t.len
 | .two p _ t1 _ _ => p.length + 1 + t1.len
 | .three p _ t1 _ _ _ _ => p.length + 1 + t1.len
def forkF (P : Program) (ops : Array Oper) (Q : Exit → Act → World → Prop) (S : World → Prop) (os : List Oper) : CU → Act → World → Prop
 | .fin p0, a, w => ∃ A, pureTo P ops S p0 a A ∧ wpList P ops Q os A w
 | .one p c t, a, w => ∃ A o, pureTo P ops S p a A ∧ ops[c]? = some o ∧ wpList P ops (chainQ Q fun a' w' => S w' ∧ forkF P ops Q S os t a' w') [o] A w
 | .two p c1 t1 c2 t2, a, w => ∃ A o1 o2, pureTo P ops S p a A ∧ ops[c1]? = some o1 ∧ ops[c2]? = some o2 ∧ wpList P ops (chainQ Q fun a' w' => S w' ∧ forkF P ops Q S os t1 a' w') [o1] A w ∧ wpList P ops (chainQ Q fun a' w' => S w' ∧ forkF P ops Q S os t2 a' w') [o2] A w
 | .three p c1 t1 c2 t2 c3 t3, a, w => ∃ A o1 o2 o3, pureTo P ops S p a A ∧ ops[c1]? = some o1 ∧ ops[c2]? = some o2 ∧ ops[c3]? = some o3 ∧ wpList P ops (chainQ Q fun a' w' => S w' ∧ forkF P ops Q S os t1 a' w') [o1] A w ∧ wpList P ops (chainQ Q fun a' w' => S w' ∧ forkF P ops Q S os t2 a' w') [o2] A w ∧ wpList P ops (chainQ Q fun a' w' => S w' ∧ forkF P ops Q S os t3 a' w') [o3] A w
def forkOk (md : Region.Mode) (ops : Array Oper) (L : Nat) : CU → Array Bool → Bool
 | .fin p0, listed => takesF md ops L p0 listed && freeF md ops (ops.size - L) L (marked p0 listed)
 | .one p c t, listed => takesF md ops L p listed && (Region.ready md ops (marked p listed) == [c]) && forkOk md ops L t ((marked p listed).setIfInBounds c true)
 | .two p c1 t1 c2 t2, listed => takesF md ops L p listed && (Region.ready md ops (marked p listed) == [c1, c2]) && forkOk md ops L t1 ((marked p listed).setIfInBounds c1 true) && forkOk md ops L t2 ((marked p listed).setIfInBounds c2 true) && (t1.len == t2.len)
 | .three p c1 t1 c2 t2 c3 t3, listed => takesF md ops L p listed && (Region.ready md ops (marked p listed) == [c1, c2, c3]) && forkOk md ops L t1 ((marked p listed).setIfInBounds c1 true) && forkOk md ops L t2 ((marked p listed).setIfInBounds c2 true) && forkOk md ops L t3 ((marked p listed).setIfInBounds c3 true) && (t1.len == t2.len) && (t1.len == t3.len)
theorem wpAnyF_two4 {c1 c2 : Nat} {fuel : Nat} {listed : Array Bool} {a : Act} {w : World} (hr : Region.ready md ops listed = [c1, c2])
  (h1 : wpOp P ops Q c1 (fun a' w' => (c1 < L → S w') ∧ wpAnyF P md ops Q S L fuel (listed.setIfInBounds c1 true) a' w') a w)
  (h2 : wpOp P ops Q c2 (fun a' w' => (c2 < L → S w') ∧ wpAnyF P md ops Q S L fuel (listed.setIfInBounds c2 true) a' w') a w) : wpAnyF P md ops Q S L (fuel + 1) listed a w :=
 ⟨fun h0 => (by rw [hr] at h0; cases h0), fun i hi => by
  rw [hr] at hi
  simp at hi
  rcases hi with rfl | rfl
  ·exact h1
  ·exact h2⟩
theorem wpAnyF_three {c1 c2 c3 : Nat} {fuel : Nat} {listed : Array Bool} {a : Act} {w : World} (hr : Region.ready md ops listed = [c1, c2, c3])
  (h1 : wpOp P ops Q c1 (fun a' w' => (c1 < L → S w') ∧ wpAnyF P md ops Q S L fuel (listed.setIfInBounds c1 true) a' w') a w)
  (h2 : wpOp P ops Q c2 (fun a' w' => (c2 < L → S w') ∧ wpAnyF P md ops Q S L fuel (listed.setIfInBounds c2 true) a' w') a w)
  (h3 : wpOp P ops Q c3 (fun a' w' => (c3 < L → S w') ∧ wpAnyF P md ops Q S L fuel (listed.setIfInBounds c3 true) a' w') a w) : wpAnyF P md ops Q S L (fuel + 1) listed a w :=
 ⟨fun h0 => (by rw [hr] at h0; cases h0), fun i hi => by
  rw [hr] at hi
  simp at hi
  rcases hi with rfl | rfl | rfl
  ·exact h1
  ·exact h2
  ·exact h3⟩
theorem fork_sound (hsel : ∀ (j : Nat) (o : Oper) cs b, ops[j]? = some o → o.op ≠ .select cs b) (hQ : ∀ c a d v w, Q (.panic c) (Act.put a d v) w → Q (.panic c) a w) (os : List Oper) (hos : os = ops.toList.drop L) :
  ∀ (t : CU) (listed : Array Bool) (a : Act) (w : World), forkOk md ops L t listed = true → Closed md ops listed → forkF P ops Q S os t a w → S w → ∀ more, wpAnyF P md ops Q S L (t.len + (ops.size - L) + more) listed a w
 | .fin p0, listed, a, w, hc, hcl, ⟨A, hp, h⟩, hS, more => by
  simp only [forkOk, Bool.and_eq_true] at hc
  rw [show (CU.fin p0).len + (ops.size - L) + more = p0.length + (ops.size - L + more) by simp only [CU.len]; omega]
  refine takesF_sound hsel hQ p0 listed a A w _ hc.1 hcl hp hS (fun _ => freeF_sound _ L os _ A w (Nat.le_refl _) hc.2 (by rw [hos]; simp) (fun j => ?_) h more)
  left
  rw [hos, List.getElem?_drop]
  simp
 | .one p c t, listed, a, w, hc, hcl, ⟨A, o, hp, ho, h⟩, hS, more => by
  simp only [forkOk, Bool.and_eq_true, beq_iff_eq] at hc
  obtain ⟨⟨ht, hr⟩, he⟩ := hc
  rw [show (CU.one p c t).len + (ops.size - L) + more = p.length + (t.len + (ops.size - L) + more + 1) by simp only [CU.len]; omega]
  refine takesF_sound hsel hQ p listed a A w _ ht hcl hp hS (fun hcl' => wpAnyF_only hr (wpOp_mono (fun a' w' hk => ⟨fun _ => hk.1, ?_⟩) (wpOp_of_chain ho h)))
  exact fork_sound hsel hQ os hos t _ a' w' he (hcl'.step (by rw [hr]; simp)) hk.2 hk.1 more
 | .two p c1 t1 c2 t2, listed, a, w, hc, hcl, ⟨A, o1, o2, hp, ho1, ho2, h1, h2⟩, hS, more => by
  simp only [forkOk, Bool.and_eq_true, beq_iff_eq] at hc
  obtain ⟨⟨⟨⟨ht, hr⟩, he1⟩, he2⟩, hl⟩ := hc
  rw [show (CU.two p c1 t1 c2 t2).len + (ops.size - L) + more = p.length + (t1.len + (ops.size - L) + more + 1) by simp only [CU.len]; omega]
  refine takesF_sound hsel hQ p listed a A w _ ht hcl hp hS (fun hcl' => wpAnyF_two4 hr (wpOp_mono (fun a' w' hk => ⟨fun _ => hk.1, ?_⟩) (wpOp_of_chain ho1 h1)) (wpOp_mono (fun a' w' hk => ⟨fun _ => hk.1, ?_⟩) (wpOp_of_chain ho2 h2)))
  ·exact fork_sound hsel hQ os hos t1 _ a' w' he1 (hcl'.step (by rw [hr]; simp)) hk.2 hk.1 more
  ·rw [hl]
   exact fork_sound hsel hQ os hos t2 _ a' w' he2 (hcl'.step (by rw [hr]; simp)) hk.2 hk.1 more
 | .three p c1 t1 c2 t2 c3 t3, listed, a, w, hc, hcl, ⟨A, o1, o2, o3, hp, ho1, ho2, ho3, h1, h2, h3⟩, hS, more => by
  simp only [forkOk, Bool.and_eq_true, beq_iff_eq] at hc
  obtain ⟨⟨⟨⟨⟨⟨ht, hr⟩, he1⟩, he2⟩, he3⟩, hl⟩, hl3⟩ := hc
  rw [show (CU.three p c1 t1 c2 t2 c3 t3).len + (ops.size - L) + more = p.length + (t1.len + (ops.size - L) + more + 1) by simp only [CU.len]; omega]
  refine takesF_sound hsel hQ p listed a A w _ ht hcl hp hS (fun hcl' => wpAnyF_three hr (wpOp_mono (fun a' w' hk => ⟨fun _ => hk.1, ?_⟩) (wpOp_of_chain ho1 h1)) (wpOp_mono (fun a' w' hk => ⟨fun _ => hk.1, ?_⟩) (wpOp_of_chain ho2 h2)) (wpOp_mono (fun a' w' hk => ⟨fun _ => hk.1, ?_⟩) (wpOp_of_chain ho3 h3)))
  ·exact fork_sound hsel hQ os hos t1 _ a' w' he1 (hcl'.step (by rw [hr]; simp)) hk.2 hk.1 more
  ·rw [hl]
   exact fork_sound hsel hQ os hos t2 _ a' w' he2 (hcl'.step (by rw [hr]; simp)) hk.2 hk.1 more
  ·rw [hl3]
   exact fork_sound hsel hQ os hos t3 _ a' w' he3 (hcl'.step (by rw [hr]; simp)) hk.2 hk.1 more
end
theorem Blk.apart {w : World} {g g' t t' : Nat} {cs cs' : Array Value} (h : Blk w g t cs) (h' : Blk w g' t' cs') (hne : t ≠ t') : g ≠ g' := fun e => by
 subst e
 have := h.symm.trans h'
 injection this with this
 injection this with _ h2
 exact hne h2
section
variable {P : Program}
end
noncomputable def boundedQ (p : ProgF) (l : List Int) : ProgQ := ⟨p.vars, p.free, p.goal.map fixQ, p.rows.map cleanR ++ l.map fun v => unitQ p.vars.toNat v (-1) 1⟩
theorem chain_skip {P : Program} {ops : Array Oper} {Q : Exit → Act → World → Prop} {K : Act → World → Prop} {o : Oper} {a : Act} {w : World} (hg : Region.wanted o (yielded ops a.tmps) = false) (h : K (a.put o.dst undef) w) : wpList P ops (chainQ Q K) [o] a w := by
 unfold wpList
 rw [if_neg (by rw [hg]; simp)]
 exact h
theorem calls_to {n : Nat} {args : Array Value} {w : World} {a b : Bool} (h : Calls Try.prog n args w fun e w' => BPost w a e w') (e : a = b) : Calls Try.prog n args w fun e w' => BPost w b e w' := e ▸ h
noncomputable def judgeB (p : ProgF) (c : CertF) : Bool :=
 if rightP p ≠ 0 then false
 else if c.kind = 1 then fitsB p c.x && (boundsB p c.y (some p.goal) && decide (ordQ (rightsQ p c.y) (capQ (dotQ (p.goal.map fixQ) (c.x.map fixQ))) = 0))
 else if c.kind = 2 then boundsB p c.y none && decide (signQ (rightsQ p c.y) < 0)
 else if c.kind = 3 then fitsB p c.x && goesB p c.ray
 else false
theorem judge_calls (w : World) (v v2 : Value) (p : ProgF) (c : CertF) (h : PR w v p) (h2 : CR w v2 c) (hlx : c.x.length ≤ 100000) (hly : c.y.length ≤ 100000) (hlr : c.ray.length ≤ 100000) : Calls Try.prog 28 #[v, v2] w fun e w' => BPost w (judgeB p c) e w' := by
 have HP := Hd h
 have HC := Hd h2
 obtain ⟨A1, c1, A2, c2, A3, c3, rfl, HI, H1, H2, H3⟩ := h.opened
 obtain ⟨B1, d1, B2, d2, B3, d3, rfl, HX, HY, HR⟩ := h2.opened
 clear h h2
 obtain ⟨vars, hv⟩ : ∃ n, n = p.vars := ⟨_, rfl⟩
 rw [← hv] at HP ⊢
 have HV := Hd hv
 obtain ⟨kd, hkd⟩ : ∃ k, k = c.kind := ⟨_, rfl⟩
 rw [← hkd] at HC ⊢
 have HKD := Hd hkd
 clear hv hkd
 go_enter Try.func28, Try.ntmps28
 go_wp2_with fail
 have H0 := Hd (HS.two (w := w) #[.int .i64 vars, .slice A1 p.free.length c1, .slice A2 p.goal.length c2, .slice A3 p.rows.length c3] #[.int .i64 kd, .slice B1 c.x.length d1, .slice B2 c.y.length d2, .slice B3 c.ray.length d3] 26 44)
 generalize (w.alloc (.cells #[.int .i64 vars, .slice A1 p.free.length c1, .slice A2 p.goal.length c2, .slice A3 p.rows.length c3] 26)).alloc (.cells #[.int .i64 kd, .slice B1 c.x.length d1, .slice B2 c.y.length d2, .slice B3 c.ray.length d3] 44) = W0 at *
 refine (pright_calls W0 _ p (HP.out.of_below H0.out.2)).mono ?_
 rintro e w1 ⟨rfl, hb⟩
 have K1 := Hd (H0.out.step hb)
 obtain ⟨x0, x1, x2, x3⟩ := K1.out.c4 1 rfl
 obtain ⟨y0, y1, y2, y3⟩ := K1.out.c4 0 rfl
 clear hb
 by_cases q1 : rightP p = 0
 case neg =>
  have u1 : (rightP p != 0) = true := bneI q1
  have HE : Hid (judgeB p c = false) := by unfold Hid judgeB; rw [if_pos q1]
  clear q1
  go_wp2_with fail
  go_ret
  exact ⟨by rw [HE.out]; rfl, K1.out.2⟩
 have u1 : (rightP p != 0) = false := beqI q1
 have HR0 := Hd q1
 have hrl := rightP_len q1
 have hrw : p.rows.length ≤ 400 := hrl.2.2.2.2.1
 have hgl : p.goal.length ≤ 100000 := by have := hrl.2.1; have := hrl.2.2.2.1; omega
 have HGV : Hid ((p.goal.length : Int) = p.vars) := hrl.2.1
 clear q1 hrl
 have cells : ∀ W, HS w [(w.heap.size + 1, 44, #[.int .i64 kd, .slice B1 c.x.length d1, .slice B2 c.y.length d2, .slice B3 c.ray.length d3]), (w.heap.size, 26, #[.int .i64 vars, .slice A1 p.free.length c1, .slice A2 p.goal.length c2, .slice A3 p.rows.length c3])] W → (W.cell? ⟨w.heap.size, 0, none⟩ = some (.int .i64 vars) ∧ W.cell? ⟨w.heap.size, 1, none⟩ = some (.slice A1 p.free.length c1) ∧ W.cell? ⟨w.heap.size, 2, none⟩ = some (.slice A2 p.goal.length c2) ∧ W.cell? ⟨w.heap.size, 3, none⟩ = some (.slice A3 p.rows.length c3) ∧ W.cell? ⟨w.heap.size + 1, 0, none⟩ = some (.int .i64 kd) ∧ W.cell? ⟨w.heap.size + 1, 1, none⟩ = some (.slice B1 c.x.length d1) ∧ W.cell? ⟨w.heap.size + 1, 2, none⟩ = some (.slice B2 c.y.length d2) ∧ W.cell? ⟨w.heap.size + 1, 3, none⟩ = some (.slice B3 c.ray.length d3)) := fun W h => by
  obtain ⟨a, b, c, d⟩ := h.c4 1 rfl
  obtain ⟨e, f, g, i⟩ := h.c4 0 rfl
  exact ⟨a, b, c, d, e, f, g, i⟩
 have HCELLS := Hd cells
 clear cells
 by_cases k1 : kd = 1
 ·have t1 : (kd == 1) = true := beqI' k1
  have HE1 : Hid (judgeB p c = (fitsB p c.x && (boundsB p c.y (some p.goal) && decide (ordQ (rightsQ p c.y) (capQ (dotQ (p.goal.map fixQ) (c.x.map fixQ))) = 0)))) := by unfold Hid judgeB; rw [if_neg (by rw [HR0.out]; simp), if_pos (by rw [← HKD.out]; exact k1)]
  clear k1
  cases hf : fitsB p c.x with
  | false =>
   have HE2 : Hid (judgeB p c = false) := by unfold Hid; rw [HE1.out, hf]; rfl
   have l0 := (K1.out.blk 1 rfl).lt
   have l1 := (K1.out.blk 0 rfl).lt
   go_wp2_with fail
   refine wp_chainS (S := Below w1.heap.size w1) [([0, 1, 2], 3), ([4, 5, 6, 7, 8, 9], 10), ([11, 12, 13, 14, 15, 17, 18, 19, 20], 16), ([], 21), ([], 22)] [23, 24, 25] (by kernel_rfl) (by kernel_rfl) (by kernel_rfl) rfl (Below.drew (Below.refl _ _)) ?_
   refine ⟨?_, _, ?_, rfl, ?_⟩
   rotate_left
   ·(iterate 3 ((refine pu ?_); (try simp only [SQ])))
    exact rfl
   have D0 : Hid (Below w1.heap.size w1 w1.drew) := Below.drew (Below.refl _ _)
   have E0 := Hd (HS.step K1.out D0.out)
   go_wp2_with fail
   refine (calls_to (fits_calls _ _ _ p c.x (HP.out.of_below E0.out.2) (HX.out.below EF.stays E0.out.2) HR0.out) hf).mono ?_
   rintro e w2 ⟨rfl, hb⟩
   have D2 := Hd (below_next D0.out hb)
   have E2 := Hd (HS.step K1.out D2.out)
   clear hb
   go_wp2_with fail
   refine And.intro D2.out ⟨?_, _, ?_, rfl, ?_⟩
   rotate_left
   ·((refine pu ?_); (try simp only [SQ])); (iterate 5 ((refine pn ?_); (try simp only [SQ])))
    exact rfl
   refine chain_skip (by kernel_rfl) (And.intro D2.out ?_)
   (try simp only [SQ])
   refine ⟨?_, _, ?_, rfl, ?_⟩
   rotate_left
   ·(iterate 2 ((refine pu ?_); (try simp only [SQ]))); (iterate 7 ((refine pn ?_); (try simp only [SQ])))
    exact rfl
   refine chain_skip (by kernel_rfl) (And.intro D2.out ?_)
   (try simp only [SQ])
   refine ⟨_, _, rfl, rfl, ?_⟩
   refine chain_skip (by kernel_rfl) (And.intro D2.out ?_)
   (try simp only [SQ])
   refine ⟨_, _, rfl, rfl, ?_⟩
   refine chain_skip (by kernel_rfl) (And.intro D2.out ?_)
   (try simp only [SQ])
   refine ⟨?_, ?_, ?_⟩
   rotate_left
   ·((refine pn ?_); (try simp only [SQ])); (iterate 2 ((refine pu ?_); (try simp only [SQ])))
    exact rfl
   refine NoPanic.normal ?_
   go_wp2_with fail
   go_ret
   exact ⟨by rw [HE2.out]; rfl, E2.out.2⟩
  | true =>
   cases hb0 : boundsB p c.y (some p.goal) with
   | false =>
    have HE2 : Hid (judgeB p c = false) := by unfold Hid; rw [HE1.out, hf, hb0]; rfl
    have l0 := (K1.out.blk 1 rfl).lt
    have l1 := (K1.out.blk 0 rfl).lt
    go_wp2_with fail
    refine wp_chainS (S := Below w1.heap.size w1) [([0, 1, 2], 3), ([4, 5, 6, 7, 8, 9], 10), ([11, 12, 13, 14, 15, 17, 18, 19, 20], 16), ([], 21), ([], 22)] [23, 24, 25] (by kernel_rfl) (by kernel_rfl) (by kernel_rfl) rfl (Below.drew (Below.refl _ _)) ?_
    refine ⟨?_, _, ?_, rfl, ?_⟩
    rotate_left
    ·(iterate 3 ((refine pu ?_); (try simp only [SQ])))
     exact rfl
    have D0 : Hid (Below w1.heap.size w1 w1.drew) := Below.drew (Below.refl _ _)
    have E0 := Hd (HS.step K1.out D0.out)
    go_wp2_with fail
    refine (calls_to (fits_calls _ _ _ p c.x (HP.out.of_below E0.out.2) (HX.out.below EF.stays E0.out.2) HR0.out) hf).mono ?_
    rintro e w2 ⟨rfl, hb⟩
    have D2 := Hd (below_next D0.out hb)
    have E2 := Hd (HS.step K1.out D2.out)
    clear hb
    go_wp2_with fail
    refine And.intro D2.out ⟨?_, _, ?_, rfl, ?_⟩
    rotate_left
    ·(iterate 6 ((refine pu ?_); (try simp only [SQ])))
     exact rfl
    go_wp2_with fail
    refine (calls_to (bounds_calls _ _ _ p c.y (HP.out.of_below E2.out.2) (HY.out.below EF.stays E2.out.2) _ p.goal (H2.out.below EF.stays E2.out.2) HGV.out HR0.out hly) hb0).mono ?_
    rintro e w3 ⟨rfl, hb⟩
    have D3 := Hd (below_next D2.out hb)
    have E3 := Hd (HS.step K1.out D3.out)
    clear hb
    go_wp2_with fail
    refine And.intro D3.out ⟨?_, _, ?_, rfl, ?_⟩
    rotate_left
    ·(iterate 2 ((refine pu ?_); (try simp only [SQ]))); (iterate 7 ((refine pn ?_); (try simp only [SQ])))
     exact rfl
    refine chain_skip (by kernel_rfl) (And.intro D3.out ?_)
    (try simp only [SQ])
    refine ⟨_, _, rfl, rfl, ?_⟩
    refine chain_skip (by kernel_rfl) (And.intro D3.out ?_)
    (try simp only [SQ])
    refine ⟨_, _, rfl, rfl, ?_⟩
    refine chain_skip (by kernel_rfl) (And.intro D3.out ?_)
    (try simp only [SQ])
    refine ⟨?_, ?_, ?_⟩
    rotate_left
    ·((refine pn ?_); (try simp only [SQ])); (iterate 2 ((refine pu ?_); (try simp only [SQ])))
     exact rfl
    refine NoPanic.normal ?_
    go_wp2_with fail
    go_ret
    exact ⟨by rw [HE2.out]; rfl, E3.out.2⟩
   | true =>
    have HE2 : Hid (judgeB p c = decide (ordQ (rightsQ p c.y) (capQ (dotQ (p.goal.map fixQ) (c.x.map fixQ))) = 0)) := by unfold Hid; rw [HE1.out, hf, hb0]; rfl
    have l0 := (K1.out.blk 1 rfl).lt
    have l1 := (K1.out.blk 0 rfl).lt
    go_wp2_with fail
    refine wp_chainS (S := Below w1.heap.size w1) [([0, 1, 2], 3), ([4, 5, 6, 7, 8, 9], 10), ([11, 12, 13, 14, 15, 17, 18, 19, 20], 16), ([], 21), ([], 22)] [23, 24, 25] (by kernel_rfl) (by kernel_rfl) (by kernel_rfl) rfl (Below.drew (Below.refl _ _)) ?_
    refine ⟨?_, _, ?_, rfl, ?_⟩
    rotate_left
    ·(iterate 3 ((refine pu ?_); (try simp only [SQ])))
     exact rfl
    have D0 : Hid (Below w1.heap.size w1 w1.drew) := Below.drew (Below.refl _ _)
    have E0 := Hd (HS.step K1.out D0.out)
    go_wp2_with fail
    refine (calls_to (fits_calls _ _ _ p c.x (HP.out.of_below E0.out.2) (HX.out.below EF.stays E0.out.2) HR0.out) hf).mono ?_
    rintro e w2 ⟨rfl, hb⟩
    have D2 := Hd (below_next D0.out hb)
    have E2 := Hd (HS.step K1.out D2.out)
    clear hb
    go_wp2_with fail
    refine And.intro D2.out ⟨?_, _, ?_, rfl, ?_⟩
    rotate_left
    ·(iterate 6 ((refine pu ?_); (try simp only [SQ])))
     exact rfl
    go_wp2_with fail
    refine (calls_to (bounds_calls _ _ _ p c.y (HP.out.of_below E2.out.2) (HY.out.below EF.stays E2.out.2) _ p.goal (H2.out.below EF.stays E2.out.2) HGV.out HR0.out hly) hb0).mono ?_
    rintro e w3 ⟨rfl, hb⟩
    have D3 := Hd (below_next D2.out hb)
    have E3 := Hd (HS.step K1.out D3.out)
    clear hb
    go_wp2_with fail
    refine And.intro D3.out ⟨?_, _, ?_, rfl, ?_⟩
    rotate_left
    ·(iterate 9 ((refine pu ?_); (try simp only [SQ])))
     exact rfl
    go_wp2_with fail
    refine (rights_calls _ _ _ p c.y (HP.out.of_below E3.out.2) (HY.out.below EF.stays E3.out.2) hrw hly).mono ?_
    rintro e w4 ⟨v, rfl, hv, hb⟩
    obtain ⟨A5, n5, c5, A6, n6, c6, rfl, HV1⟩ := hv.opened
    have D4 := Hd (below_next D3.out hb)
    have E4 := Hd (HS.step K1.out D4.out)
    clear hv hb
    go_wp2_with fail
    refine And.intro D4.out ⟨_, _, rfl, rfl, ?_⟩
    go_wp2_with fail
    refine (fdot_calls _ _ _ p.goal c.x (H2.out.below EF.stays E4.out.2) (HX.out.below EF.stays E4.out.2) hgl hlx).mono ?_
    rintro e w5 ⟨v, rfl, hv, hb⟩
    obtain ⟨A7, n7, c7, A8, n8, c8, rfl, HV2⟩ := hv.opened
    have HV1' := Hd (HV1.out.of_below hb)
    have D5 := Hd (below_next D4.out hb)
    clear hv hb
    go_wp2_with fail
    refine And.intro D5.out ⟨_, _, rfl, rfl, ?_⟩
    go_wp2_with fail
    refine (fcmp_calls _ _ _ _ _ (FR.of_fq HV1'.out (capQ_size _)) (FR.of_fq HV2.out (capQ_size _))).mono ?_
    rintro e w6 ⟨rfl, hb⟩
    have e1 : fixQ (rawQ (rightsQ p c.y)) = rightsQ p c.y := fixQ_raw _ (capQ_size _)
    rw [e1, fix_cap]
    have D6 := Hd (below_next D5.out hb)
    have E6 := Hd (HS.step K1.out D6.out)
    clear hb e1
    go_wp2_with fail
    refine And.intro D6.out ⟨?_, ?_, ?_⟩
    rotate_left
    ·(iterate 3 ((refine pu ?_); (try simp only [SQ])))
     exact rfl
    refine NoPanic.normal ?_
    go_wp2_with fail
    go_ret
    exact ⟨by rw [HE2.out]; rfl, E6.out.2⟩
 have t1 : (kd == 1) = false := bneI' k1
 by_cases k2 : kd = 2
 ·have t2 : (kd == 2) = true := beqI' k2
  have HE1 : Hid (judgeB p c = (boundsB p c.y none && decide (signQ (rightsQ p c.y) < 0))) := by unfold Hid judgeB; rw [if_neg (by rw [HR0.out]; simp), if_neg (by rw [← HKD.out]; exact k1), if_pos (by rw [← HKD.out]; exact k2)]
  clear k1 k2
  go_wp2_with fail
  refine (bounds0_calls w1 _ _ p c.y (HP.out.of_below K1.out.2) (HY.out.below EF.stays K1.out.2) HR0.out hly).mono ?_
  rintro e w2 ⟨rfl, hb⟩
  have K2 := Hd (K1.out.step hb)
  obtain ⟨x0, x1, x2, x3⟩ := K2.out.c4 1 rfl
  obtain ⟨y0, y1, y2, y3⟩ := K2.out.c4 0 rfl
  clear hb
  cases hb0 : boundsB p c.y none with
  | false =>
   have HE2 : Hid (judgeB p c = false) := by unfold Hid; rw [HE1.out, hb0]; rfl
   clear hb0
   go_wp2_with fail
   go_ret
   exact ⟨by rw [HE2.out]; rfl, K2.out.2⟩
  | true =>
   have HE2 : Hid (judgeB p c = decide (signQ (rightsQ p c.y) < 0)) := by unfold Hid; rw [HE1.out, hb0]; rfl
   clear hb0
   go_wp2_with fail
   refine (rights_calls w2 _ _ p c.y (HP.out.of_below K2.out.2) (HY.out.below EF.stays K2.out.2) hrw hly).mono ?_
   rintro e w3 ⟨v, rfl, hv, hb⟩
   obtain ⟨A5, n5, c5, A6, n6, c6, rfl, HV1⟩ := hv.opened
   have K3 := Hd (K2.out.step hb)
   clear hv hb
   go_wp2_with fail
   refine (sgn_calls _ _ _ (FR.of_fq HV1.out (capQ_size _))).mono ?_
   rintro e w4 ⟨rfl, hb⟩
   have e1 : fixQ (rawQ (rightsQ p c.y)) = rightsQ p c.y := fixQ_raw _ (capQ_size _)
   rw [e1]
   have K4 := Hd (K3.out.step hb)
   clear hb e1
   go_wp2_with fail
   go_ret
   exact ⟨by rw [HE2.out]; rfl, K4.out.2⟩
 have t2 : (kd == 2) = false := bneI' k2
 by_cases k3 : kd = 3
 ·have t3 : (kd == 3) = true := beqI' k3
  have HE1 : Hid (judgeB p c = (fitsB p c.x && goesB p c.ray)) := by unfold Hid judgeB; rw [if_neg (by rw [HR0.out]; simp), if_neg (by rw [← HKD.out]; exact k1), if_neg (by rw [← HKD.out]; exact k2), if_pos (by rw [← HKD.out]; exact k3)]
  clear k1 k2 k3
  go_wp2_with fail
  refine (fits_calls w1 _ _ p c.x (HP.out.of_below K1.out.2) (HX.out.below EF.stays K1.out.2) HR0.out).mono ?_
  rintro e w2 ⟨rfl, hb⟩
  have K2 := Hd (K1.out.step hb)
  obtain ⟨x0, x1, x2, x3⟩ := K2.out.c4 1 rfl
  obtain ⟨y0, y1, y2, y3⟩ := K2.out.c4 0 rfl
  clear hb
  cases hb0 : fitsB p c.x with
  | false =>
   have HE2 : Hid (judgeB p c = false) := by unfold Hid; rw [HE1.out, hb0]; rfl
   clear hb0
   go_wp2_with fail
   go_ret
   exact ⟨by rw [HE2.out]; rfl, K2.out.2⟩
  | true =>
   have HE2 : Hid (judgeB p c = goesB p c.ray) := by unfold Hid; rw [HE1.out, hb0]; rfl
   clear hb0
   go_wp2_with fail
   refine (goes_calls w2 _ _ p c.ray (HP.out.of_below K2.out.2) (HR.out.below EF.stays K2.out.2) HR0.out).mono ?_
   rintro e w3 ⟨rfl, hb⟩
   have K3 := Hd (K2.out.step hb)
   clear hb
   go_wp2_with fail
   go_ret
   exact ⟨by rw [HE2.out]; rfl, K3.out.2⟩
 have t3 : (kd == 3) = false := bneI' k3
 have HE1 : Hid (judgeB p c = false) := by unfold Hid judgeB; rw [if_neg (by rw [HR0.out]; simp), if_neg (by rw [← HKD.out]; exact k1), if_neg (by rw [← HKD.out]; exact k2), if_neg (by rw [← HKD.out]; exact k3)]
 clear k1 k2 k3
 go_wp2_with fail
 go_ret
 exact ⟨by rw [HE1.out]; rfl, K1.out.2⟩
def rawR (r : RowQ) : RowF := ⟨r.a.map rawQ, r.s, rawQ r.b⟩
def rawP (p : ProgQ) : ProgF := ⟨p.vars, p.free, p.goal.map rawQ, p.rows.map rawR⟩
theorem ERO.er {base : Nat} {w : World} {vs : Array Value} {r : RowQ} (h : ERO base w vs r) (hs : SmallR r) : ER w vs (rawR r) := by
 obtain ⟨v, A1, n1, c1, A2, n2, c2, rfl, hi, hq, hf⟩ := h
 exact ⟨v, A1, n1, c1, A2, n2, c2, rfl, hi, QO.fl hq hs.1, FR.of_fq hf hs.2⟩
theorem PO.pr {base : Nat} {w : World} {v : Value} {p : ProgQ} (h : PO base w v p) (hs : SmallP p) : PR w v (rawP p) := by
 obtain ⟨v1, v2, v3, rfl, hi, hf, hg, hr⟩ := h
 exact ⟨v1, v2, v3, rfl, hi, hf.1, QO.fl hg hs.1, SL.mapE rawR (OL.sl hr) fun vs r hm he => ERO.er he (hs.2 r hm)⟩
theorem fix_raws {qs : List Rat} (hs : ∀ q ∈ qs, Small q) : (qs.map rawQ).map fixQ = qs := by
  rw [List.map_map]
  calc qs.map (fixQ ∘ rawQ) = qs.map id := List.map_congr_left fun q hq => fixQ_raw q (hs q hq)
    _ = qs := by simp
theorem clean_raw {p : ProgQ} (hs : SmallP p) : cleanQ (rawP p) = p := by
  obtain ⟨vars, free, goal, rows⟩ := p
  have h1 := fix_raws hs.1
  have h2 : (rows.map rawR).map cleanR = rows := by
    rw [List.map_map]
    calc rows.map (cleanR ∘ rawR) = rows.map id := List.map_congr_left fun r hr => by
            obtain ⟨a, s, b⟩ := r
            have := hs.2 _ hr
            show RowQ.mk ((a.map rawQ).map fixQ) s (fixQ (rawQ b)) = _
            rw [fix_raws this.1, fixQ_raw b this.2]
            rfl
      _ = rows := by simp
  show ProgQ.mk vars free ((goal.map rawQ).map fixQ) ((rows.map rawR).map cleanR) = _
  rw [h1, h2]
theorem getD_small {l : List Rat} (h : ∀ q ∈ l, Small q) (v : Nat) : Small (l.getD v 0) := by
 rw [List.getD_eq_getElem?_getD]
 cases e : l[v]? with
 | none => show sizeQ 0 ≤ 4096; rw [sizeQ_zero]; decide
 | some q => exact h q (List.mem_of_getElem? e)
theorem small_one : Small 1 := by unfold Small sizeQ; decide +kernel
theorem small_nil : Small 0 := by unfold Small; rw [sizeQ_zero]; decide
theorem small_unit (n : Nat) (v s b : Int) (hb : b = 0 ∨ b = 1) : SmallR (unitQ n v s b) := by
 refine ⟨fun q hq => ?_, ?_⟩
 ·obtain ⟨i, _, rfl⟩ := List.mem_map.1 hq
  split
  ·exact small_one
  ·exact small_nil
 ·rcases hb with rfl | rfl
  ·exact small_nil
  ·exact small_one
structure CaseF where
 var : Int
 zero : Int
 one : Int
 cert : CertF
def ECase (w : World) (vs : Array Value) (c : CaseF) : Prop := ∃ v1 v2 v3, vs = #[.int .i64 c.var, .int .i64 c.zero, .int .i64 c.one, .int .i64 c.cert.kind, v1, v2, v3] ∧ (I64 c.var ∧ I64 c.zero ∧ I64 c.one) ∧ CR w (.agg #[.int .i64 c.cert.kind, v1, v2, v3]) c.cert
theorem ECase.stays : Stays ECase := fun w w1 vs c h hb => by
 obtain ⟨v1, v2, v3, e, hi, hc⟩ := h
 exact ⟨v1, v2, v3, e, hi, hc.of_below hb⟩
abbrev CL (w : World) (v : Value) (cs : List CaseF) : Prop := SL 7 ECase w v cs
theorem CL.at7 {w : World} {A : Option Addr} {n c : Nat} {cs : List CaseF} (h : CL w (.slice A n c) cs) {j : Nat} {x : CaseF} (hj : cs[j]? = some x) :
  ∃ g o B1 d1 B2 d2 B3 d3, A = some ⟨g, o, none⟩ ∧ g < w.heap.size ∧ (w.cell? ⟨g, o + j * 7, none⟩ = some (.int .i64 x.var) ∧ w.cell? ⟨g, o + j * 7 + 1, none⟩ = some (.int .i64 x.zero) ∧ w.cell? ⟨g, o + j * 7 + 2, none⟩ = some (.int .i64 x.one) ∧ w.cell? ⟨g, o + j * 7 + 3, none⟩ = some (.int .i64 x.cert.kind) ∧
   w.cell? ⟨g, o + j * 7 + 4, none⟩ = some (.slice B1 x.cert.x.length d1) ∧ w.cell? ⟨g, o + j * 7 + 5, none⟩ = some (.slice B2 x.cert.y.length d2) ∧ w.cell? ⟨g, o + j * 7 + 6, none⟩ = some (.slice B3 x.cert.ray.length d3)) ∧ Hid (I64 x.var ∧ I64 x.zero ∧ I64 x.one) ∧ Hid (CR w (.agg #[.int .i64 x.cert.kind, .slice B1 x.cert.x.length d1, .slice B2 x.cert.y.length d2, .slice B3 x.cert.ray.length d3]) x.cert) := by
 obtain ⟨g, o, vs, hA, hg, hs, hc, v1, v2, v3, rfl, hi, hcr⟩ := h.at_ hj
 obtain ⟨B1, d1, B2, d2, B3, d3, e, _, _, _⟩ := hcr.opened
 injection e with e
 injection e with e
 injection e with e0 e
 injection e with e1 e
 injection e with e2 e
 injection e with e3 e
 subst e1 e2 e3
 exact ⟨g, o, B1, d1, B2, d2, B3, d3, hA, hg, ⟨hc 0 _ rfl, hc 1 _ rfl, hc 2 _ rfl, hc 3 _ rfl, hc 4 _ rfl, hc 5 _ rfl, hc 6 _ rfl⟩, hi, hcr⟩
theorem Blk.c7 {W : World} {g t : Nat} {a b c d e f h : Value} (H : Blk W g t #[a, b, c, d, e, f, h]) : W.cell? ⟨g, 0, none⟩ = some a ∧ W.cell? ⟨g, 1, none⟩ = some b ∧ W.cell? ⟨g, 2, none⟩ = some c ∧ W.cell? ⟨g, 3, none⟩ = some d ∧ W.cell? ⟨g, 4, none⟩ = some e ∧ W.cell? ⟨g, 5, none⟩ = some f ∧ W.cell? ⟨g, 6, none⟩ = some h :=
 ⟨H.cell rfl, H.cell rfl, H.cell rfl, H.cell rfl, H.cell rfl, H.cell rfl, H.cell rfl⟩
def LimOK (w : World) (v : Value) : Option Rat → Prop
 | none => v = .pointer none
 | some q => Small q ∧ ∃ gl A1 n1 c1 A2 n2 c2, v = .pointer (some ⟨gl, 0, none⟩) ∧ Blk w gl 40 #[.bool (negQ q), .slice A1 n1 c1, .slice A2 n2 c2] ∧ FQ w (.agg #[.bool (negQ q), .slice A1 n1 c1, .slice A2 n2 c2]) q
theorem LimOK.below {w w1 : World} {v : Value} {lim : Option Rat} (h : LimOK w v lim) (hb : Below w.heap.size w w1) : LimOK w1 v lim := by
 cases lim with
 | none => exact h
 | some q =>
  obtain ⟨hs, gl, A1, n1, c1, A2, n2, c2, e, h1, h2⟩ := h
  exact ⟨hs, gl, A1, n1, c1, A2, n2, c2, e, h1.below hb h1.lt, h2.of_below hb⟩
theorem LimOK.chg {base t : Nat} {w w1 : World} {v : Value} {lim : Option Rat} (h : LimOK w v lim) (hc : Chg base t w w1) (hne : 40 ≠ t) : LimOK w1 v lim := by
 cases lim with
 | none => exact h
 | some q =>
  obtain ⟨hs, gl, A1, n1, c1, A2, n2, c2, e, h1, h2⟩ := h
  exact ⟨hs, gl, A1, n1, c1, A2, n2, c2, e, h1.chg hc hne, h2.keeps hc.1⟩
def Rep (Wr : World) (AC : Option Addr) (nc cc : Nat) (LIM : Value) (lim : Option Rat) (left : Nat) (w : World) : Prop :=
 HS Wr [] w ∧ Blk w Wr.heap.size 97 #[.slice AC nc cc, .int .i64 (left : Int), LIM] ∧ LimOK w LIM lim
theorem Rep.below {Wr w w1 : World} {AC : Option Addr} {nc cc left : Nat} {LIM : Value} {lim : Option Rat} (h : Rep Wr AC nc cc LIM lim left w) (hb : Below w.heap.size w w1) : Rep Wr AC nc cc LIM lim left w1 :=
 ⟨h.1.step hb, h.2.1.below hb h.2.1.lt, h.2.2.below hb⟩
theorem lim_word {w : World} {v : Value} {lim : Option Rat} (h : LimOK w v lim) : notWord v = true := by
 cases lim with
 | none => rw [show v = .pointer none from h]; rfl
 | some q => obtain ⟨_, gl, _, _, _, _, _, _, e, _⟩ := h; rw [e]; rfl
theorem Rep.put {Wr w : World} {AC : Option Addr} {nc cc left : Nat} {LIM : Value} {lim : Option Rat} (h : Rep Wr AC nc cc LIM lim left w) (l : Nat) : Rep Wr AC nc cc LIM lim l (w.setCell ⟨Wr.heap.size, 1, none⟩ (.int .i64 (l : Int))) ∧ Chg Wr.heap.size 97 w (w.setCell ⟨Wr.heap.size, 1, none⟩ (.int .i64 (l : Int))) := by
 have hw : ∀ u ∈ #[Value.slice AC nc cc, .int .i64 (left : Int), LIM], notWord u = true := by
  intro u hu
  simp only [List.mem_toArray, List.mem_cons, List.not_mem_nil, or_false] at hu
  rcases hu with rfl | rfl | rfl
  ·rfl
  ·rfl
  ·exact lim_word h.2.2
 have hc := chg_put1 (base := Wr.heap.size) (j := 1) h.2.1 (Nat.le_refl _) hw (.int .i64 (l : Int))
 exact ⟨⟨h.1.other1 (g := Wr.heap.size) (Nat.le_refl _) (by simp) 1 _, h.2.1.put 1 _, h.2.2.chg hc (by decide)⟩, hc⟩
def PvPost (Wr : World) (AC : Option Addr) (nc cc : Nat) (LIM : Value) (lim : Option Rat) (w : World) (r : Bool × Nat) (e : Ending) (w' : World) : Prop :=
 e = .returned (.bool r.1) ∧ Rep Wr AC nc cc LIM lim r.2 w' ∧ Chg Wr.heap.size 97 w w' ∧ (w.os = w'.os ∧ w.tape = w'.tape ∧ w.output = w'.output)
theorem below_same {B : Nat} {w w1 : World} (h : Below B w w1) : w.os = w1.os ∧ w.tape = w1.tape ∧ w.output = w1.output := ⟨h.os.symm, h.tape.symm, h.output.symm⟩
theorem bcell2 {Wr w : World} (hb : Below Wr.heap.size Wr w) (b o : Nat) (h : b < Wr.heap.size) : w.cell? ⟨b, o, none⟩ = Wr.cell? ⟨b, o, none⟩ := hb.cell (p := ⟨b, o, none⟩) h
theorem value_small (p : ProgF) (x : List RawF) : sizeQ (valueP p x) ≤ 4096 := by
 unfold valueP
 split
 ·rw [sizeQ_zero]; decide
 ·exact capQ_size _
theorem CR.fl {w : World} {k : Value} {v1 v2 v3 : Value} {c : CertF} (h : CR w (.agg #[k, v1, v2, v3]) c) : FL w v1 c.x := by
 obtain ⟨u1, u2, u3, e, _, h1, _, _⟩ := h
 injection e with e
 injection e with e
 injection e with _ e
 injection e with e1 _
 rw [e1]
 exact h1
structure TreeF where
 kind : Int
 x : List RawF
 ray : List RawF
 cases : List CaseF
def TR (w : World) (v : Value) (t : TreeF) : Prop := ∃ v1 v2 v3, v = .agg #[.int .i64 t.kind, v1, v2, v3] ∧ I64 t.kind ∧ FL w v1 t.x ∧ FL w v2 t.ray ∧ CL w v3 t.cases
theorem TR.of_below {w w1 : World} {v : Value} {t : TreeF} (h : TR w v t) (hb : Below w.heap.size w w1) : TR w1 v t := by
 obtain ⟨v1, v2, v3, e, hi, h1, h2, h3⟩ := h
 exact ⟨v1, v2, v3, e, hi, h1.below EF.stays hb, h2.below EF.stays hb, SL.below ECase.stays h3 hb⟩
theorem TR.opened {w : World} {v : Value} {t : TreeF} (h : TR w v t) : ∃ A1 c1 A2 c2 A3 c3, v = .agg #[.int .i64 t.kind, .slice A1 t.x.length c1, .slice A2 t.ray.length c2, .slice A3 t.cases.length c3] ∧ Hid (FL w (.slice A1 t.x.length c1) t.x) ∧ Hid (FL w (.slice A2 t.ray.length c2) t.ray) ∧ Hid (CL w (.slice A3 t.cases.length c3) t.cases) := by
 obtain ⟨v1, v2, v3, rfl, hi, h1, h2, h3⟩ := h
 obtain ⟨A1, c1, rfl, _⟩ := h1.slice
 obtain ⟨A2, c2, rfl, _⟩ := h2.slice
 obtain ⟨A3, c3, rfl, _⟩ := h3.slice
 exact ⟨A1, c1, A2, c2, A3, c3, rfl, h1, h2, h3⟩
theorem small_bounded (p : ProgF) (l : List Int) : SmallP (boundedQ p l) := by
 refine ⟨(small_clean p).1, fun r hr => ?_⟩
 rcases List.mem_append.1 hr with hr | hr
 ·exact (small_clean p).2 r hr
 ·obtain ⟨v, _, rfl⟩ := List.mem_map.1 hr
  exact small_unit _ _ _ _ (.inr rfl)
theorem PO.ofC {b0 b : Nat} {w : World} {v1 v2 v3 : Value} {p : ProgQ} (hf : FrO 0 w v1 p.free) (hq : QO b w v2 p.goal) (hr : RO b w v3 p.rows) (hi : I64 p.vars) (hb : b0 ≤ b) : PO b0 w (.agg #[.int .i64 p.vars, v1, v2, v3]) p :=
 ⟨v1, v2, v3, rfl, hi, hf.raise (Nat.zero_le _), hq.lower hb, RO.lower hr hb⟩
theorem I64.of_bounded {p : ProgF} {q : Prop} {r : Prop} {s : Prop} (h : q ∧ r ∧ 1 ≤ p.vars ∧ p.vars ≤ 160 ∧ s) : I64 p.vars := by unfold I64; have := h.2.2.1; have := h.2.2.2.1; omega
def ER0 (w : World) (vs : Array Value) (r : RowF) : Prop := r.a.length ≤ 9223372036854775807 ∧ ∃ v A1 n1 c1 A2 n2 c2, vs = #[v, .int .i64 r.s, .bool r.b.neg, .slice A1 n1 c1, .slice A2 n2 c2] ∧ I64 r.s ∧ FL0 w v r.a ∧ FR0 w (.agg #[.bool r.b.neg, .slice A1 n1 c1, .slice A2 n2 c2]) r.b
abbrev RL0 (w : World) (v : Value) (rs : List RowF) : Prop := SL 5 ER0 w v rs
def PG0 (w : World) (v : Value) (p : ProgF) : Prop := (p.free.length ≤ 9223372036854775807 ∧ p.goal.length ≤ 9223372036854775807 ∧ p.rows.length ≤ 9223372036854775807) ∧ ∃ v1 v2 v3, v = .agg #[.int .i64 p.vars, v1, v2, v3] ∧ I64 p.vars ∧ BL w v1 p.free ∧ FL0 w v2 p.goal ∧ RL0 w v3 p.rows
theorem ER0.stays : Stays ER0 := fun _ _ _ _ h hb => by
 obtain ⟨hl, v, A1, n1, c1, A2, n2, c2, e, hs, h1, h2⟩ := h
 exact ⟨hl, v, A1, n1, c1, A2, n2, c2, e, hs, h1.below EF0.stays hb, h2.of_below hb⟩
theorem PG0.of_below {w w1 : World} {v : Value} {p : ProgF} (h : PG0 w v p) (hb : Below w.heap.size w w1) : PG0 w1 v p := by
 obtain ⟨hl, v1, v2, v3, e, hv, h1, h2, h3⟩ := h
 exact ⟨hl, v1, v2, v3, e, hv, h1.below EB.stays hb, h2.below EF0.stays hb, h3.below ER0.stays hb⟩
theorem PG0.opened {w : World} {v : Value} {p : ProgF} (h : PG0 w v p) : ∃ A1 c1 A2 c2 A3 c3, v = .agg #[.int .i64 p.vars, .slice A1 p.free.length c1, .slice A2 p.goal.length c2, .slice A3 p.rows.length c3] ∧ Hid (I64 p.vars) ∧ Hid (BL w (.slice A1 p.free.length c1) p.free) ∧ Hid (FL0 w (.slice A2 p.goal.length c2) p.goal) ∧ Hid (RL0 w (.slice A3 p.rows.length c3) p.rows) := by
 obtain ⟨_, v1, v2, v3, rfl, hv, h1, h2, h3⟩ := h
 obtain ⟨A1, c1, rfl, _⟩ := h1.slice
 obtain ⟨A2, c2, rfl, _⟩ := h2.slice
 obtain ⟨A3, c3, rfl, _⟩ := h3.slice
 exact ⟨A1, c1, A2, c2, A3, c3, rfl, hv, h1, h2, h3⟩
theorem RL0.at5 {w : World} {A : Option Addr} {n c : Nat} {rs : List RowF} (h : RL0 w (.slice A n c) rs) {j : Nat} {r : RowF} (hj : rs[j]? = some r) :
  ∃ g o A1 c1 A2 c2 A3 c3, A = some ⟨g, o, none⟩ ∧ g < w.heap.size ∧ w.cell? ⟨g, o + j * 5, none⟩ = some (.slice A1 r.a.length c1) ∧ w.cell? ⟨g, o + j * 5 + 1, none⟩ = some (.int .i64 r.s) ∧ w.cell? ⟨g, o + j * 5 + 2, none⟩ = some (.bool r.b.neg) ∧
   w.cell? ⟨g, o + j * 5 + 3, none⟩ = some (.slice A2 r.b.num.length c2) ∧ w.cell? ⟨g, o + j * 5 + 4, none⟩ = some (.slice A3 r.b.den.length c3) ∧ Hid (r.a.length ≤ 9223372036854775807) ∧ Hid (I64 r.s) ∧ Hid (FL0 w (.slice A1 r.a.length c1) r.a) ∧ Hid (FR0 w (.agg #[.bool r.b.neg, .slice A2 r.b.num.length c2, .slice A3 r.b.den.length c3]) r.b) := by
 obtain ⟨g, o, vs, hA, hg, hs, hc, hl, v, A2, n2, c2, A3, n3, c3, rfl, hI, h1, h2⟩ := h.at_ hj
 obtain ⟨A1, c1, rfl, _⟩ := h1.slice
 obtain ⟨B1, d1, B2, d2, e, h2'⟩ := h2.opened
 have e' : (A2 = B1 ∧ n2 = r.b.num.length ∧ c2 = d1) ∧ A3 = B2 ∧ n3 = r.b.den.length ∧ c3 = d2 := by simpa using e
 obtain ⟨⟨rfl, rfl, rfl⟩, rfl, rfl, rfl⟩ := e'
 exact ⟨g, o, A1, c1, A2, c2, A3, c3, hA, hg, hc 0 _ rfl, hc 1 _ rfl, hc 2 _ rfl, hc 3 _ rfl, hc 4 _ rfl, hl, hI, h1, h2⟩
def rowIn (vars : Nat) (r : RowF) : Bool := decide (r.a.length ≤ vars) && (wordsB r.a 6 && wordsB [r.b] 6)
def withinB (p : ProgF) (vars rows : Nat) : Bool := decide (p.vars ≤ (vars : Int)) && (decide (p.rows.length ≤ rows) && (decide (p.free.length ≤ vars) && (decide (p.goal.length ≤ vars) && (wordsB p.goal 6 && p.rows.all (rowIn vars)))))
theorem withinB_ok {p : ProgF} {vars rows : Nat} (h : withinB p vars rows = true) : p.vars ≤ vars ∧ p.rows.length ≤ rows ∧ p.free.length ≤ vars ∧ p.goal.length ≤ vars ∧ wordsB p.goal 6 = true ∧ ∀ r ∈ p.rows, r.a.length ≤ vars ∧ wordsB r.a 6 = true ∧ wordF 6 r.b = true := by
 unfold withinB at h
 simp only [Bool.and_eq_true, decide_eq_true_eq] at h
 obtain ⟨h1, h2, h3, h4, h5, h6⟩ := h
 refine ⟨h1, h2, h3, h4, h5, fun r hr => ?_⟩
 have := List.all_eq_true.1 h6 r hr
 unfold rowIn at this
 simp only [Bool.and_eq_true, decide_eq_true_eq] at this
 obtain ⟨a, b, c⟩ := this
 refine ⟨a, b, ?_⟩
 unfold wordsB at c
 simpa using c
theorem PG0.full {w : World} {v : Value} {p : ProgF} (h : PG0 w v p) {vars rows : Nat} (hw : withinB p vars rows = true) : PR w v p := by
 obtain ⟨_, v1, v2, v3, e, hv, h1, h2, h3⟩ := h
 obtain ⟨_, _, _, _, h5, h6⟩ := withinB_ok hw
 refine ⟨v1, v2, v3, e, hv, h1, h2.full (by decide) h5, ?_⟩
 obtain ⟨A, c, e, hc, hr⟩ := h3
 refine ⟨A, c, e, hc, fun hp => ?_⟩
 obtain ⟨g, o, hA, hg, he⟩ := hr hp
 refine ⟨g, o, hA, hg, fun j x hx => ?_⟩
 obtain ⟨vs, g1, g2, _, v, A1, n1, c1, A2, n2, c2, e, hI, g3, g4⟩ := he j x hx
 obtain ⟨_, b, c⟩ := h6 x (List.mem_of_getElem? hx)
 have := wordF_ok c
 exact ⟨vs, g1, g2, v, A1, n1, c1, A2, n2, c2, e, hI, g3.full (by decide) b, g4.full ⟨by omega, by omega⟩⟩
theorem FL0.one {w : World} {x y z : Value} {f : RawF} (h : FR0 w (.agg #[x, y, z]) f) (t : Nat) : FL0 (w.alloc (.cells #[x, y, z] t)) (.slice (some ⟨w.heap.size, 0, none⟩) 1 1) [f] := by
 refine ⟨_, _, rfl, Nat.le_refl _, fun _ => ⟨w.heap.size, 0, rfl, (Blk.new w t #[x, y, z]).lt, fun j f' hj => ?_⟩⟩
 obtain ⟨hlt, e⟩ := List.getElem?_eq_some_iff.1 hj
 obtain rfl : j = 0 := by simpa using hlt
 obtain rfl : f = f' := by simpa using e
 refine ⟨#[x, y, z], rfl, fun i v hv => ?_, h.of_below (below_new w _)⟩
 have := (Blk.new w t #[x, y, z]).cell hv
 simpa using this
theorem within_calls (w : World) (v : Value) (p : ProgF) (vars rows : Nat) (h : PG0 w v p) (hv1 : vars ≤ 1000) (hr1 : rows ≤ 1000) : Calls Try.prog 11 #[v, .int .i64 (vars : Int), .int .i64 (rows : Int)] w fun e w' => BPost w (withinB p vars rows) e w' := by
 have hl := h.1
 obtain ⟨A1, c1, A2, c2, A3, c3, rfl, HI, H1, H2, H3⟩ := h.opened
 have hl1 := hl.1
 have hl2 := hl.2.1
 have hl3 := hl.2.2
 clear h hl
 obtain ⟨pv, hv⟩ : ∃ n, n = p.vars := ⟨_, rfl⟩
 rw [← hv]
 have HV := Hd hv
 clear hv
 go_enter Try.func11, Try.ntmps11
 by_cases a1 : pv > (vars : Int)
 ·have t1 : decide (pv > (vars : Int)) = true := decide_eq_true a1
  have HR : Hid (withinB p vars rows = false) := by unfold Hid withinB; rw [← HV.out, decide_eq_false (by omega)]; rfl
  clear a1
  go_wp2_with fail
  go_ret
  exact ⟨by rw [HR.out]; rfl, below_new w _⟩
 have t1 : decide (pv > (vars : Int)) = false := decide_eq_false a1
 by_cases a2 : p.rows.length > rows
 ·have t2 : decide (rows < p.rows.length) = true := decide_eq_true (by omega)
  have HR : Hid (withinB p vars rows = false) := by unfold Hid withinB; rw [decide_eq_false (show ¬ p.rows.length ≤ rows by omega), Bool.false_and, Bool.and_false]
  clear a1 a2
  go_wp2_with fail
  go_ret
  exact ⟨by rw [HR.out]; rfl, below_new w _⟩
 have t2 : decide (rows < p.rows.length) = false := decide_eq_false (by omega)
 by_cases a3 : p.free.length > vars
 ·have t3 : decide (vars < p.free.length) = true := decide_eq_true (by omega)
  have HR : Hid (withinB p vars rows = false) := by unfold Hid withinB; rw [decide_eq_false (show ¬ p.free.length ≤ vars by omega), Bool.false_and, Bool.and_false, Bool.and_false]
  clear a1 a2 a3
  go_wp2_with fail
  go_ret
  exact ⟨by rw [HR.out]; rfl, below_new w _⟩
 have t3 : decide (vars < p.free.length) = false := decide_eq_false (by omega)
 by_cases a4 : p.goal.length > vars
 ·have t4 : decide (vars < p.goal.length) = true := decide_eq_true (by omega)
  have HR : Hid (withinB p vars rows = false) := by unfold Hid withinB; rw [decide_eq_false (show ¬ p.goal.length ≤ vars by omega), Bool.false_and, Bool.and_false, Bool.and_false, Bool.and_false]
  clear a1 a2 a3 a4
  go_wp2_with fail
  go_ret
  exact ⟨by rw [HR.out]; rfl, below_new w _⟩
 have t4 : decide (vars < p.goal.length) = false := decide_eq_false (by omega)
 have HHEAD : Hid (withinB p vars rows = (wordsB p.goal 6 && p.rows.all (rowIn vars))) := by
  unfold Hid withinB
  rw [← HV.out, decide_eq_true (show pv ≤ (vars : Int) by omega), decide_eq_true (show p.rows.length ≤ rows by omega), decide_eq_true (show p.free.length ≤ vars by omega), decide_eq_true (show p.goal.length ≤ vars by omega)]
  rfl
 clear a1 a2 a3 a4
 go_wp2_with fail
 have H0 := Hd (HS.one (w := w) #[.int .i64 pv, .slice A1 p.free.length c1, .slice A2 p.goal.length c2, .slice A3 p.rows.length c3] 26)
 generalize w.alloc (.cells #[.int .i64 pv, .slice A1 p.free.length c1, .slice A2 p.goal.length c2, .slice A3 p.rows.length c3] 26) = W0 at *
 refine (words_calls W0 _ p.goal 6 (H2.out.below EF0.stays H0.out.2) hl2 (by decide)).mono ?_
 rintro e w1 ⟨rfl, hb⟩
 have H1' := Hd (H0.out.step hb)
 obtain ⟨x0, x1, x2, x3⟩ := H1'.out.c4 0 rfl
 clear hb
 cases hg : wordsB p.goal 6 with
 | false =>
  have HR : Hid (withinB p vars rows = false) := by unfold Hid; rw [HHEAD.out, hg]; rfl
  clear hg
  go_wp2_with fail
  go_ret
  exact ⟨by rw [HR.out]; rfl, H1'.out.2⟩
 | true =>
  have HE : Hid (withinB p vars rows = p.rows.all (rowIn vars)) := by unfold Hid; rw [HHEAD.out, hg]; rfl
  clear hg
  go_wp2_with fail
  clear x0 x1 x2 x3
  go_loopw [43] (fun vi wr => ∃ i : Nat, i ≤ p.rows.length ∧ vi = .int .i64 (i : Int) ∧ (∀ (j : Nat) (r : RowF), j < i → p.rows[j]? = some r → rowIn vars r = true) ∧ HS w [(w.heap.size, 26, #[.int .i64 pv, .slice A1 p.free.length c1, .slice A2 p.goal.length c2, .slice A3 p.rows.length c3])] wr) (fun vi _ => p.rows.length - (intOf vi).toNat)
  case atStart => exact ⟨0, Nat.zero_le _, rfl, fun j _ h => absurd h (Nat.not_lt_zero _), H1'.out⟩
  case round =>
   obtain ⟨i, hi, rfl, hall, hk⟩ := hrel
   have HA := Hd hall
   have HK := Hd hk
   clear hall hk
   by_cases hlt : i < p.rows.length
   ·obtain ⟨r, hr⟩ : ∃ r, p.rows[i]? = some r := ⟨p.rows[i], List.getElem?_eq_getElem hlt⟩
    obtain ⟨g, o, B1, d1, B2, d2, B3, d3, rfl, hg, k0, k1, k2, k3, k4, hla, HI', HA', HB'⟩ := RL0.at5 (H3.out.below ER0.stays HK.out.2) hr
    have hrl := hla.out
    have HRR := Hd hr
    clear hr hla
    have m1 : (i : Int) < (p.rows.length : Int) := by omega
    have m3 : (i : Int).toNat = i := by omega
    have m4 : (0 : Int) ≤ (i : Int) := by omega
    obtain ⟨s, hs⟩ : ∃ s, s = r.s := ⟨_, rfl⟩
    rw [← hs] at k1
    obtain ⟨la, hla⟩ : ∃ l, l = r.a.length := ⟨_, rfl⟩
    rw [← hla] at hrl HA' k0
    have HLA := Hd hla
    obtain ⟨lb1, hlb1⟩ : ∃ l, l = r.b.num.length := ⟨_, rfl⟩
    obtain ⟨lb2, hlb2⟩ : ∃ l, l = r.b.den.length := ⟨_, rfl⟩
    rw [← hlb1] at HB' k3
    rw [← hlb2] at HB' k4
    clear hs hla hlb1 hlb2
    by_cases q1 : la > vars
    ·have u1 : decide (vars < la) = true := decide_eq_true (by omega)
     have HR : Hid (withinB p vars rows = false) := by
      unfold Hid
      rw [HE.out]
      refine all_false HRR.out ?_
      unfold rowIn
      rw [← HLA.out, decide_eq_false (by omega)]
      rfl
     clear q1
     go_wp2_with fail
     go_ret
     exact ⟨by rw [HR.out]; rfl, (HK.out.step (below_new _ _)).2⟩
    have u1 : decide (vars < la) = false := decide_eq_false (by omega)
    have HLE : Hid (la ≤ vars) := Nat.le_of_not_lt q1
    clear q1
    go_wp2_with fail
    have HB1 := Hd (below_new wr (.cells #[.slice B1 la d1, .int .i64 s, .bool r.b.neg, .slice B2 lb1 d2, .slice B3 lb2 d3] 65))
    have HKB1 := Hd (Blk.new wr 65 #[.slice B1 la d1, .int .i64 s, .bool r.b.neg, .slice B2 lb1 d2, .slice B3 lb2 d3])
    generalize wr.alloc (.cells #[.slice B1 la d1, .int .i64 s, .bool r.b.neg, .slice B2 lb1 d2, .slice B3 lb2 d3] 65) = W1 at *
    refine (words_calls W1 _ r.a 6 (HA'.out.below EF0.stays HB1.out) (by rw [← HLA.out]; exact hrl) (by decide)).mono ?_
    rintro e w2 ⟨rfl, hb⟩
    have HB2 := Hd (below_next HB1.out hb)
    have HKB2 := Hd (HKB1.out.below hb HKB1.out.lt)
    have z2 := HKB2.out.cell (j := 2) rfl
    have z3 := HKB2.out.cell (j := 3) rfl
    have z4 := HKB2.out.cell (j := 4) rfl
    have hz := HKB2.out.lt
    clear hb
    cases hwa : wordsB r.a 6 with
    | false =>
     have HR : Hid (withinB p vars rows = false) := by
      unfold Hid
      rw [HE.out]
      refine all_false HRR.out ?_
      unfold rowIn
      rw [hwa, Bool.false_and, Bool.and_false]
     clear hwa
     go_wp2_with fail
     go_ret
     exact ⟨by rw [HR.out]; rfl, (HK.out.step HB2.out).2⟩
    | true =>
     have HWA := Hd hwa
     clear hwa
     go_wp2_with fail
     refine (words_calls _ _ [r.b] 6 (FL0.one (HB'.out.of_below HB2.out) 40) (by simp) (by decide)).mono ?_
     rintro e w3 ⟨rfl, hb⟩
     have HB3 := Hd (below_next (below_next HB2.out (below_new w2 _)) hb)
     clear hb
     cases hwb : wordsB [r.b] 6 with
     | false =>
      have HR : Hid (withinB p vars rows = false) := by
       unfold Hid
       rw [HE.out]
       refine all_false HRR.out ?_
       unfold rowIn
       rw [hwb, Bool.and_false, Bool.and_false]
      clear hwb
      go_wp2_with fail
      go_ret
      exact ⟨by rw [HR.out]; rfl, (HK.out.step HB3.out).2⟩
     | true =>
      have HG : Hid (rowIn vars r = true) := by
       unfold Hid rowIn
       rw [← HLA.out, HWA.out, hwb, decide_eq_true HLE.out]
       rfl
      clear hwb
      go_wp2_with fail
      go_roundw
      case rel =>
       refine ⟨i + 1, by omega, by go_num, fun j r' hj hr' => ?_, HK.out.step HB3.out⟩
       by_cases hji : j = i
       ·rw [hji, HRR.out] at hr'
        injection hr' with e
        rw [← e]
        exact HG.out
       ·exact HA.out j r' (by omega) hr'
      case measure => simp [intOf]; omega
   ·obtain rfl : i = p.rows.length := by omega
    have HE2 : Hid (withinB p vars rows = true) := by unfold Hid; rw [HE.out]; exact all_true fun j r hr => HA.out j r (List.getElem?_eq_some_iff.1 hr).1 hr
    go_wp2_with fail
    go_ret
    exact ⟨by rw [HE2.out]; rfl, HK.out.2⟩
theorem fit_words {n : Nat} {f : RawF} (h : wordF n f = true) (hn : 1 ≤ n) : FitQ n (fixQ f) := by
 obtain ⟨h1, h2⟩ := wordF_ok h
 by_cases hr : RightF f
 ·have h3 := right_raw hr
  have e1 : f.num = dg (fixQ f).num.natAbs := congrArg RawF.num h3
  have e2 : f.den = dg (fixQ f).den := congrArg RawF.den h3
  exact ⟨by unfold wlen; rw [← e1]; exact h1, by unfold wlen; rw [← e2]; exact h2⟩
 ·rw [fixQ_wrong hr]
  exact fit_mono fit_zero hn
theorem fold_fits (k : Nat) : ∀ (l : List Rat) (c : Nat) (a : Rat), FitQ c a → (∀ q ∈ l, FitQ k q) → 2 * (l.length * (k + 1) + c) ≤ 4096 → l.foldl dotStep a = l.foldl (· + ·) a
 | [], _, _, _, _, _ => rfl
 | q :: l, c, a, ha, h, hk => by
  rw [List.length_cons, Nat.add_mul] at hk
  have hq := h q (by simp)
  have hs := fit_add ha hq (Nat.le_refl _)
  have e : dotStep a q = a + q := by
   unfold dotStep
   rw [capQ_fits (Nat.le_trans hq.size (by omega)), capQ_fits (Nat.le_trans hs.size (by omega))]
  rw [List.foldl_cons, List.foldl_cons, e]
  exact fold_fits k l _ _ hs (fun x hx => h x (List.mem_cons_of_mem _ hx)) (by omega)
theorem fit_zip {k1 k2 : Nat} : ∀ (a b : List Rat), (∀ q ∈ a, FitQ k1 q) → (∀ q ∈ b, FitQ k2 q) → ∀ q ∈ List.zipWith (· * ·) a b, FitQ (k1 + k2) q
 | [], _, _, _, q, hq => by simp at hq
 | _ :: _, [], _, _, q, hq => by simp at hq
 | x :: a, y :: b, ha, hb, q, hq => by
  rw [List.zipWith_cons_cons, List.mem_cons] at hq
  rcases hq with rfl | hq
  ·exact fit_mul (ha x (by simp)) (hb y (by simp)) (Nat.le_refl _)
  ·exact fit_zip a b (fun z hz => ha z (List.mem_cons_of_mem _ hz)) (fun z hz => hb z (List.mem_cons_of_mem _ hz)) q hq
theorem dotQ_fits {k1 k2 n : Nat} {a b : List Rat} (ha : ∀ q ∈ a, FitQ k1 q) (hb : ∀ q ∈ b, FitQ k2 q) (hn : a.length ≤ n) : FitQ (n * (k1 + k2 + 1) + 1) (dotQ a b) := by
 have h1 : (List.zipWith (· * ·) a b).length ≤ n := by rw [List.length_zipWith]; omega
 have h2 := Nat.mul_le_mul_right (k1 + k2 + 1) h1
 exact fit_mono (fit_sum (List.zipWith (· * ·) a b) (k1 + k2) (fit_zip a b ha hb)) (by omega)
theorem cap_dotQ {k1 k2 n : Nat} {a b : List Rat} (ha : ∀ q ∈ a, FitQ k1 q) (hb : ∀ q ∈ b, FitQ k2 q) (hn : a.length ≤ n) (hk : 2 * (n * (k1 + k2 + 1) + 1) ≤ 4096) : capQ (dotQ a b) = dotQ a b :=
 capQ_fits (Nat.le_trans (dotQ_fits ha hb hn).size hk)
theorem fit_list {n : Nat} {fs : List RawF} (h : wordsB fs n = true) (hn : 1 ≤ n) : ∀ q ∈ fs.map fixQ, FitQ n q := fun q hq => by
 obtain ⟨f, hf, rfl⟩ := List.mem_map.1 hq
 exact fit_words (List.all_eq_true.1 h f hf) hn
theorem signQ_ord (q : Rat) : signQ q = ordQ q 0 := by
 unfold signQ ordQ
 by_cases h : q = 0
 ·subst h; rfl
 ·rw [if_neg (fun h0 => h (Rat.num_eq_zero.1 h0)), if_neg h]
  have e : q.num < 0 ↔ q < 0 := by
   have := @Rat.num_nonneg q
   constructor
   ·intro h1; exact Rat.not_le.1 (fun h2 => by have := this.2 h2; omega)
   ·intro h1; exact Int.not_le.1 (fun h2 => Rat.not_le.2 h1 (this.1 h2))
  by_cases h1 : q < 0
  ·rw [if_pos h1, if_pos (e.2 h1)]
  ·rw [if_neg h1, if_neg (fun h2 => h1 (e.1 h2))]
theorem fit_nth {n : Nat} {fs : List RawF} (h : wordsB fs n = true) (hn : 1 ≤ n) (v : Nat) : FitQ n (fixQ (nthF fs v)) := by
 unfold nthF
 rw [List.getD_eq_getElem?_getD]
 cases hx : fs[v]? with
 | none => exact fit_words (f := ⟨false, [], []⟩) (by simp [wordF]) hn
 | some f => exact fit_words (List.all_eq_true.1 h f (List.mem_of_getElem? hx)) hn
theorem fit_zipf {α : Type} {k1 k2 : Nat} {f : α → Rat} : ∀ (rows : List α) (ys : List Rat), (∀ r ∈ rows, FitQ k1 (f r)) → (∀ q ∈ ys, FitQ k2 q) → ∀ q ∈ List.zipWith (fun r q => q * f r) rows ys, FitQ (k1 + k2) q
 | [], _, _, _, q, hq => by simp at hq
 | _ :: _, [], _, _, q, hq => by simp at hq
 | x :: a, y :: b, ha, hb, q, hq => by
  rw [List.zipWith_cons_cons, List.mem_cons] at hq
  rcases hq with rfl | hq
  ·exact fit_mul (hb y (by simp)) (ha x (by simp)) (by omega)
  ·exact fit_zipf a b (fun z hz => ha z (List.mem_cons_of_mem _ hz)) (fun z hz => hb z (List.mem_cons_of_mem _ hz)) q hq
theorem fold_sum {k n : Nat} {l : List Rat} (h : ∀ q ∈ l, FitQ k q) (hn : l.length ≤ n) (hk : 2 * (n * (k + 1) + 1) ≤ 4096) : l.foldl dotStep 0 = sumQ l ∧ FitQ (n * (k + 1) + 1) (sumQ l) := by
 have h2 := Nat.mul_le_mul_right (k + 1) hn
 exact ⟨fold_fits k l 1 0 fit_zero h (by omega), fit_mono (fit_sum l k h) (by omega)⟩
section
variable {cm : Nat} {p : ProgF} {c : CertF}
theorem col_fit (hp : withinB p 20 30 = true) (hc : certB c cm = true) (v : Nat) : FitQ 571 (colQ p.rows (c.y.map fixQ) v) := by
 obtain ⟨_, h2, _, _, _, h6⟩ := withinB_ok hp
 obtain ⟨_, _, hy, _⟩ := certB_ok hc
 have := fold_sum (k := 18) (n := 30) (l := colL p.rows (c.y.map fixQ) v) (fit_zipf (k1 := 6) (k2 := 12) (f := fun (r : RowF) => fixQ (nthF r.a v)) p.rows (c.y.map fixQ) (fun r hr => fit_nth (h6 r hr).2.1 (by decide) v) (fit_list hy (by decide))) (by unfold colL; rw [List.length_zipWith]; omega) (by decide)
 unfold colQ
 rw [this.1]
 exact this.2
end
end Go.Proofs.Ytfhambfgjigneaa

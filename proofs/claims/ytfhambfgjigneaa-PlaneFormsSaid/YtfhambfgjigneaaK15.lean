/- Contracts of Go functions that the statement reaches, proved by walking their text, and plain laws over them (texts put together). -/
import Derived.Test.YtfhambfgjigneaaK5
import Derived.Test.YtfhambfgjigneaaK12
import Derived.Test.YtfhambfgjigneaaK8
set_option linter.unusedVariables false
namespace Go.Proofs.Ytfhambfgjigneaa
open Go
/-- An order that is drawn, with places at which two operations are ready. -/
inductive CT where
  | fin (p0 : List Nat)
  | one (p : List Nat) (c : Nat) (t : CT)
  | two (p : List Nat) (c1 : Nat) (t1 : CT) (c2 : Nat) (t2 : CT)
section
variable {P : Program} {ops : Array Oper} {Q : Exit → Act → World → Prop} {md : Region.Mode} {S : World → Prop} {L : Nat}
def CT.len : CT → Nat
  | .fin p0 => p0.length
  | .one p _ t => p.length + 1 + t.len
  | .two p _ t1 _ _ => p.length + 1 + t1.len
def treeF (P : Program) (ops : Array Oper) (Q : Exit → Act → World → Prop) (S : World → Prop) (os : List Oper) : CT → Act → World → Prop
  | .fin p0, a, w => ∃ A, pureTo P ops S p0 a A ∧ wpList P ops Q os A w
  | .one p c t, a, w => ∃ A o, pureTo P ops S p a A ∧ ops[c]? = some o ∧ wpList P ops (chainQ Q fun a' w' => S w' ∧ treeF P ops Q S os t a' w') [o] A w
  | .two p c1 t1 c2 t2, a, w => ∃ A o1 o2, pureTo P ops S p a A ∧ ops[c1]? = some o1 ∧ ops[c2]? = some o2 ∧ wpList P ops (chainQ Q fun a' w' => S w' ∧ treeF P ops Q S os t1 a' w') [o1] A w ∧ wpList P ops (chainQ Q fun a' w' => S w' ∧ treeF P ops Q S os t2 a' w') [o2] A w
def treeOk (md : Region.Mode) (ops : Array Oper) (L : Nat) : CT → Array Bool → Bool
  | .fin p0, listed => takesF md ops L p0 listed && freeF md ops (ops.size - L) L (marked p0 listed)
  | .one p c t, listed => takesF md ops L p listed && (Region.ready md ops (marked p listed) == [c]) && treeOk md ops L t ((marked p listed).setIfInBounds c true)
  | .two p c1 t1 c2 t2, listed => takesF md ops L p listed && (Region.ready md ops (marked p listed) == [c1, c2]) && treeOk md ops L t1 ((marked p listed).setIfInBounds c1 true) && treeOk md ops L t2 ((marked p listed).setIfInBounds c2 true) && (t1.len == t2.len)
theorem wpAnyF_two {c1 c2 : Nat} {fuel : Nat} {listed : Array Bool} {a : Act} {w : World} (hr : Region.ready md ops listed = [c1, c2])
    (h1 : wpOp P ops Q c1 (fun a' w' => (c1 < L → S w') ∧ wpAnyF P md ops Q S L fuel (listed.setIfInBounds c1 true) a' w') a w)
    (h2 : wpOp P ops Q c2 (fun a' w' => (c2 < L → S w') ∧ wpAnyF P md ops Q S L fuel (listed.setIfInBounds c2 true) a' w') a w) : wpAnyF P md ops Q S L (fuel + 1) listed a w :=
  ⟨fun h0 => (by rw [hr] at h0; cases h0), fun i hi => by
    rw [hr] at hi
    simp at hi
    rcases hi with rfl | rfl
    · exact h1
    · exact h2⟩
theorem tree_sound (hsel : ∀ (j : Nat) (o : Oper) cs b, ops[j]? = some o → o.op ≠ .select cs b) (hQ : ∀ c a d v w, Q (.panic c) (Act.put a d v) w → Q (.panic c) a w) (os : List Oper) (hos : os = ops.toList.drop L) :
    ∀ (t : CT) (listed : Array Bool) (a : Act) (w : World), treeOk md ops L t listed = true → Closed md ops listed → treeF P ops Q S os t a w → S w → ∀ more, wpAnyF P md ops Q S L (t.len + (ops.size - L) + more) listed a w
  | .fin p0, listed, a, w, hc, hcl, ⟨A, hp, h⟩, hS, more => by
    simp only [treeOk, Bool.and_eq_true] at hc
    rw [show (CT.fin p0).len + (ops.size - L) + more = p0.length + (ops.size - L + more) by simp only [CT.len]; omega]
    refine takesF_sound hsel hQ p0 listed a A w _ hc.1 hcl hp hS (fun _ => freeF_sound _ L os _ A w (Nat.le_refl _) hc.2 (by rw [hos]; simp) (fun j => ?_) h more)
    left
    rw [hos, List.getElem?_drop]
    simp
  | .one p c t, listed, a, w, hc, hcl, ⟨A, o, hp, ho, h⟩, hS, more => by
    simp only [treeOk, Bool.and_eq_true, beq_iff_eq] at hc
    obtain ⟨⟨ht, hr⟩, he⟩ := hc
    rw [show (CT.one p c t).len + (ops.size - L) + more = p.length + (t.len + (ops.size - L) + more + 1) by simp only [CT.len]; omega]
    refine takesF_sound hsel hQ p listed a A w _ ht hcl hp hS (fun hcl' => wpAnyF_only hr (wpOp_mono (fun a' w' hk => ⟨fun _ => hk.1, ?_⟩) (wpOp_of_chain ho h)))
    exact tree_sound hsel hQ os hos t _ a' w' he (hcl'.step (by rw [hr]; simp)) hk.2 hk.1 more
  | .two p c1 t1 c2 t2, listed, a, w, hc, hcl, ⟨A, o1, o2, hp, ho1, ho2, h1, h2⟩, hS, more => by
    simp only [treeOk, Bool.and_eq_true, beq_iff_eq] at hc
    obtain ⟨⟨⟨⟨ht, hr⟩, he1⟩, he2⟩, hl⟩ := hc
    rw [show (CT.two p c1 t1 c2 t2).len + (ops.size - L) + more = p.length + (t1.len + (ops.size - L) + more + 1) by simp only [CT.len]; omega]
    refine takesF_sound hsel hQ p listed a A w _ ht hcl hp hS (fun hcl' => wpAnyF_two hr (wpOp_mono (fun a' w' hk => ⟨fun _ => hk.1, ?_⟩) (wpOp_of_chain ho1 h1)) (wpOp_mono (fun a' w' hk => ⟨fun _ => hk.1, ?_⟩) (wpOp_of_chain ho2 h2)))
    · exact tree_sound hsel hQ os hos t1 _ a' w' he1 (hcl'.step (by rw [hr]; simp)) hk.2 hk.1 more
    · rw [hl]
      exact tree_sound hsel hQ os hos t2 _ a' w' he2 (hcl'.step (by rw [hr]; simp)) hk.2 hk.1 more
theorem wp_tree {id : Nat} {a : Act} {w : World} {l : List Oper} (S : World → Prop) (L : Nat) (t : CT) (hm : P.follows .mixedOrders = true) (hs : Region.noSelect l.toArray = true) (hc : treeOk .any l.toArray L t (Array.replicate l.toArray.size false) = true)
    (hlen : t.len + (l.toArray.size - L) = l.toArray.size) (hS : S w.drew) (h : treeF P l.toArray (NoPanic Q) S (l.drop L) t a w.drew) : (Code.region id l.toArray true).wp P Q a w := by
  have := tree_sound (md := .any) (L := L) (Region.noSelect_spec hs) (fun _ _ _ _ _ h => h) (l.drop L) (by simp) t (Array.replicate l.toArray.size false) a w.drew hc (Closed.start _) h hS 0
  rw [Nat.add_zero, hlen] at this
  exact wp_region_noPanic (wp_region_any hm (wpAny_of_F _ _ _ _ this))
end
end Go.Proofs.Ytfhambfgjigneaa
set_option linter.unusedVariables false
set_option linter.unusedSimpArgs false
namespace Go.Proofs.Ytfhambfgjigneaa
open Go.RowKit
theorem OL.push1 {α : Type} {k e : Nat} {E : World → Array Value → α → Prop} {base : Nat} {w w1 : World} {v v' : Value} {ys : List α} {vs : Array Value} {b : α} {xs : List Value} (hE : Leans E) (h1 : OwnR w base e k v ys.length xs) (h2 : ∀ j a, ys[j]? = some a → ∃ vs : Array Value, vs.size = k ∧ (∀ i u, vs[i]? = some u → xs[j * k + i]? = some u) ∧ E w vs a)
    (hv : vs.size = k) (hb : E w vs b) (hk : Keeps w w1) (hown : OwnR w1 base e k v' (ys.length + 1) (xs ++ vs.toList)) : OL k e E base w1 v' (ys ++ [b]) := by
  refine ⟨xs ++ vs.toList, by rw [List.length_append]; exact hown, fun j a hj => ?_⟩
  rw [List.getElem?_append] at hj
  split at hj
  · obtain ⟨us, h3, h4, h5⟩ := h2 j a hj
    refine ⟨us, h3, fun i u hi => ?_, hE _ _ _ _ h5 hk⟩
    have h6 := h4 i u hi
    rw [List.getElem?_append_left (List.getElem?_eq_some_iff.1 h6).1]
    exact h6
  · have h0 : j - ys.length = 0 := by
      have := (List.getElem?_eq_some_iff.1 hj).1
      simp at this
      omega
    rw [h0] at hj
    have hba : b = a := by simpa using hj
    subst hba
    obtain rfl : j = ys.length := by omega
    refine ⟨vs, hv, fun i u hi => ?_, hE _ _ _ _ hb hk⟩
    rw [← h1.1, List.getElem?_append_right (by omega), Nat.add_sub_cancel_left]
    simpa using hi
/-- A fraction in three cells. -/
def EFQ (w : World) (vs : Array Value) (q : Rat) : Prop := FQ w (.agg vs) q
theorem EFQ.stays : Stays EFQ := fun _ _ _ _ h hb => FQ.of_below h hb
theorem EFQ.leans : Leans EFQ := fun _ _ _ _ h hk => FQ.keeps h hk
theorem EFQ.far : Far EFQ := fun w w1 vs x g t cs h hb hn hs hk => by
  obtain ⟨v1, v2, e, h1, h2⟩ := h
  exact ⟨v1, v2, e, Rd.apart h1 hb hn hs hk, Rd.apart h2 hb hn hs hk⟩
theorem notWord_of_notInt {v : Value} (h : notInt v = true) : notWord v = true := by
  cases v <;> first | rfl | (simp [notInt] at h)
abbrev QO (base : Nat) (w : World) (v : Value) (qs : List Rat) : Prop := OL 3 40 EFQ base w v qs
theorem Row3.own {w : World} {g n base : Nat} {qs : List Rat} (h : Row3 40 EFQ w g n qs) (hn : qs.length = n) (hb : base ≤ g) (hm : n ≤ maxLen) : QO base w (.slice (some ⟨g, 0, none⟩) n n) qs := by
  obtain ⟨cs, hk, hs, hcn, hl, he⟩ := h
  refine ⟨cs.toList, ⟨by simpa [hn] using hs, .inr ⟨g, n, cs, by rw [hn], hb, hk, by omega, hm, hs, ?_, fun u hu => notWord_of_notInt (hcn u hu)⟩⟩, fun j x hj => ?_⟩
  · rw [hn, ← hs, ← Array.length_toList, List.take_length]
  · obtain ⟨a, b, c, h0, h1, h2, h3⟩ := he j x hj
    refine ⟨#[a, b, c], rfl, fun i u hi => ?_, h3⟩
    have hi3 : i < 3 := (Array.getElem?_eq_some_iff.1 hi).1
    match i, hi3 with
    | 0, _ => rw [show u = a by simpa using hi.symm]; simpa using h0
    | 1, _ => rw [show u = b by simpa using hi.symm]; simpa using h1
    | 2, _ => rw [show u = c by simpa using hi.symm]; simpa using h2
/-- What a function that makes a list of fractions answers. -/
def LPost (w : World) (qs : List Rat) (e : Ending) (w' : World) : Prop := ∃ v, e = .returned v ∧ QO w.heap.size w' v qs ∧ Below w.heap.size w w'
theorem ofNilQ (w : World) : QO w.heap.size w (.slice none 0 0) [] := OL.nil _ _ _ _ _
/-- 'append(b, x)' where b is a list of fractions of the call's own and x a fraction in a literal. -/
theorem wpl_appendQ {ops : Array Oper} {rest : List Oper} {o : Oper} {a : Act} {Q : Exit → Act → World → Prop} {W : World} (hgd : o.guard = none) (s x : Operand) (ho : o.op = .call { callee := .builtin .append, args := #[s, x], argTypes := #[23, 23] }) {base : Nat}
    (v : Value) (fs : List Rat) (hs : a.eval s = v) (hown : QO base W v fs) {g : Nat} {b : Bool} {A1 A2 : Option Addr} {n1 c1 n2 c2 : Nat} (f : Rat) (hx : a.eval x = .slice (some ⟨g, 0, none⟩) 1 1) (hk : Blk W g 40 #[.bool b, .slice A1 n1 c1, .slice A2 n2 c2]) (hf : FQ W (.agg #[.bool b, .slice A1 n1 c1, .slice A2 n2 c2]) f)
    (hl : fs.length ≤ 1000000000) (hbase : base ≤ W.heap.size)
    (h : ∀ v' w', QO base w' v' (fs ++ [f]) → W.grownBy w' v.ownBlock → Keeps W w' → (∀ g, v'.ownBlock = some g → v.ownBlock = some g ∨ W.heap.size ≤ g) → wpList Try.prog ops Q rest (a.put o.dst v') w') : wpList Try.prog ops Q (o :: rest) a W := by
  obtain ⟨xs, h1, h2⟩ := hown
  refine wpl_appendR hgd s x 23 ho (base := base) zeroF 56 Try.underlying23 info40z rfl zeroF_words v fs.length xs hs h1 ⟨g, 0, none⟩ 1 1 [.bool b, .slice A1 n1 c1, .slice A2 n2 c2] hx rfl (lit_cells hk) frac_one frac_word (by decide) (by omega) (by omega) hbase fun v' w' h3 h4 h5 h6 => h v' w' ?_ h4 h5 h6
  exact OL.push1 EFQ.leans (k := 3) (e := 40) (vs := #[.bool b, .slice A1 n1 c1, .slice A2 n2 c2]) h1 h2 rfl hf h5 h3
set_option maxHeartbeats 16000000 in
set_option maxRecDepth 100000 in
theorem fixed_calls (w : World) (v : Value) (fs : List RawF) (h : FL w v fs) (hl : fs.length ≤ 1000000000) : Calls Try.prog 83 #[v] w fun e w' => LPost w (fs.map fixQ) e w' := by
  obtain ⟨A, c, rfl, hc⟩ := h.slice
  have HF := Lib.hid h
  clear h
  go_enter Try.func83, Try.ntmps83
  have hmk := run_make3 23 40 _ Try.underlying23 info40m fs.length (by omega)
  go_wp2_with fail
  clear hmk
  have hr0 := Row3.made (E := EFQ) w 40 fs.length #[.bool false, .slice none 0 0, .slice none 0 0] rfl ni40
  have hb0 := below_new w (.cells (madeCells #[.bool false, .slice none 0 0, .slice none 0 0] (fs.length * 3)) 40)
  generalize w.alloc (.cells (madeCells #[.bool false, .slice none 0 0, .slice none 0 0] (fs.length * 3)) 40) = W0 at *
  go_loopw [11] (fun vi wr => ∃ i : Nat, i ≤ fs.length ∧ vi = .int .i64 (i : Int) ∧ Row3 40 EFQ wr w.heap.size fs.length ((fs.take i).map fixQ) ∧ Below w.heap.size w wr) (fun vi _ => fs.length - (intOf vi).toNat)
  case atStart => exact ⟨0, Nat.zero_le _, rfl, hr0, hb0⟩
  case round =>
    obtain ⟨i, hi, rfl, hrow, hb⟩ := hrel
    have HRW := Lib.hid hrow
    have HB := Lib.hid hb
    clear hrow hb hr0 hb0
    by_cases hlt : i < fs.length
    · obtain ⟨f, hf⟩ : ∃ f, fs[i]? = some f := ⟨fs[i], List.getElem?_eq_getElem hlt⟩
      obtain ⟨g, o, A1, n1, c1, A2, n2, c2, rfl, hg, k0, k1, k2, HE⟩ := FL.at3 (HF.out.below EF.stays HB.out) hf
      have HFI := Lib.hid hf
      clear hf
      have m1 : (i : Int) < (fs.length : Int) := by omega
      have m3 : (i : Int).toNat = i := by omega
      have m4 : (0 : Int) ≤ (i : Int) := by omega
      go_wp2_with fail
      have hb1 := below_new wr (.cells #[.bool f.neg, .slice A1 n1 c1, .slice A2 n2 c2] 40)
      refine (fix_calls _ _ f (HE.out.of_below hb1)).mono ?_
      rintro e w2 ⟨v, rfl, hv, hb2⟩
      obtain ⟨A5, n5, c5, A6, n6, c6, rfl, HV⟩ := hv.opened
      have HRW2 := Lib.hid (HRW.out.below EFQ.stays (below_next hb1 hb2))
      have HB2 := Lib.hid (below_next HB.out (below_next hb1 hb2))
      clear hv hb1 hb2
      obtain ⟨a, b, d, e0, e1, e2, f0, f1, f2⟩ := HRW2.out.cells i hlt
      go_wp2_with fail
      go_roundw
      case rel =>
        have hlen : ((fs.take i).map fixQ).length = i := by rw [List.length_map, List.length_take, Nat.min_eq_left hi]
        refine ⟨i + 1, by omega, by go_num, ?_, ?_⟩
        · have := HRW2.out.push EFQ.far (by rw [hlen]; exact hlt) HV.out (by simp [notInt])
          rw [hlen] at this
          rw [List.take_add_one, HFI.out, List.map_append]
          exact this
        · exact Below.setCell (Below.setCell (Below.setCell HB2.out (Nat.le_refl _) _) (Nat.le_refl _) _) (Nat.le_refl _) _
      case measure => simp [intOf]; omega
    · obtain rfl : i = fs.length := by omega
      go_wp2_with fail
      go_ret
      rw [List.take_length] at HRW
      exact ⟨_, rfl, Row3.own HRW.out (by simp) (Nat.le_refl _) (by unfold maxLen; omega), HB.out⟩
noncomputable def negF (f : RawF) : Rat := -(fixQ f)
set_option maxHeartbeats 16000000 in
set_option maxRecDepth 100000 in
theorem negated_calls (w : World) (v : Value) (fs : List RawF) (h : FL w v fs) (hl : fs.length ≤ 1000000000) : Calls Try.prog 41 #[v] w fun e w' => LPost w (fs.map negF) e w' := by
  obtain ⟨A, c, rfl, hc⟩ := h.slice
  have HF := Lib.hid h
  clear h
  go_enter Try.func41, Try.ntmps41
  have hmk := run_make3 23 40 _ Try.underlying23 info40m fs.length (by omega)
  go_wp2_with fail
  clear hmk
  have hr0 := Row3.made (E := EFQ) w 40 fs.length #[.bool false, .slice none 0 0, .slice none 0 0] rfl ni40
  have hb0 := below_new w (.cells (madeCells #[.bool false, .slice none 0 0, .slice none 0 0] (fs.length * 3)) 40)
  generalize w.alloc (.cells (madeCells #[.bool false, .slice none 0 0, .slice none 0 0] (fs.length * 3)) 40) = W0 at *
  go_loopw [11] (fun vi wr => ∃ i : Nat, i ≤ fs.length ∧ vi = .int .i64 (i : Int) ∧ Row3 40 EFQ wr w.heap.size fs.length ((fs.take i).map negF) ∧ Below w.heap.size w wr) (fun vi _ => fs.length - (intOf vi).toNat)
  case atStart => exact ⟨0, Nat.zero_le _, rfl, hr0, hb0⟩
  case round =>
    obtain ⟨i, hi, rfl, hrow, hb⟩ := hrel
    have HRW := Lib.hid hrow
    have HB := Lib.hid hb
    clear hrow hb hr0 hb0
    by_cases hlt : i < fs.length
    · obtain ⟨f, hf⟩ : ∃ f, fs[i]? = some f := ⟨fs[i], List.getElem?_eq_getElem hlt⟩
      obtain ⟨g, o, A1, n1, c1, A2, n2, c2, rfl, hg, k0, k1, k2, HE⟩ := FL.at3 (HF.out.below EF.stays HB.out) hf
      have HFI := Lib.hid hf
      clear hf
      have m1 : (i : Int) < (fs.length : Int) := by omega
      have m3 : (i : Int).toNat = i := by omega
      have m4 : (0 : Int) ≤ (i : Int) := by omega
      go_wp2_with fail
      have hb1 := below_new wr (.cells #[.bool f.neg, .slice A1 n1 c1, .slice A2 n2 c2] 40)
      refine (fneg_calls _ _ f (HE.out.of_below hb1)).mono ?_
      rintro e w2 ⟨v, rfl, hv, hb2⟩
      obtain ⟨A5, n5, c5, A6, n6, c6, rfl, HV⟩ := hv.opened
      have HRW2 := Lib.hid (HRW.out.below EFQ.stays (below_next hb1 hb2))
      have HB2 := Lib.hid (below_next HB.out (below_next hb1 hb2))
      clear hv hb1 hb2
      obtain ⟨a, b, d, e0, e1, e2, f0, f1, f2⟩ := HRW2.out.cells i hlt
      go_wp2_with fail
      go_roundw
      case rel =>
        have hlen : ((fs.take i).map negF).length = i := by rw [List.length_map, List.length_take, Nat.min_eq_left hi]
        refine ⟨i + 1, by omega, by go_num, ?_, ?_⟩
        · have := HRW2.out.push EFQ.far (by rw [hlen]; exact hlt) HV.out (by simp [notInt])
          rw [hlen] at this
          rw [List.take_add_one, HFI.out, List.map_append]
          exact this
        · exact Below.setCell (Below.setCell (Below.setCell HB2.out (Nat.le_refl _) _) (Nat.le_refl _) _) (Nat.le_refl _) _
      case measure => simp [intOf]; omega
    · obtain rfl : i = fs.length := by omega
      go_wp2_with fail
      go_ret
      rw [List.take_length] at HRW
      exact ⟨_, rfl, Row3.own HRW.out (by simp) (Nat.le_refl _) (by unfold maxLen; omega), HB.out⟩
theorem below_none {B : Nat} {w W W' : World} {row : Option Nat} (h : Below B w W) (hg : W.grownBy W' row) (hr : ∀ k, row = some k → B ≤ k) (hB : B ≤ w.heap.size := by exact Nat.le_refl _) : Below B w W' :=
  ⟨hg.os.trans h.os, hg.tape.trans h.tape, hg.output.trans h.output, Nat.le_trans h.size hg.size, fun k hk => (hg.block k (by have := h.size; omega) (fun e => by have := hr k e.symm; omega)).trans (h.block k hk)⟩
set_option maxHeartbeats 16000000 in
set_option maxRecDepth 100000 in
theorem rclean_calls (w : World) (v : Value) (fs : List RawF) (h : FL w v fs) (hl : fs.length ≤ 1000000000) : Calls Try.prog 85 #[v] w fun e w' => LPost w (fs.map fixQ) e w' := by
  obtain ⟨A, c, rfl, hc⟩ := h.slice
  have HF := Lib.hid h
  clear h
  go_enter Try.func85, Try.ntmps85
  go_wp2_with fail
  go_loopw [3, 8] (fun v3 vi wr => ∃ i : Nat, i ≤ fs.length ∧ vi = .int .i64 (i : Int) ∧ QO w.heap.size wr v3 ((fs.take i).map fixQ) ∧ Below w.heap.size w wr) (fun _ vi _ => fs.length - (intOf vi).toNat)
  case atStart => exact ⟨0, Nat.zero_le _, rfl, ofNilQ w, Below.refl _ _⟩
  case round =>
    obtain ⟨i, hi, rfl, ho, hb⟩ := hrel
    have HO := Lib.hid ho
    have HB := Lib.hid hb
    obtain ⟨A3, c3, hv3, _⟩ := ho.slice
    have hlen : ((fs.take i).map fixQ).length = i := by rw [List.length_map, List.length_take, Nat.min_eq_left hi]
    rw [hlen] at hv3
    subst hv3
    clear ho hb
    by_cases hlt : i < fs.length
    · obtain ⟨f, hf⟩ : ∃ f, fs[i]? = some f := ⟨fs[i], List.getElem?_eq_getElem hlt⟩
      obtain ⟨g, o, A1, n1, c1, A2, n2, c2, rfl, hg, k0, k1, k2, HE⟩ := FL.at3 (HF.out.below EF.stays HB.out) hf
      have HNX : Hid ((fs.take (i + 1)).map fixQ = (fs.take i).map fixQ ++ [fixQ f]) := by
        unfold Hid
        rw [List.take_add_one, hf, List.map_append]
        rfl
      clear hf
      have m1 : (i : Int) < (fs.length : Int) := by omega
      have m3 : (i : Int).toNat = i := by omega
      have m4 : (0 : Int) ≤ (i : Int) := by omega
      obtain ⟨xl, hxl⟩ : ∃ xl, xl = (fs.take i).map fixQ := ⟨_, rfl⟩
      rw [← hxl] at HO HNX hlen
      have hll : xl.length ≤ 1000000000 := by omega
      clear hxl hlen
      go_wp2_with fail
      focus
        refine (rfix_calls _ _ f (HE.out.of_below (below_new _ _))).mono ?_
        rintro e w2 ⟨v, rfl, hv, hb⟩
        obtain ⟨A5, n5, c5, A6, n6, c6, rfl, HV⟩ := hv.opened
        have HO2 := Lib.hid ((HO.out.below EFQ.stays (below_new _ (.cells #[.bool f.neg, .slice A1 n1 c1, .slice A2 n2 c2] 40))).below EFQ.stays hb)
        have HB2 := Lib.hid (below_next (below_next HB.out (below_new wr (.cells #[.bool f.neg, .slice A1 n1 c1, .slice A2 n2 c2] 40))) hb)
        clear hv hb
        have hsz : w.heap.size ≤ w2.heap.size := HB2.out.size
        go_wp2_with (at_builtin; refine wpl_appendQ rfl (.tmp 12) (.tmp 15) rfl (base := w.heap.size) (.slice A3 i c3) xl rfl (HO2.out.below EFQ.stays (below_new _ _)) (fixQ f) rfl (Blk.newAt (by simp)) (HV.out.of_below (below_new _ _)) hll (by simp; omega) ?_; intro v6 w6 hown6 hg6 hk6 hb6)
        have HO6 := Lib.hid hown6
        have HB6 := Lib.hid (below_none (below_next HB2.out (below_new _ _)) hg6 (fun k hk => (HO2.out.lt k hk).1))
        clear hown6 hg6 hk6 hb6
        go_wp2_with fail
        go_roundw
        case rel => exact ⟨i + 1, by omega, by go_num, by rw [HNX.out]; exact HO6.out, HB6.out⟩
        case measure => simp [intOf]; omega
    · obtain rfl : i = fs.length := by omega
      rw [List.take_length] at HO
      go_wp2_with fail
      go_ret
      exact ⟨_, rfl, HO.out, HB.out⟩
set_option maxHeartbeats 16000000 in
set_option maxRecDepth 100000 in
theorem rnegated_calls (w : World) (v : Value) (fs : List RawF) (h : FL w v fs) (hl : fs.length ≤ 1000000000) : Calls Try.prog 44 #[v] w fun e w' => LPost w (fs.map negF) e w' := by
  obtain ⟨A, c, rfl, hc⟩ := h.slice
  have HF := Lib.hid h
  clear h
  go_enter Try.func44, Try.ntmps44
  go_wp2_with fail
  go_loopw [3, 8] (fun v3 vi wr => ∃ i : Nat, i ≤ fs.length ∧ vi = .int .i64 (i : Int) ∧ QO w.heap.size wr v3 ((fs.take i).map negF) ∧ Below w.heap.size w wr) (fun _ vi _ => fs.length - (intOf vi).toNat)
  case atStart => exact ⟨0, Nat.zero_le _, rfl, ofNilQ w, Below.refl _ _⟩
  case round =>
    obtain ⟨i, hi, rfl, ho, hb⟩ := hrel
    have HO := Lib.hid ho
    have HB := Lib.hid hb
    obtain ⟨A3, c3, hv3, _⟩ := ho.slice
    have hlen : ((fs.take i).map negF).length = i := by rw [List.length_map, List.length_take, Nat.min_eq_left hi]
    rw [hlen] at hv3
    subst hv3
    clear ho hb
    by_cases hlt : i < fs.length
    · obtain ⟨f, hf⟩ : ∃ f, fs[i]? = some f := ⟨fs[i], List.getElem?_eq_getElem hlt⟩
      obtain ⟨g, o, A1, n1, c1, A2, n2, c2, rfl, hg, k0, k1, k2, HE⟩ := FL.at3 (HF.out.below EF.stays HB.out) hf
      have HNX : Hid ((fs.take (i + 1)).map negF = (fs.take i).map negF ++ [negF f]) := by
        unfold Hid
        rw [List.take_add_one, hf, List.map_append]
        rfl
      clear hf
      have m1 : (i : Int) < (fs.length : Int) := by omega
      have m3 : (i : Int).toNat = i := by omega
      have m4 : (0 : Int) ≤ (i : Int) := by omega
      obtain ⟨xl, hxl⟩ : ∃ xl, xl = (fs.take i).map negF := ⟨_, rfl⟩
      rw [← hxl] at HO HNX hlen
      have hll : xl.length ≤ 1000000000 := by omega
      clear hxl hlen
      go_wp2_with fail
      focus
        refine (rfix_calls _ _ f (HE.out.of_below (below_new _ _))).mono ?_
        rintro e w2 ⟨v, rfl, hv, hb⟩
        obtain ⟨A5, n5, c5, A6, n6, c6, rfl, HV⟩ := hv.opened
        have HO2 := Lib.hid ((HO.out.below EFQ.stays (below_new _ (.cells #[.bool f.neg, .slice A1 n1 c1, .slice A2 n2 c2] 40))).below EFQ.stays hb)
        have HB2 := Lib.hid (below_next (below_next HB.out (below_new wr (.cells #[.bool f.neg, .slice A1 n1 c1, .slice A2 n2 c2] 40))) hb)
        clear hv hb
        go_wp2_with fail
        refine (rneg_calls _ _ (rawQ (fixQ f)) (FR.of_fq HV.out (sizeQ_fix f))).mono ?_
        rintro e w3 ⟨v, rfl, hv, hb⟩
        rw [fixQ_raw _ (sizeQ_fix f)] at hv
        obtain ⟨A7, n7, c7, A8, n8, c8, rfl, HV3⟩ := hv.opened
        have HO3 := Lib.hid (HO2.out.below EFQ.stays hb)
        have HB3 := Lib.hid (below_next HB2.out hb)
        clear hv hb
        have hsz : w.heap.size ≤ w3.heap.size := HB3.out.size
        go_wp2_with (at_builtin; refine wpl_appendQ rfl (.tmp 12) (.tmp 16) rfl (base := w.heap.size) (.slice A3 i c3) xl rfl (HO3.out.below EFQ.stays (below_new _ _)) (negF f) rfl (Blk.newAt (by simp)) (HV3.out.of_below (below_new _ _)) hll (by simp; omega) ?_; intro v6 w6 hown6 hg6 hk6 hb6)
        have HO6 := Lib.hid hown6
        have HB6 := Lib.hid (below_none (below_next HB3.out (below_new _ _)) hg6 (fun k hk => (HO3.out.lt k hk).1))
        clear hown6 hg6 hk6 hb6
        go_wp2_with fail
        go_roundw
        case rel => exact ⟨i + 1, by omega, by go_num, by rw [HNX.out]; exact HO6.out, HB6.out⟩
        case measure => simp [intOf]; omega
    · obtain rfl : i = fs.length := by omega
      rw [List.take_length] at HO
      go_wp2_with fail
      go_ret
      exact ⟨_, rfl, HO.out, HB.out⟩
end Go.Proofs.Ytfhambfgjigneaa
set_option linter.unusedVariables false
set_option linter.unusedSimpArgs false
namespace Go.Proofs.Ytfhambfgjigneaa
open Go.RowKit
/-- What was there below base, and the blocks of another type than t, are as they were; so are the words. -/
def Chg (base t : Nat) (w w1 : World) : Prop := Keeps w w1 ∧ ∀ k, k < w.heap.size → (k < base ∨ ∀ cs, ¬ Blk w k t cs) → w1.heap[k]? = w.heap[k]?
theorem Chg.of_below {base t : Nat} {w w1 : World} (h : Below w.heap.size w w1) : Chg base t w w1 := ⟨Keeps.of_below h, fun k hk _ => h.block k hk⟩
theorem Chg.trans {base t : Nat} {a b c : World} (h : Chg base t a b) (h2 : Chg base t b c) : Chg base t a c := ⟨h.1.trans h2.1, fun k hk ho => by
  have e1 := h.2 k hk ho
  refine (h2.2 k (Nat.lt_of_lt_of_le hk h.1.1) ?_).trans e1
  rcases ho with h3 | h3
  · exact .inl h3
  · exact .inr fun cs hb => h3 cs (e1.symm.trans hb)⟩
theorem Chg.own {base t g : Nat} {w w1 : World} {cs : Array Value} (hb : Blk w g t cs) (hg : base ≤ g) (hk : Keeps w w1) (ho : ∀ k, k < w.heap.size → k ≠ g → w1.heap[k]? = w.heap[k]?) : Chg base t w w1 := ⟨hk, fun k hkl h => ho k hkl (by
  rintro rfl
  rcases h with h | h
  · omega
  · exact h cs hb)⟩
theorem OwnR.chg {base t e k : Nat} {w w1 : World} {v : Value} {n : Nat} {xs : List Value} (h : OwnR w base e k v n xs) (hc : Chg base t w w1) (hne : e ≠ t) : OwnR w1 base e k v n xs := by
  refine h.move fun g hg => hc.2 g (h.lt g hg).2 (.inr fun cs hb => ?_)
  rcases h.2 with ⟨rfl, _⟩ | ⟨g', cap, cur, rfl, _, hk, _⟩
  · simp [Value.ownBlock] at hg
  · simp [Value.ownBlock] at hg
    subst hg
    have := hk.symm.trans hb
    injection this with this
    injection this with _ h2
    exact hne h2
theorem OwnR.changes {base t k : Nat} {w w1 : World} {v : Value} {n : Nat} {xs : List Value} (h : OwnR w base t k v n xs) (hg : w.grownBy w1 v.ownBlock) (hk : Keeps w w1) : Chg base t w w1 := by
  rcases h.2 with ⟨rfl, _⟩ | ⟨g', cap, cur, rfl, hb, hbl, _⟩
  · exact ⟨hk, fun k hkl _ => hg.block k hkl (by simp [Value.ownBlock])⟩
  · exact Chg.own hbl hb hk fun k hkl hne => hg.block k hkl (by simp [Value.ownBlock]; exact hne)
theorem HS.chg {base t : Nat} {w W W1 : World} {bs : List (Nat × Nat × Array Value)} (h : HS w bs W) (hc : Chg base t W W1) (hb : ∀ b ∈ bs, b.2.1 ≠ t) (hbase : base = w.heap.size) (hw : W.os = W1.os ∧ W.tape = W1.tape ∧ W.output = W1.output) : HS w bs W1 := by
  subst hbase
  refine ⟨fun b hm => (hc.2 b.1 (h.1 b hm).lt (.inr fun cs hbl => ?_)).trans (h.1 b hm), ⟨hw.1.symm.trans h.2.os, hw.2.1.symm.trans h.2.tape, hw.2.2.symm.trans h.2.output, Nat.le_trans h.2.size hc.1.1, fun k hk => (hc.2 k (Nat.lt_of_lt_of_le hk h.2.size) (.inl hk)).trans (h.2.block k hk)⟩⟩
  have := (h.1 b hm).symm.trans hbl
  injection this with this
  injection this with _ h2
  exact hb b hm h2
/-- Elements that lean on words and on blocks of other types than t. -/
def LeansT {α : Type} (base t : Nat) (E : World → Array Value → α → Prop) : Prop := ∀ w w1 vs x, E w vs x → Chg base t w w1 → E w1 vs x
theorem QO.chg {base t : Nat} {w w1 : World} {v : Value} {qs : List Rat} (h : QO base w v qs) (hc : Chg base t w w1) (hne : 40 ≠ t) : QO base w1 v qs := by
  obtain ⟨xs, h1, h2⟩ := h
  refine ⟨xs, h1.chg hc hne, fun j a hj => ?_⟩
  obtain ⟨vs, h3, h4, h5⟩ := h2 j a hj
  exact ⟨vs, h3, h4, EFQ.leans _ _ _ _ h5 hc.1⟩
structure RowQ where
  a : List Rat
  s : Int
  b : Rat
structure ProgQ where
  vars : Int
  free : List Bool
  goal : List Rat
  rows : List RowQ
def ERO (base : Nat) (w : World) (vs : Array Value) (r : RowQ) : Prop := ∃ v A1 n1 c1 A2 n2 c2, vs = #[v, .int .i64 r.s, .bool (negQ r.b), .slice A1 n1 c1, .slice A2 n2 c2] ∧ I64 r.s ∧ QO base w v r.a ∧ FQ w (.agg #[.bool (negQ r.b), .slice A1 n1 c1, .slice A2 n2 c2]) r.b
theorem ERO.stays {base : Nat} : Stays (ERO base) := fun _ _ _ _ h hb => by
  obtain ⟨v, A1, n1, c1, A2, n2, c2, e, hs, h1, h2⟩ := h
  exact ⟨v, A1, n1, c1, A2, n2, c2, e, hs, h1.below EFQ.stays hb, h2.of_below hb⟩
theorem ERO.leans {base t : Nat} (hne : 40 ≠ t) : LeansT base t (ERO base) := fun _ _ _ _ h hc => by
  obtain ⟨v, A1, n1, c1, A2, n2, c2, e, hs, h1, h2⟩ := h
  exact ⟨v, A1, n1, c1, A2, n2, c2, e, hs, h1.chg hc hne, h2.keeps hc.1⟩
abbrev RO (base : Nat) (w : World) (v : Value) (rs : List RowQ) : Prop := OL 5 65 (ERO base) base w v rs
theorem RO.chg {base t : Nat} {w w1 : World} {v : Value} {rs : List RowQ} (h : RO base w v rs) (hc : Chg base t w w1) (hne : 40 ≠ t) (hne2 : 65 ≠ t) : RO base w1 v rs := by
  obtain ⟨xs, h1, h2⟩ := h
  refine ⟨xs, h1.chg hc hne2, fun j a hj => ?_⟩
  obtain ⟨vs, h3, h4, h5⟩ := h2 j a hj
  exact ⟨vs, h3, h4, ERO.leans hne _ _ _ _ h5 hc⟩
/-- Bools that are read; their block is old, or of bools. -/
def FrO (base : Nat) (w : World) (v : Value) (bs : List Bool) : Prop := BL w v bs ∧ ∀ g, v.ownBlock = some g → 0 < bs.length → g < base ∨ ∃ cs, Blk w g 4 cs
theorem FrO.below {base : Nat} {w w1 : World} {v : Value} {bs : List Bool} (h : FrO base w v bs) (hb : Below w.heap.size w w1) : FrO base w1 v bs := ⟨h.1.below EB.stays hb, fun g hg hp => by
  rcases h.2 g hg hp with h1 | ⟨cs, h1⟩
  · exact .inl h1
  · exact .inr ⟨cs, h1.below hb h1.lt⟩⟩
theorem FrO.chg {bf base t : Nat} {w w1 : World} {v : Value} {bs : List Bool} (h : FrO bf w v bs) (hc : Chg base t w w1) (hne : 4 ≠ t) (hbf : bf ≤ base := by first | exact Nat.zero_le _ | exact Nat.le_refl _) : FrO bf w1 v bs := by
  obtain ⟨⟨A, c, rfl, hcl, hr⟩, ho⟩ := h
  have key : ∀ g o, A = some ⟨g, o, none⟩ → 0 < bs.length → g < w.heap.size → w1.heap[g]? = w.heap[g]? := fun g o hA hp hg => hc.2 g hg (by
    rcases ho g (by rw [hA]; rfl) hp with h1 | ⟨cs, h1⟩
    · exact .inl (Nat.lt_of_lt_of_le h1 hbf)
    · refine .inr fun cs' hb => ?_
      have := h1.symm.trans hb
      injection this with this
      injection this with _ h2
      exact hne h2)
  refine ⟨⟨A, c, rfl, hcl, fun hp => ?_⟩, fun g hg hp => ?_⟩
  · obtain ⟨g, o, hA, hg, he⟩ := hr hp
    refine ⟨g, o, hA, Nat.lt_of_lt_of_le hg hc.1.1, fun j x hj => ?_⟩
    obtain ⟨vs, h1, h2, h3⟩ := he j x hj
    exact ⟨vs, h1, fun i u hi => (World.cell?_of_block (a := ⟨g, _, none⟩) (key g o hA hp hg)).trans (h2 i u hi), h3⟩
  · rcases ho g hg hp with h1 | ⟨cs, h1⟩
    · exact .inl h1
    · refine .inr ⟨cs, ?_⟩
      obtain ⟨g', o, hA, hg', _⟩ := hr hp
      have e : g = g' := by rw [hA] at hg; simp [Value.ownBlock] at hg; exact hg.symm
      subst e
      exact (key g o hA hp hg').trans h1
/-- A program of the call's own. -/
def PO (base : Nat) (w : World) (v : Value) (p : ProgQ) : Prop := ∃ v1 v2 v3, v = .agg #[.int .i64 p.vars, v1, v2, v3] ∧ I64 p.vars ∧ FrO base w v1 p.free ∧ QO base w v2 p.goal ∧ RO base w v3 p.rows
theorem PO.below {base : Nat} {w w1 : World} {v : Value} {p : ProgQ} (h : PO base w v p) (hb : Below w.heap.size w w1) : PO base w1 v p := by
  obtain ⟨v1, v2, v3, e, hv, h1, h2, h3⟩ := h
  exact ⟨v1, v2, v3, e, hv, h1.below hb, h2.below EFQ.stays hb, h3.below ERO.stays hb⟩
theorem PO.chg {base t : Nat} {w w1 : World} {v : Value} {p : ProgQ} (h : PO base w v p) (hc : Chg base t w w1) (h4 : 4 ≠ t) (h40 : 40 ≠ t) (h65 : 65 ≠ t) : PO base w1 v p := by
  obtain ⟨v1, v2, v3, e, hv, h1, h2, h3⟩ := h
  exact ⟨v1, v2, v3, e, hv, h1.chg hc h4, h2.chg hc h40, h3.chg hc h40 h65⟩
theorem FrO.raise {b b' : Nat} {w : World} {v : Value} {bs : List Bool} (h : FrO b w v bs) (hb : b ≤ b') : FrO b' w v bs := ⟨h.1, fun g hg hp => by
  rcases h.2 g hg hp with h1 | h1
  · exact .inl (Nat.lt_of_lt_of_le h1 hb)
  · exact .inr h1⟩
theorem FrO.old {w : World} {v : Value} {bs : List Bool} (h : BL w v bs) : FrO w.heap.size w v bs := ⟨h, fun g hg hp => by
  obtain ⟨A, c, rfl, _, hr⟩ := h
  obtain ⟨g', o, rfl, hg', _⟩ := hr hp
  simp [Value.ownBlock] at hg
  exact .inl (by omega)⟩
/-- What clean answers: all of its own. -/
def CPost (w : World) (p : ProgQ) (e : Ending) (w' : World) : Prop := ∃ v1 v2 v3, e = .returned (.agg #[.int .i64 p.vars, v1, v2, v3]) ∧ FrO 0 w' v1 p.free ∧ QO w.heap.size w' v2 p.goal ∧ RO w.heap.size w' v3 p.rows ∧ Below w.heap.size w w'
/-- What the reference's Fix answers: the signs are those that came in. -/
def XPost (w : World) (F : Value) (p : ProgQ) (e : Ending) (w' : World) : Prop := ∃ v2 v3, e = .returned (.agg #[.int .i64 p.vars, F, v2, v3]) ∧ QO w.heap.size w' v2 p.goal ∧ RO w.heap.size w' v3 p.rows ∧ Below w.heap.size w w'
noncomputable def cleanR (r : RowF) : RowQ := ⟨r.a.map fixQ, r.s, fixQ r.b⟩
noncomputable def cleanQ (p : ProgF) : ProgQ := ⟨p.vars, p.free, p.goal.map fixQ, p.rows.map cleanR⟩
def zeroR : Value := .agg #[.slice none 0 0, .int .i64 0, .bool false, .slice none 0 0, .slice none 0 0]
theorem info65 : (Try.prog.info? 65).map (fun i => (i.zero, i.size, i.bytes)) = some (some zeroR, 5, 88) := by kernel_rfl
theorem info65s : (Try.prog.info? 65).map (·.size) = some 5 := by kernel_rfl
theorem info26s : (Try.prog.info? 26).map (·.size) = some 4 := by kernel_rfl
theorem info4 : (Try.prog.info? 4).map (fun i => (i.zero, i.size, i.bytes)) = some (some (.bool false), 1, 1) := by kernel_rfl
theorem zeroR_words : ∀ u ∈ zeroR.cells, notWord u = true := by simp [zeroR, Value.cells, notWord]
theorem row_one {v : Value} {s : Int} {b : Bool} {A0 A1 A2 : Option Addr} {n0 c0 n1 c1 n2 c2 : Nat} (hv : v = .slice A0 n0 c0) : ∀ u ∈ [v, .int .i64 s, .bool b, .slice A1 n1 c1, .slice A2 n2 c2], u.oneCell' = true := by
  subst hv
  intro u hu
  simp only [List.mem_cons, List.not_mem_nil, or_false] at hu
  rcases hu with rfl | rfl | rfl | rfl | rfl <;> rfl
theorem row_word {v : Value} {s : Int} {b : Bool} {A0 A1 A2 : Option Addr} {n0 c0 n1 c1 n2 c2 : Nat} (hv : v = .slice A0 n0 c0) : ∀ u ∈ [v, .int .i64 s, .bool b, .slice A1 n1 c1, .slice A2 n2 c2], notWord u = true := by
  subst hv
  intro u hu
  simp only [List.mem_cons, List.not_mem_nil, or_false] at hu
  rcases hu with rfl | rfl | rfl | rfl | rfl <;> rfl
theorem OL.pushT {α : Type} {k e : Nat} {E : World → Array Value → α → Prop} {base : Nat} {w w1 : World} {v v' : Value} {ys : List α} {vs : Array Value} {b : α} {xs : List Value} (hE : LeansT base e E) (h1 : OwnR w base e k v ys.length xs) (h2 : ∀ j a, ys[j]? = some a → ∃ vs : Array Value, vs.size = k ∧ (∀ i u, vs[i]? = some u → xs[j * k + i]? = some u) ∧ E w vs a)
    (hv : vs.size = k) (hb : E w vs b) (hk : Chg base e w w1) (hown : OwnR w1 base e k v' (ys.length + 1) (xs ++ vs.toList)) : OL k e E base w1 v' (ys ++ [b]) := by
  refine ⟨xs ++ vs.toList, by rw [List.length_append]; exact hown, fun j a hj => ?_⟩
  rw [List.getElem?_append] at hj
  split at hj
  · obtain ⟨us, h3, h4, h5⟩ := h2 j a hj
    refine ⟨us, h3, fun i u hi => ?_, hE _ _ _ _ h5 hk⟩
    have h6 := h4 i u hi
    rw [List.getElem?_append_left (List.getElem?_eq_some_iff.1 h6).1]
    exact h6
  · have h0 : j - ys.length = 0 := by
      have := (List.getElem?_eq_some_iff.1 hj).1
      simp at this
      omega
    rw [h0] at hj
    have hba : b = a := by simpa using hj
    subst hba
    obtain rfl : j = ys.length := by omega
    refine ⟨vs, hv, fun i u hi => ?_, hE _ _ _ _ hb hk⟩
    rw [← h1.1, List.getElem?_append_right (by omega), Nat.add_sub_cancel_left]
    simpa using hi
/-- 'append(rows, row)' where rows is a list of rows of the call's own and row one in a literal. -/
theorem wpl_appendR5 {ops : Array Oper} {rest : List Oper} {o : Oper} {a : Act} {Q : Exit → Act → World → Prop} {W : World} (hgd : o.guard = none) (s x : Operand) (ho : o.op = .call { callee := .builtin .append, args := #[s, x], argTypes := #[24, 24] }) {base : Nat}
    (v : Value) (rs : List RowQ) (hs : a.eval s = v) (hown : RO base W v rs) {g : Nat} {sn : Int} {b : Bool} {A0 A1 A2 : Option Addr} {n0 c0 n1 c1 n2 c2 : Nat} (r : RowQ) (hx : a.eval x = .slice (some ⟨g, 0, none⟩) 1 1) (hk : Blk W g 65 #[.slice A0 n0 c0, .int .i64 sn, .bool b, .slice A1 n1 c1, .slice A2 n2 c2]) (hf : ERO base W #[.slice A0 n0 c0, .int .i64 sn, .bool b, .slice A1 n1 c1, .slice A2 n2 c2] r)
    (hl : rs.length ≤ 1000000000) (hbase : base ≤ W.heap.size)
    (h : ∀ v' w', RO base w' v' (rs ++ [r]) → Chg base 65 W w' → (W.os = w'.os ∧ W.tape = w'.tape ∧ W.output = w'.output) → (∀ g, v'.ownBlock = some g → base ≤ g) → wpList Try.prog ops Q rest (a.put o.dst v') w') : wpList Try.prog ops Q (o :: rest) a W := by
  obtain ⟨xs, h1, h2⟩ := hown
  refine wpl_appendR hgd s x 24 ho (base := base) zeroR 88 Try.underlying24 info65 rfl zeroR_words v rs.length xs hs h1 ⟨g, 0, none⟩ 1 1 [.slice A0 n0 c0, .int .i64 sn, .bool b, .slice A1 n1 c1, .slice A2 n2 c2] hx rfl (lit_cells hk) (row_one rfl) (row_word rfl) (by decide) (by omega) (by omega) hbase fun v' w' h3 h4 h5 h6 => h v' w' ?_ (h1.changes h4 h5) ⟨h4.os.symm, h4.tape.symm, h4.output.symm⟩ (fun g hg => (h3.lt g hg).1)
  exact OL.pushT (ERO.leans (by decide)) (k := 5) (e := 65) (vs := #[.slice A0 n0 c0, .int .i64 sn, .bool b, .slice A1 n1 c1, .slice A2 n2 c2]) h1 h2 rfl hf (h1.changes h4 h5) h3
end Go.Proofs.Ytfhambfgjigneaa
set_option linter.unusedVariables false
set_option linter.unusedSimpArgs false
namespace Go.Proofs.Ytfhambfgjigneaa
open Go.RowKit
theorem OwnR.lower {w : World} {base base' e k : Nat} {v : Value} {n : Nat} {xs : List Value} (h : OwnR w base e k v n xs) (hb : base' ≤ base) : OwnR w base' e k v n xs := by
  obtain ⟨hl, h⟩ := h
  refine ⟨hl, ?_⟩
  rcases h with h | ⟨g, cap, cur, e1, h1, h2⟩
  · exact .inl h
  · exact .inr ⟨g, cap, cur, e1, by omega, h2⟩
theorem QO.lower {w : World} {base base' : Nat} {v : Value} {qs : List Rat} (h : QO base w v qs) (hb : base' ≤ base) : QO base' w v qs := by
  obtain ⟨xs, h1, h2⟩ := h
  exact ⟨xs, h1.lower hb, h2⟩
theorem Blk.put4 {w : World} {g t : Nat} {a b c d : Value} (h : Blk w g t #[a, b, c, d]) (x y z u : Value) : Blk ((((w.setCell ⟨g, 0, none⟩ x).setCell ⟨g, 1, none⟩ y).setCell ⟨g, 2, none⟩ z).setCell ⟨g, 3, none⟩ u) g t #[x, y, z, u] :=
  (((h.put 0 x).put 1 y).put 2 z).put 3 u
theorem below_put4 {B : Nat} {w w1 : World} (h : Below B w w1) {g : Nat} (ha : B ≤ g) (x y z u : Value) : Below B w ((((w1.setCell ⟨g, 0, none⟩ x).setCell ⟨g, 1, none⟩ y).setCell ⟨g, 2, none⟩ z).setCell ⟨g, 3, none⟩ u) :=
  Below.setCell (below_put3 h ha x y z) (p := ⟨g, 3, none⟩) ha u
theorem Blk.f4 {W : World} {g t : Nat} {cs : Array Value} (h : Blk W g t cs) : W.frozen? ⟨g, 0, none⟩ = false ∧ W.frozen? ⟨g, 1, none⟩ = false ∧ W.frozen? ⟨g, 2, none⟩ = false ∧ W.frozen? ⟨g, 3, none⟩ = false := ⟨h.frozen 0, h.frozen 1, h.frozen 2, h.frozen 3⟩
theorem Blk.c4 {W : World} {g t : Nat} {a b c d : Value} (h : Blk W g t #[a, b, c, d]) : W.cell? ⟨g, 0, none⟩ = some a ∧ W.cell? ⟨g, 1, none⟩ = some b ∧ W.cell? ⟨g, 2, none⟩ = some c ∧ W.cell? ⟨g, 3, none⟩ = some d := ⟨h.cell rfl, h.cell rfl, h.cell rfl, h.cell rfl⟩
theorem HS.other1 {w W : World} {bs : List (Nat × Nat × Array Value)} {g : Nat} (h : HS w bs W) (hg : w.heap.size ≤ g) (hne : ∀ b ∈ bs, b.1 ≠ g) (j : Nat) (x : Value) : HS w bs (W.setCell ⟨g, j, none⟩ x) :=
  ⟨fun b hm => (h.1 b hm).other (a := ⟨g, j, none⟩) (hne b hm) x, Below.setCell h.2 (p := ⟨g, j, none⟩) hg x⟩
theorem HS.other4 {w W : World} {bs : List (Nat × Nat × Array Value)} {g : Nat} (h : HS w bs W) (hg : w.heap.size ≤ g) (hne : ∀ b ∈ bs, b.1 ≠ g) (x y z u : Value) : HS w bs ((((W.setCell ⟨g, 0, none⟩ x).setCell ⟨g, 1, none⟩ y).setCell ⟨g, 2, none⟩ z).setCell ⟨g, 3, none⟩ u) :=
  (((h.other1 hg hne 0 x).other1 hg hne 1 y).other1 hg hne 2 z).other1 hg hne 3 u
theorem chg_put4 {base g t : Nat} {w : World} {a b c d : Value} (h : Blk w g t #[a, b, c, d]) (hg : base ≤ g) (hn : ∀ u ∈ #[a, b, c, d], notWord u = true) (x y z u : Value) : Chg base t w ((((w.setCell ⟨g, 0, none⟩ x).setCell ⟨g, 1, none⟩ y).setCell ⟨g, 2, none⟩ z).setCell ⟨g, 3, none⟩ u) := by
  have ho : ∀ k, k < w.heap.size → k ≠ g → ((((w.setCell ⟨g, 0, none⟩ x).setCell ⟨g, 1, none⟩ y).setCell ⟨g, 2, none⟩ z).setCell ⟨g, 3, none⟩ u).heap[k]? = w.heap[k]? := fun k _ hk => by
    rw [Below.heap_setCell _ _ _ k hk, Below.heap_setCell _ _ _ k hk, Below.heap_setCell _ _ _ k hk, Below.heap_setCell _ _ _ k hk]
  exact Chg.own h hg (Keeps.apart h hn (by simp [World.setCell]) ho) ho
theorem chg_put1 {base g t j : Nat} {w : World} {cs : Array Value} (h : Blk w g t cs) (hg : base ≤ g) (hn : ∀ u ∈ cs, notWord u = true) (x : Value) : Chg base t w (w.setCell ⟨g, j, none⟩ x) := by
  have ho : ∀ k, k < w.heap.size → k ≠ g → (w.setCell ⟨g, j, none⟩ x).heap[k]? = w.heap[k]? := fun k _ hk => Below.heap_setCell _ _ _ k hk
  exact Chg.own h hg (Keeps.apart h hn (by simp [World.setCell]) ho) ho
theorem Blk.chg {base t t' g : Nat} {w w1 : World} {cs : Array Value} (h : Blk w g t' cs) (hc : Chg base t w w1) (hne : t' ≠ t) : Blk w1 g t' cs :=
  (hc.2 g h.lt (.inr fun cs' hb => by
    have := h.symm.trans hb
    injection this with this
    injection this with _ h2
    exact hne h2)).trans h
theorem prog_words {n : Int} {A1 A2 A3 : Option Addr} {n1 c1 n2 c2 n3 c3 : Nat} : ∀ u ∈ #[Value.int .i64 n, .slice A1 n1 c1, .slice A2 n2 c2, .slice A3 n3 c3], notWord u = true := by
  intro u hu
  simp only [List.mem_toArray, List.mem_cons, List.not_mem_nil, or_false] at hu
  rcases hu with rfl | rfl | rfl | rfl <;> rfl
theorem ret26 {fn : Func} {p : Tmp} {Post : Ending → World → Prop} {tmps : Array Value} {w : World} {g : Nat} {a b c d : Value} (hres : fn.results = #[.cell p 26]) (hp : tmps.getD p undef = .pointer (some ⟨g, 0, none⟩)) (hb : Blk w g 26 #[a, b, c, d])
    (hP : Post (.returned (.agg #[a, b, c, d])) w) : bodyPost Try.prog fn Post Exit.ret { tmps := tmps, defers := [] } w :=
  bodyPost_ret (v := .agg #[a, b, c, d]) (results_cell_row hres _ _ g 26 #[a, b, c, d] (0, 0) _ hp hb Try.underlying26 rfl info26s) rfl hP
/-- 'append([]bool(nil), bs...)'. -/
theorem append_bools {base : Nat} {w : World} {A : Option Addr} {n c : Nat} {bs : List Bool} (h : BL w (.slice A n c) bs) (hl : bs.length ≤ 1000000) (hb : base ≤ w.heap.size) :
    ∃ v' w', (Builtin.append_ #[22, 22] 22 #[.slice none 0 0, .slice A n c]).run Try.prog w = .ok v' w' ∧ FrO base w' v' bs ∧ Below w.heap.size w w' := by
  obtain ⟨A', c', e, hc, hr⟩ := h
  injection e with e1 e2 e3
  subst e1 e2 e3
  obtain ⟨i, hi, hzz⟩ := Option.map_eq_some_iff.1 info4
  simp only [Prod.mk.injEq] at hzz
  obtain ⟨hz, hsz, hby⟩ := hzz
  by_cases h0 : bs.length = 0
  · have hnil : bs = [] := List.eq_nil_of_length_eq_zero h0
    subst hnil
    have hsrc : Src Try.prog i.size 22 (.slice A 0 c) 0 [] w := by
      cases A with
      | none => exact Src.ofNil w Try.underlying22 c
      | some a => exact Src.ofSlice w Try.underlying22 a 0 c [] (by simp) (fun j u hu => by simp at hu) (fun u hu => by cases hu)
    exact ⟨_, w, run_append_nothing w 22 22 22 4 i Try.underlying22 hi none 0 0 (Nat.le_refl _) _ hsrc, ⟨⟨none, 0, rfl, Nat.le_refl _, fun hp => absurd hp (by simp)⟩, fun g hg _ => by simp [Value.ownBlock] at hg⟩, Below.refl _ _⟩
  · obtain ⟨g, o, rfl, hg, he⟩ := hr (by omega)
    have hcell : ∀ j u, (bs.map Value.bool)[j]? = some u → w.cell? ((⟨g, o, none⟩ : Addr).add j) = some u := fun j u hu => by
      rw [List.getElem?_map] at hu
      obtain ⟨b, hb, rfl⟩ := Option.map_eq_some_iff.1 hu
      obtain ⟨vs, _, h2, rfl⟩ := he j b hb
      have := h2 0 _ rfl
      rw [Nat.mul_one, Nat.add_zero] at this
      rw [add_at']
      exact this
    obtain ⟨v', w', hrun, hown, hgr, hk, hob⟩ := (OwnR.nil w w.heap.size 4 1).append (P := Try.prog) 22 22 (.bool false) 1 Try.underlying22 info4 rfl (by simp [Value.cells, notWord]) ⟨g, o, none⟩ bs.length c (bs.map Value.bool) (by simp) hcell (fun u hu => by obtain ⟨b, _, rfl⟩ := List.mem_map.1 hu; rfl) (fun u hu => by obtain ⟨b, _, rfl⟩ := List.mem_map.1 hu; rfl) (by omega) (by omega) (by omega) (Nat.le_refl _)
    refine ⟨v', w', hrun, ?_, ⟨hgr.os, hgr.tape, hgr.output, hgr.size, fun k hk => hgr.block k hk (by simp [Value.ownBlock])⟩⟩
    rw [Nat.zero_add, List.nil_append] at hown
    rcases hown.2 with ⟨_, h1⟩ | ⟨g', cap, cur, rfl, hb', hbl, hnc, hcm, hcs, htake, hw⟩
    · exact absurd h1 h0
    · refine ⟨⟨some ⟨g', 0, none⟩, cap, rfl, hnc, fun hp => ⟨g', 0, rfl, hbl.lt, fun j x hj => ⟨#[.bool x], rfl, fun i u hi => ?_, rfl⟩⟩⟩, fun q hq _ => .inr ⟨cur, by simp [Value.ownBlock] at hq; subst hq; exact hbl⟩⟩
      have hi0 : i = 0 := by
        have := (Array.getElem?_eq_some_iff.1 hi).1
        simp at this
        exact this
      subst hi0
      have hu : u = .bool x := by simpa using hi.symm
      subst hu
      rw [Nat.zero_add, Nat.mul_one, Nat.add_zero]
      refine hbl.cell ?_
      have h6 : (bs.map Value.bool)[j]? = some (.bool x) := by rw [List.getElem?_map, hj]; rfl
      rw [← htake, List.getElem?_take] at h6
      split at h6
      · simpa using h6
      · cases h6
theorem wpl_append_bools {ops : Array Oper} {rest : List Oper} {o : Oper} {a : Act} {Q : Exit → Act → World → Prop} {W : World} (hgd : o.guard = none) (s x : Operand) (ho : o.op = .call { callee := .builtin .append, args := #[s, x], argTypes := #[22, 22] }) (hty : o.type = 22) {base : Nat}
    (hs : a.eval s = .slice none 0 0) {A : Option Addr} {n c : Nat} (bs : List Bool) (hx : a.eval x = .slice A n c) (hbl : BL W (.slice A n c) bs) (hl : bs.length ≤ 1000000) (hbase : base ≤ W.heap.size)
    (h : ∀ v' w', FrO base w' v' bs → Below W.heap.size W w' → wpList Try.prog ops Q rest (a.put o.dst v') w') : wpList Try.prog ops Q (o :: rest) a W :=
  wpList_plain hgd fun K hK => by
    obtain ⟨v', w', hr, h2, h3⟩ := append_bools hbl hl hbase
    unfold Oper.wp execOp
    simp only [ho, hty, resolve, invoke, builtin, Sem.run_bind, Sem.run_pure, Result.andThen_ok, List.map_toArray, List.map_cons, List.map_nil, hs, hx, hr]
    exact hK _ _ (h v' w' h2 h3)
set_option maxHeartbeats 32000000 in
set_option maxRecDepth 100000 in
theorem clean_calls (w : World) (v : Value) (p : ProgF) (h : PR w v p) (hlf : p.free.length ≤ 1000) (hlg : p.goal.length ≤ 1000) (hlr : p.rows.length ≤ 1000) (hla : ∀ r ∈ p.rows, r.a.length ≤ 1000) : Calls Try.prog 40 #[v] w fun e w' => CPost w (cleanQ p) e w' := by
  obtain ⟨A1, c1, A2, c2, A3, c3, rfl, HI, H1, H2, H3⟩ := h.opened
  clear h
  
  obtain ⟨vars, hv⟩ : ∃ n, n = p.vars := ⟨_, rfl⟩
  rw [← hv]
  have HV := Lib.hid hv
  have HLA := Lib.hid hla
  clear hv hla
  go_enter Try.func40, Try.ntmps40
  go_wp2_with fail
  have H0 := Lib.hid (HS.two (w := w) #[.int .i64 vars, .slice A1 p.free.length c1, .slice A2 p.goal.length c2, .slice A3 p.rows.length c3] #[.int .i64 0, .slice none 0 0, .slice none 0 0, .slice none 0 0] 26 26)
  have hsz0 : ((w.alloc (.cells #[.int .i64 vars, .slice A1 p.free.length c1, .slice A2 p.goal.length c2, .slice A3 p.rows.length c3] 26)).alloc (.cells #[.int .i64 0, .slice none 0 0, .slice none 0 0, .slice none 0 0] 26)).heap.size = w.heap.size + 2 := by simp
  generalize (w.alloc (.cells #[.int .i64 vars, .slice A1 p.free.length c1, .slice A2 p.goal.length c2, .slice A3 p.rows.length c3] 26)).alloc (.cells #[.int .i64 0, .slice none 0 0, .slice none 0 0, .slice none 0 0] 26) = W0 at *
  have hsz1 : w.heap.size + 2 ≤ W0.heap.size := by omega
  clear hsz0
  obtain ⟨x0, x1, x2, x3⟩ := H0.out.c4 1 rfl
  have l0 := (H0.out.blk 1 rfl).lt
  have hlf' : p.free.length ≤ 1000000 := by omega
  have hlg' : p.goal.length ≤ 1000000000 := by omega
  refine wp_tree (l := [_, _, _, _, _, _, _, _, _, _, _]) (S := Below W0.heap.size W0) 10 (.two [0, 1, 2, 3, 5, 6] 4 (.two [] 7 (.one [8] 9 (.fin [])) 9 (.one [] 7 (.fin [8]))) 9 (.one [] 4 (.one [] 7 (.fin [8])))) (by kernel_rfl) (by kernel_rfl) (by kernel_rfl) rfl (Below.drew (Below.refl _ _)) ?_
  refine ⟨?_, _, _, ?_, rfl, rfl, ?_, ?_⟩
  rotate_left
  · repeat (refine ⟨_, ?_, rfl, Or.inl ⟨by rfl, ?_⟩, ?_⟩; rotate_left; focus (intro W hW; have hcW := (bcell hW).1; clear hW; go_simp; try with_reducible rfl); (try simp only [Act.put, List.getElem_toArray, List.getElem_cons_succ, List.getElem_cons_zero, List.setIfInBounds_toArray, List.set_cons_zero, List.set_cons_succ]))
    exact rfl
  · have D0 : Hid (Below W0.heap.size W0 W0.drew) := Below.drew (Below.refl _ _)
    have E0 := Lib.hid (HS.step H0.out D0.out)
    have hz0 : w.heap.size + 2 ≤ W0.drew.heap.size := hsz1
    generalize W0.drew = Wx at *
    simp only [Act.put, List.getElem_toArray, List.getElem_cons_succ, List.getElem_cons_zero, List.setIfInBounds_toArray, List.set_cons_zero, List.set_cons_succ]
    go_wp2_with (at_builtin; (refine wpl_append_bools rfl (.const (.slice none 0 0)) (.tmp 9) rfl rfl (base := 0) rfl p.free rfl (H1.out.below EB.stays E0.out.2) hlf' (Nat.zero_le _) ?_); intro v1 Wa hfr hba)
    have D1 := Lib.hid (below_next D0.out hba)
    have E1 := Lib.hid (HS.step H0.out D1.out)
    have hz1 : w.heap.size + 2 ≤ Wa.heap.size := Nat.le_trans hz0 (hba).size
    obtain ⟨B1, d1, rfl, _⟩ := hfr.1.slice
    have HF1 := Lib.hid hfr
    clear hfr hba
    go_wp2_with fail
    refine And.intro D1.out ⟨_, _, _, rfl, rfl, rfl, ?_, ?_⟩
    · go_wp2_with fail
      refine (fixed_calls _ _ p.goal (H2.out.below EF.stays E1.out.2) hlg').mono ?_
      rintro e Wb ⟨v2, rfl, hq, hbb⟩
      have hq' := hq.lower (Nat.le_trans (Nat.le_add_right _ 2) hz1)
      have D2 := Lib.hid (below_next D1.out hbb)
      have E2 := Lib.hid (HS.step H0.out D2.out)
      have hz2 : w.heap.size + 2 ≤ Wb.heap.size := Nat.le_trans hz1 (hbb).size
      have HF2 := Lib.hid (HF1.out.below hbb)
      obtain ⟨B2, d2, hv2, _⟩ := hq'.slice
      rw [List.length_map] at hv2
      subst hv2
      have HQ2 := Lib.hid hq'
      clear hq hq' hbb
      go_wp2_with fail
      refine And.intro D2.out ⟨?_, _, ?_, rfl, ?_⟩
      rotate_left
      · repeat (refine ⟨_, ?_, rfl, Or.inl ⟨by rfl, ?_⟩, ?_⟩; rotate_left; focus (intro W hW; have hcW := (bcell hW).1; clear hW; go_simp; try with_reducible rfl); (try simp only [Act.put, List.getElem_toArray, List.getElem_cons_succ, List.getElem_cons_zero, List.setIfInBounds_toArray, List.set_cons_zero, List.set_cons_succ]))
        exact rfl
      go_wp2_with fail
      have hBq := Blk.new Wb 26 #[.int .i64 0, .slice none 0 0, .slice none 0 0, .slice none 0 0]
      obtain ⟨gq, hgq⟩ : ∃ gq, gq = Wb.heap.size := ⟨_, rfl⟩
      have hgq2 : w.heap.size + 2 ≤ gq := by have := hz2; omega
      have hba2 := (below_new Wb (.cells #[.int .i64 0, .slice none 0 0, .slice none 0 0, .slice none 0 0] 26))
      have D3 := Lib.hid (below_next D2.out hba2)
      have E3 := Lib.hid (HS.step H0.out D3.out)
      have hz3 : w.heap.size + 2 ≤ (Wb.alloc (.cells #[.int .i64 0, .slice none 0 0, .slice none 0 0, .slice none 0 0] 26)).heap.size := Nat.le_trans hz2 (hba2).size
      have HF3 := Lib.hid (HF2.out.below hba2)
      have HQ3 := Lib.hid (HQ2.out.below EFQ.stays hba2)
      try rw [← show gq = Wb.heap.size from hgq] at hBq
      try rw [← show gq = Wb.heap.size from hgq]
      have HB3 := Lib.hid hBq
      clear hBq hba2 hgq
      generalize Wb.alloc (.cells #[.int .i64 0, .slice none 0 0, .slice none 0 0, .slice none 0 0] 26) = Wd at *
      refine And.intro D3.out ⟨_, rfl, ?_⟩
      obtain ⟨i0, i1, i2, i3⟩ := HB3.out.c4
      obtain ⟨g0, g1, g2, g3⟩ := HB3.out.f4
      have hltq := HB3.out.lt
      go_wp2_with fail
      refine NoPanic.normal ?_
      have HBc := Lib.hid (HB3.out.put4 (.int .i64 vars) (.slice B1 p.free.length d1) (.slice B2 p.goal.length d2) (.slice none 0 0))
      have hcg := chg_put4 (base := w.heap.size) HB3.out (by omega) prog_words (.int .i64 vars) (.slice B1 p.free.length d1) (.slice B2 p.goal.length d2) (.slice none 0 0)
      have HFc := Lib.hid (HF3.out.chg hcg (by decide))
      have HQc := Lib.hid (QO.chg HQ3.out hcg (by decide))
      have HSc := Lib.hid (E3.out.other4 (g := gq) (by omega) (by simp; omega) (.int .i64 vars) (.slice B1 p.free.length d1) (.slice B2 p.goal.length d2) (.slice none 0 0))
      have hszc : w.heap.size + 2 ≤ ((((Wd.setCell ⟨gq, 0, none⟩ (.int .i64 vars)).setCell ⟨gq, 1, none⟩ (.slice B1 p.free.length d1)).setCell ⟨gq, 2, none⟩ (.slice B2 p.goal.length d2)).setCell ⟨gq, 3, none⟩ (.slice none 0 0)).heap.size := by have := hcg.1.1; omega
      generalize (((Wd.setCell ⟨gq, 0, none⟩ (.int .i64 vars)).setCell ⟨gq, 1, none⟩ (.slice B1 p.free.length d1)).setCell ⟨gq, 2, none⟩ (.slice B2 p.goal.length d2)).setCell ⟨gq, 3, none⟩ (.slice none 0 0) = Wc at *
      clear i0 i1 i2 i3 g0 g1 g2 g3 hltq hcg
      clear D0 E0 hz0
      clear D1 E1 hz1
      clear D2 E2 hz2
      clear D3 E3 hz3
      clear H0 hsz1 l0 x0 x1 x2 x3
      obtain ⟨x0, x1, x2, x3⟩ := HSc.out.c4 1 rfl
      have hltp := (HSc.out.blk 1 rfl).lt
      obtain ⟨qg, hqg⟩ : ∃ q, q = p.goal.map fixQ := ⟨_, rfl⟩
      rw [← hqg] at HQc
      have HQG := Lib.hid hqg
      obtain ⟨rq, hrq⟩ : ∃ q, q = p.rows.map cleanR := ⟨_, rfl⟩
      have HRQ := Lib.hid hrq
      clear hqg hrq
      go_wp2_with fail
      clear x0 x1 x2 x3
      go_loopw [18] (fun vi wr => ∃ i : Nat, i ≤ p.rows.length ∧ vi = .int .i64 (i : Int) ∧ (∃ A5 c5, Blk wr gq 26 #[.int .i64 vars, .slice B1 p.free.length d1, .slice B2 p.goal.length d2, .slice A5 i c5] ∧ RO w.heap.size wr (.slice A5 i c5) (rq.take i)) ∧ FrO 0 wr (.slice B1 p.free.length d1) p.free ∧ QO w.heap.size wr (.slice B2 p.goal.length d2) qg ∧ w.heap.size + 2 ≤ wr.heap.size ∧ HS w [(w.heap.size + 1, 26, #[.int .i64 0, .slice none 0 0, .slice none 0 0, .slice none 0 0]), (w.heap.size, 26, #[.int .i64 vars, .slice A1 p.free.length c1, .slice A2 p.goal.length c2, .slice A3 p.rows.length c3])] wr) (fun vi _ => p.rows.length - (intOf vi).toNat)
      case atStart => exact ⟨0, Nat.zero_le _, rfl, ⟨none, 0, HBc.out, OL.nil _ _ _ _ _⟩, HFc.out, HQc.out, hszc, HSc.out⟩
      case round =>
        obtain ⟨i, hi, rfl, ⟨A5, c5, hbq, hro⟩, hfr, hqo, hsz2, hs⟩ := hrel
        have HBQ := Lib.hid hbq
        have HRO := Lib.hid hro
        have HFR := Lib.hid hfr
        have HQO := Lib.hid hqo
        have HK := Lib.hid hs
        clear hbq hro hfr hqo hs HBc HFc HQc HSc hszc hltp
        by_cases hlt : i < p.rows.length
        · obtain ⟨r, hr'⟩ : ∃ r, p.rows[i]? = some r := ⟨p.rows[i], List.getElem?_eq_getElem hlt⟩
          obtain ⟨g1, o1, C1, e1, C2, n2, e2, C3, n3, e3, rfl, hg, k0, k1, k2, k3, k4, HIS, HRA, HRB⟩ := RL.at5 (H3.out.below ER.stays HK.out.2) hr'
          have hra : r.a.length ≤ 1000000000 := by have := HLA.out r (List.mem_of_getElem? hr'); omega
          have HNX : Hid (rq.take (i + 1) = rq.take i ++ [cleanR r]) := by
            unfold Hid
            rw [List.take_add_one, HRQ.out, List.getElem?_map, hr']
            rfl
          have hrl : (rq.take i).length ≤ 1000000000 := by rw [List.length_take]; omega
          have HRL : Hid ((rq.take (i + 1)).length = i + 1) := by unfold Hid; rw [List.length_take, HRQ.out, List.length_map]; omega
          have m1 : (i : Int) < (p.rows.length : Int) := by omega
          have m3 : (i : Int).toNat = i := by omega
          have m4 : (0 : Int) ≤ (i : Int) := by omega
          obtain ⟨s, hs⟩ : ∃ s, s = r.s := ⟨_, rfl⟩
          rw [← hs] at k1
          have HSE := Lib.hid hs
          have hltq := HBQ.out.lt
          clear hr' hs
          go_wp2_with fail
          have HB1 := Lib.hid (below_new wr (.cells #[.slice C1 r.a.length e1, .int .i64 s, .bool r.b.neg, .slice C2 n2 e2, .slice C3 n3 e3] 65))
          have HKB1 := Lib.hid (Blk.new wr 65 #[.slice C1 r.a.length e1, .int .i64 s, .bool r.b.neg, .slice C2 n2 e2, .slice C3 n3 e3])
          obtain ⟨gr, hgr⟩ : ∃ gr, gr = wr.heap.size := ⟨_, rfl⟩
          rw [← hgr] at HKB1
          generalize wr.alloc (.cells #[.slice C1 r.a.length e1, .int .i64 s, .bool r.b.neg, .slice C2 n2 e2, .slice C3 n3 e3] 65) = W1 at *
          rw [← hgr]
          clear hgr k0 k1 k2 k3 k4
          have z0 := HKB1.out.cell (j := 0) rfl
          have z1 := HKB1.out.cell (j := 1) rfl
          have z2 := HKB1.out.cell (j := 2) rfl
          have z3 := HKB1.out.cell (j := 3) rfl
          have z4 := HKB1.out.cell (j := 4) rfl
          have hzl := HKB1.out.lt
          have HBQ1 := Lib.hid (HBQ.out.below HB1.out HBQ.out.lt)
          obtain ⟨i0, i1, i2, i3⟩ := HBQ1.out.c4
          have hltq1 := HBQ1.out.lt
          have hsz3 : w.heap.size ≤ W1.heap.size := by have := HB1.out.size; omega
          refine wp_chainF (l := [_, _, _, _, _, _, _, _, _, _, _, _, _, _, _]) (S := Below W1.heap.size W1) 12 [([0, 1, 2, 3, 5, 6, 7, 8], 4), ([], 9), ([10], 11)] [] (by kernel_rfl) (by kernel_rfl) (by kernel_rfl) rfl (Below.drew (Below.refl _ _)) ?_
          refine ⟨?_, _, ?_, rfl, ?_⟩
          rotate_left
          · repeat (refine ⟨_, ?_, rfl, Or.inl ⟨by rfl, ?_⟩, ?_⟩; rotate_left; focus (intro W hW; have hcW := (bcell hW).1; clear hW; go_simp; try with_reducible rfl); (try simp only [Act.put, List.getElem_toArray, List.getElem_cons_succ, List.getElem_cons_zero, List.setIfInBounds_toArray, List.set_cons_zero, List.set_cons_succ]))
            exact rfl
          have D0 : Hid (Below W1.heap.size W1 W1.drew) := Below.drew (Below.refl _ _)
          have F0 := Lib.hid (below_next HB1.out D0.out)
          go_wp2_with fail
          refine (fixed_calls _ _ r.a (HRA.out.below EF.stays F0.out) hra).mono ?_
          rintro e W2 ⟨v2, rfl, hq, hb⟩
          have hq' := hq.lower (base' := w.heap.size) (Nat.le_trans hsz3 D0.out.size)
          obtain ⟨C4, e4, hv2, _⟩ := hq'.slice
          rw [List.length_map] at hv2
          subst hv2
          have HQ2 := Lib.hid hq'
          have D2 := Lib.hid (below_next D0.out hb)
          have F2 := Lib.hid (below_next HB1.out D2.out)
          clear hq hq' hb
          go_wp2_with fail
          refine And.intro D2.out ⟨_, _, rfl, rfl, ?_⟩
          go_wp2_with fail
          refine (fix_calls _ _ r.b (HRB.out.of_below F2.out)).mono ?_
          rintro e W3 ⟨v3, rfl, hv, hb⟩
          obtain ⟨C5, n5, e5, C6, n6, e6, rfl, HV3⟩ := hv.opened
          have HQ3 := Lib.hid (HQ2.out.below EFQ.stays hb)
          have D3 := Lib.hid (below_next D2.out hb)
          clear hv hb
          go_wp2_with fail
          refine And.intro D3.out ⟨?_, _, ?_, rfl, ?_⟩
          rotate_left
          · repeat (refine ⟨_, ?_, rfl, Or.inl ⟨by rfl, ?_⟩, ?_⟩; rotate_left; focus (intro W hW; have hcW := (bcell hW).1; clear hW; go_simp; try with_reducible rfl); (try simp only [Act.put, List.getElem_toArray, List.getElem_cons_succ, List.getElem_cons_zero, List.setIfInBounds_toArray, List.set_cons_zero, List.set_cons_succ]))
            exact rfl
          go_wp2_with fail
          have HL4 := Lib.hid (Blk.new W3 65 #[.slice C4 r.a.length e4, .int .i64 s, .bool (negQ (fixQ r.b)), .slice C5 n5 e5, .slice C6 n6 e6])
          have hbn := below_new W3 (.cells #[.slice C4 r.a.length e4, .int .i64 s, .bool (negQ (fixQ r.b)), .slice C5 n5 e5, .slice C6 n6 e6] 65)
          have D4 := Lib.hid (below_next D3.out hbn)
          have HQ4 := Lib.hid (HQ3.out.below EFQ.stays hbn)
          have HV4 := Lib.hid (HV3.out.of_below hbn)
          obtain ⟨gl, hgl⟩ : ∃ g, g = W3.heap.size := ⟨_, rfl⟩
          rw [← hgl] at HL4 ⊢
          generalize W3.alloc (.cells #[.slice C4 r.a.length e4, .int .i64 s, .bool (negQ (fixQ r.b)), .slice C5 n5 e5, .slice C6 n6 e6] 65) = W4 at *
          clear hgl hbn
          refine And.intro D4.out ⟨_, rfl, ?_⟩
          have F4 := Lib.hid (below_next HB1.out D4.out)
          have HBQ4 := Lib.hid (HBQ.out.below F4.out HBQ.out.lt)
          have HRO4 := Lib.hid (HRO.out.below ERO.stays F4.out)
          have HFR4 := Lib.hid (HFR.out.below F4.out)
          have HQO4 := Lib.hid (HQO.out.below EFQ.stays F4.out)
          have HK4 := Lib.hid (HK.out.step F4.out)
          have hbase4 : w.heap.size ≤ W4.heap.size := Nat.le_trans hsz3 D4.out.size
          have HER : Hid (ERO w.heap.size W4 #[.slice C4 r.a.length e4, .int .i64 s, .bool (negQ (fixQ r.b)), .slice C5 n5 e5, .slice C6 n6 e6] (cleanR r)) := ⟨_, _, _, _, _, _, _, by unfold cleanR; rw [HSE.out], HIS.out, HQ4.out, HV4.out⟩
          simp only [Act.put, List.getElem_toArray, List.getElem_cons_succ, List.getElem_cons_zero, List.setIfInBounds_toArray, List.set_cons_zero, List.set_cons_succ, List.drop_succ_cons, List.drop_zero]
          clear i0 i1 i2 i3 z0 z1 z2 z3 z4
          go_wp2_with (at_builtin; refine wpl_appendR5 rfl (.tmp 23) (.tmp 33) rfl (base := w.heap.size) (.slice A5 i c5) (rq.take i) rfl HRO4.out (cleanR r) rfl HL4.out HER.out hrl hbase4 ?_; intro v6 W6 hro6 hcg6 hw6 hob6; obtain ⟨A6, c6, hv6, _⟩ := hro6.slice; rw [← HNX.out] at hro6 hv6; rw [HRL.out] at hv6; subst hv6; have HRO6 := Lib.hid hro6; have HBQ6 := Lib.hid (HBQ4.out.chg hcg6 (by decide)); have HFR6 := Lib.hid (HFR4.out.chg hcg6 (by decide)); have HQO6 := Lib.hid (QO.chg HQO4.out hcg6 (by decide)); have HK6 := Lib.hid (HS.chg HK4.out hcg6 (by simp) rfl hw6); have hsz6 : w.heap.size + 2 ≤ W6.heap.size := (by have := hcg6.1.1; have := D4.out.size; have := HB1.out.size; omega); obtain ⟨i0, i1, i2, i3⟩ := HBQ6.out.c4; obtain ⟨f0, f1, f2, f3⟩ := HBQ6.out.f4; have hltq6 := HBQ6.out.lt; clear hro6 hcg6 hw6 hob6)
          refine NoPanic.normal ?_
          have hcp := chg_put1 (base := w.heap.size) (j := 3) HBQ6.out (by omega) prog_words (.slice A6 (i + 1) c6)
          have HX1 := Lib.hid (HBQ6.out.put 3 (.slice A6 (i + 1) c6))
          have HX2 := Lib.hid (RO.chg HRO6.out hcp (by decide) (by decide))
          have HX3 := Lib.hid (HFR6.out.chg hcp (by decide))
          have HX4 := Lib.hid (QO.chg HQO6.out hcp (by decide))
          have HX5 := Lib.hid (HK6.out.other1 (g := gq) (by omega) (by simp; omega) 3 (.slice A6 (i + 1) c6))
          have hsz7 : w.heap.size + 2 ≤ (W6.setCell ⟨gq, 3, none⟩ (.slice A6 (i + 1) c6)).heap.size := by have := hcp.1.1; omega
          clear hcp
          go_wp2_with fail
          go_roundw
          case rel => exact ⟨i + 1, by omega, by go_num, ⟨A6, c6, HX1.out, HX2.out⟩, HX3.out, HX4.out, hsz7, HX5.out⟩
          case measure => simp [intOf]; omega
        · obtain rfl : i = p.rows.length := by omega
          have hrt : rq.take p.rows.length = rq := List.take_of_length_le (by rw [HRQ.out, List.length_map]; exact Nat.le_refl _)
          rw [hrt] at HRO
          clear hrt
          obtain ⟨i0, i1, i2, i3⟩ := HBQ.out.c4
          have hltq := HBQ.out.lt
          obtain ⟨j0, j1, j2, j3⟩ := (HK.out.blk 0 rfl).c4
          obtain ⟨f0, f1, f2, f3⟩ := (HK.out.blk 0 rfl).f4
          have hlt0 := (HK.out.blk 0 rfl).lt
          go_wp2_with fail
          have hcg := chg_put4 (base := w.heap.size) (HK.out.blk 0 rfl) (by simp) prog_words (.int .i64 vars) (.slice B1 p.free.length d1) (.slice B2 p.goal.length d2) (.slice A5 p.rows.length c5)
          exact ret26 Try.results40 rfl ((HK.out.blk 0 rfl).put4 _ _ _ _) ⟨_, _, _, by unfold cleanQ; rw [HV.out], HFR.out.chg hcg (by decide), by show QO _ _ _ (p.goal.map fixQ); rw [← HQG.out]; exact QO.chg HQO.out hcg (by decide), by show RO _ _ _ (p.rows.map cleanR); rw [← HRQ.out]; exact RO.chg HRO.out hcg (by decide) (by decide), below_put4 HK.out.2 (by simp) _ _ _ _⟩
    · go_wp2_with fail
      have hBq := Blk.new Wa 26 #[.int .i64 0, .slice none 0 0, .slice none 0 0, .slice none 0 0]
      obtain ⟨gq, hgq⟩ : ∃ gq, gq = Wa.heap.size := ⟨_, rfl⟩
      have hgq2 : w.heap.size + 2 ≤ gq := by have := hz1; omega
      have hba2 := (below_new Wa (.cells #[.int .i64 0, .slice none 0 0, .slice none 0 0, .slice none 0 0] 26))
      have D2 := Lib.hid (below_next D1.out hba2)
      have E2 := Lib.hid (HS.step H0.out D2.out)
      have hz2 : w.heap.size + 2 ≤ (Wa.alloc (.cells #[.int .i64 0, .slice none 0 0, .slice none 0 0, .slice none 0 0] 26)).heap.size := Nat.le_trans hz1 (hba2).size
      have HF2 := Lib.hid (HF1.out.below hba2)
      try rw [← show gq = Wa.heap.size from hgq] at hBq
      try rw [← show gq = Wa.heap.size from hgq]
      have HB2 := Lib.hid hBq
      clear hBq hba2 hgq
      generalize Wa.alloc (.cells #[.int .i64 0, .slice none 0 0, .slice none 0 0, .slice none 0 0] 26) = Wd at *
      refine And.intro D2.out ⟨_, _, rfl, rfl, ?_⟩
      go_wp2_with fail
      refine (fixed_calls _ _ p.goal (H2.out.below EF.stays E2.out.2) hlg').mono ?_
      rintro e Wb ⟨v2, rfl, hq, hbb⟩
      have hq' := hq.lower (Nat.le_trans (Nat.le_add_right _ 2) hz2)
      have D3 := Lib.hid (below_next D2.out hbb)
      have E3 := Lib.hid (HS.step H0.out D3.out)
      have hz3 : w.heap.size + 2 ≤ Wb.heap.size := Nat.le_trans hz2 (hbb).size
      have HF3 := Lib.hid (HF2.out.below hbb)
      have HB3 := Lib.hid (HB2.out.below hbb HB2.out.lt)
      obtain ⟨B2, d2, hv2, _⟩ := hq'.slice
      rw [List.length_map] at hv2
      subst hv2
      have HQ3 := Lib.hid hq'
      clear hq hq' hbb
      go_wp2_with fail
      refine And.intro D3.out ⟨?_, ?_, ?_⟩
      rotate_left
      · repeat (refine ⟨_, ?_, rfl, Or.inl ⟨by rfl, ?_⟩, ?_⟩; rotate_left; focus (intro W hW; have hcW := (bcell hW).1; clear hW; go_simp; try with_reducible rfl); (try simp only [Act.put, List.getElem_toArray, List.getElem_cons_succ, List.getElem_cons_zero, List.setIfInBounds_toArray, List.set_cons_zero, List.set_cons_succ]))
        exact rfl
      obtain ⟨i0, i1, i2, i3⟩ := HB3.out.c4
      obtain ⟨g0, g1, g2, g3⟩ := HB3.out.f4
      have hltq := HB3.out.lt
      go_wp2_with fail
      refine NoPanic.normal ?_
      have HBc := Lib.hid (HB3.out.put4 (.int .i64 vars) (.slice B1 p.free.length d1) (.slice B2 p.goal.length d2) (.slice none 0 0))
      have hcg := chg_put4 (base := w.heap.size) HB3.out (by omega) prog_words (.int .i64 vars) (.slice B1 p.free.length d1) (.slice B2 p.goal.length d2) (.slice none 0 0)
      have HFc := Lib.hid (HF3.out.chg hcg (by decide))
      have HQc := Lib.hid (QO.chg HQ3.out hcg (by decide))
      have HSc := Lib.hid (E3.out.other4 (g := gq) (by omega) (by simp; omega) (.int .i64 vars) (.slice B1 p.free.length d1) (.slice B2 p.goal.length d2) (.slice none 0 0))
      have hszc : w.heap.size + 2 ≤ ((((Wb.setCell ⟨gq, 0, none⟩ (.int .i64 vars)).setCell ⟨gq, 1, none⟩ (.slice B1 p.free.length d1)).setCell ⟨gq, 2, none⟩ (.slice B2 p.goal.length d2)).setCell ⟨gq, 3, none⟩ (.slice none 0 0)).heap.size := by have := hcg.1.1; omega
      generalize (((Wb.setCell ⟨gq, 0, none⟩ (.int .i64 vars)).setCell ⟨gq, 1, none⟩ (.slice B1 p.free.length d1)).setCell ⟨gq, 2, none⟩ (.slice B2 p.goal.length d2)).setCell ⟨gq, 3, none⟩ (.slice none 0 0) = Wc at *
      clear i0 i1 i2 i3 g0 g1 g2 g3 hltq hcg
      clear D0 E0 hz0
      clear D1 E1 hz1
      clear D2 E2 hz2
      clear D3 E3 hz3
      clear H0 hsz1 l0 x0 x1 x2 x3
      obtain ⟨x0, x1, x2, x3⟩ := HSc.out.c4 1 rfl
      have hltp := (HSc.out.blk 1 rfl).lt
      obtain ⟨qg, hqg⟩ : ∃ q, q = p.goal.map fixQ := ⟨_, rfl⟩
      rw [← hqg] at HQc
      have HQG := Lib.hid hqg
      obtain ⟨rq, hrq⟩ : ∃ q, q = p.rows.map cleanR := ⟨_, rfl⟩
      have HRQ := Lib.hid hrq
      clear hqg hrq
      go_wp2_with fail
      clear x0 x1 x2 x3
      go_loopw [18] (fun vi wr => ∃ i : Nat, i ≤ p.rows.length ∧ vi = .int .i64 (i : Int) ∧ (∃ A5 c5, Blk wr gq 26 #[.int .i64 vars, .slice B1 p.free.length d1, .slice B2 p.goal.length d2, .slice A5 i c5] ∧ RO w.heap.size wr (.slice A5 i c5) (rq.take i)) ∧ FrO 0 wr (.slice B1 p.free.length d1) p.free ∧ QO w.heap.size wr (.slice B2 p.goal.length d2) qg ∧ w.heap.size + 2 ≤ wr.heap.size ∧ HS w [(w.heap.size + 1, 26, #[.int .i64 0, .slice none 0 0, .slice none 0 0, .slice none 0 0]), (w.heap.size, 26, #[.int .i64 vars, .slice A1 p.free.length c1, .slice A2 p.goal.length c2, .slice A3 p.rows.length c3])] wr) (fun vi _ => p.rows.length - (intOf vi).toNat)
      case atStart => exact ⟨0, Nat.zero_le _, rfl, ⟨none, 0, HBc.out, OL.nil _ _ _ _ _⟩, HFc.out, HQc.out, hszc, HSc.out⟩
      case round =>
        obtain ⟨i, hi, rfl, ⟨A5, c5, hbq, hro⟩, hfr, hqo, hsz2, hs⟩ := hrel
        have HBQ := Lib.hid hbq
        have HRO := Lib.hid hro
        have HFR := Lib.hid hfr
        have HQO := Lib.hid hqo
        have HK := Lib.hid hs
        clear hbq hro hfr hqo hs HBc HFc HQc HSc hszc hltp
        by_cases hlt : i < p.rows.length
        · obtain ⟨r, hr'⟩ : ∃ r, p.rows[i]? = some r := ⟨p.rows[i], List.getElem?_eq_getElem hlt⟩
          obtain ⟨g1, o1, C1, e1, C2, n2, e2, C3, n3, e3, rfl, hg, k0, k1, k2, k3, k4, HIS, HRA, HRB⟩ := RL.at5 (H3.out.below ER.stays HK.out.2) hr'
          have hra : r.a.length ≤ 1000000000 := by have := HLA.out r (List.mem_of_getElem? hr'); omega
          have HNX : Hid (rq.take (i + 1) = rq.take i ++ [cleanR r]) := by
            unfold Hid
            rw [List.take_add_one, HRQ.out, List.getElem?_map, hr']
            rfl
          have hrl : (rq.take i).length ≤ 1000000000 := by rw [List.length_take]; omega
          have HRL : Hid ((rq.take (i + 1)).length = i + 1) := by unfold Hid; rw [List.length_take, HRQ.out, List.length_map]; omega
          have m1 : (i : Int) < (p.rows.length : Int) := by omega
          have m3 : (i : Int).toNat = i := by omega
          have m4 : (0 : Int) ≤ (i : Int) := by omega
          obtain ⟨s, hs⟩ : ∃ s, s = r.s := ⟨_, rfl⟩
          rw [← hs] at k1
          have HSE := Lib.hid hs
          have hltq := HBQ.out.lt
          clear hr' hs
          go_wp2_with fail
          have HB1 := Lib.hid (below_new wr (.cells #[.slice C1 r.a.length e1, .int .i64 s, .bool r.b.neg, .slice C2 n2 e2, .slice C3 n3 e3] 65))
          have HKB1 := Lib.hid (Blk.new wr 65 #[.slice C1 r.a.length e1, .int .i64 s, .bool r.b.neg, .slice C2 n2 e2, .slice C3 n3 e3])
          obtain ⟨gr, hgr⟩ : ∃ gr, gr = wr.heap.size := ⟨_, rfl⟩
          rw [← hgr] at HKB1
          generalize wr.alloc (.cells #[.slice C1 r.a.length e1, .int .i64 s, .bool r.b.neg, .slice C2 n2 e2, .slice C3 n3 e3] 65) = W1 at *
          rw [← hgr]
          clear hgr k0 k1 k2 k3 k4
          have z0 := HKB1.out.cell (j := 0) rfl
          have z1 := HKB1.out.cell (j := 1) rfl
          have z2 := HKB1.out.cell (j := 2) rfl
          have z3 := HKB1.out.cell (j := 3) rfl
          have z4 := HKB1.out.cell (j := 4) rfl
          have hzl := HKB1.out.lt
          have HBQ1 := Lib.hid (HBQ.out.below HB1.out HBQ.out.lt)
          obtain ⟨i0, i1, i2, i3⟩ := HBQ1.out.c4
          have hltq1 := HBQ1.out.lt
          have hsz3 : w.heap.size ≤ W1.heap.size := by have := HB1.out.size; omega
          refine wp_chainF (l := [_, _, _, _, _, _, _, _, _, _, _, _, _, _, _]) (S := Below W1.heap.size W1) 12 [([0, 1, 2, 3, 5, 6, 7, 8], 4), ([], 9), ([10], 11)] [] (by kernel_rfl) (by kernel_rfl) (by kernel_rfl) rfl (Below.drew (Below.refl _ _)) ?_
          refine ⟨?_, _, ?_, rfl, ?_⟩
          rotate_left
          · repeat (refine ⟨_, ?_, rfl, Or.inl ⟨by rfl, ?_⟩, ?_⟩; rotate_left; focus (intro W hW; have hcW := (bcell hW).1; clear hW; go_simp; try with_reducible rfl); (try simp only [Act.put, List.getElem_toArray, List.getElem_cons_succ, List.getElem_cons_zero, List.setIfInBounds_toArray, List.set_cons_zero, List.set_cons_succ]))
            exact rfl
          have D0 : Hid (Below W1.heap.size W1 W1.drew) := Below.drew (Below.refl _ _)
          have F0 := Lib.hid (below_next HB1.out D0.out)
          go_wp2_with fail
          refine (fixed_calls _ _ r.a (HRA.out.below EF.stays F0.out) hra).mono ?_
          rintro e W2 ⟨v2, rfl, hq, hb⟩
          have hq' := hq.lower (base' := w.heap.size) (Nat.le_trans hsz3 D0.out.size)
          obtain ⟨C4, e4, hv2, _⟩ := hq'.slice
          rw [List.length_map] at hv2
          subst hv2
          have HQ2 := Lib.hid hq'
          have D2 := Lib.hid (below_next D0.out hb)
          have F2 := Lib.hid (below_next HB1.out D2.out)
          clear hq hq' hb
          go_wp2_with fail
          refine And.intro D2.out ⟨_, _, rfl, rfl, ?_⟩
          go_wp2_with fail
          refine (fix_calls _ _ r.b (HRB.out.of_below F2.out)).mono ?_
          rintro e W3 ⟨v3, rfl, hv, hb⟩
          obtain ⟨C5, n5, e5, C6, n6, e6, rfl, HV3⟩ := hv.opened
          have HQ3 := Lib.hid (HQ2.out.below EFQ.stays hb)
          have D3 := Lib.hid (below_next D2.out hb)
          clear hv hb
          go_wp2_with fail
          refine And.intro D3.out ⟨?_, _, ?_, rfl, ?_⟩
          rotate_left
          · repeat (refine ⟨_, ?_, rfl, Or.inl ⟨by rfl, ?_⟩, ?_⟩; rotate_left; focus (intro W hW; have hcW := (bcell hW).1; clear hW; go_simp; try with_reducible rfl); (try simp only [Act.put, List.getElem_toArray, List.getElem_cons_succ, List.getElem_cons_zero, List.setIfInBounds_toArray, List.set_cons_zero, List.set_cons_succ]))
            exact rfl
          go_wp2_with fail
          have HL4 := Lib.hid (Blk.new W3 65 #[.slice C4 r.a.length e4, .int .i64 s, .bool (negQ (fixQ r.b)), .slice C5 n5 e5, .slice C6 n6 e6])
          have hbn := below_new W3 (.cells #[.slice C4 r.a.length e4, .int .i64 s, .bool (negQ (fixQ r.b)), .slice C5 n5 e5, .slice C6 n6 e6] 65)
          have D4 := Lib.hid (below_next D3.out hbn)
          have HQ4 := Lib.hid (HQ3.out.below EFQ.stays hbn)
          have HV4 := Lib.hid (HV3.out.of_below hbn)
          obtain ⟨gl, hgl⟩ : ∃ g, g = W3.heap.size := ⟨_, rfl⟩
          rw [← hgl] at HL4 ⊢
          generalize W3.alloc (.cells #[.slice C4 r.a.length e4, .int .i64 s, .bool (negQ (fixQ r.b)), .slice C5 n5 e5, .slice C6 n6 e6] 65) = W4 at *
          clear hgl hbn
          refine And.intro D4.out ⟨_, rfl, ?_⟩
          have F4 := Lib.hid (below_next HB1.out D4.out)
          have HBQ4 := Lib.hid (HBQ.out.below F4.out HBQ.out.lt)
          have HRO4 := Lib.hid (HRO.out.below ERO.stays F4.out)
          have HFR4 := Lib.hid (HFR.out.below F4.out)
          have HQO4 := Lib.hid (HQO.out.below EFQ.stays F4.out)
          have HK4 := Lib.hid (HK.out.step F4.out)
          have hbase4 : w.heap.size ≤ W4.heap.size := Nat.le_trans hsz3 D4.out.size
          have HER : Hid (ERO w.heap.size W4 #[.slice C4 r.a.length e4, .int .i64 s, .bool (negQ (fixQ r.b)), .slice C5 n5 e5, .slice C6 n6 e6] (cleanR r)) := ⟨_, _, _, _, _, _, _, by unfold cleanR; rw [HSE.out], HIS.out, HQ4.out, HV4.out⟩
          simp only [Act.put, List.getElem_toArray, List.getElem_cons_succ, List.getElem_cons_zero, List.setIfInBounds_toArray, List.set_cons_zero, List.set_cons_succ, List.drop_succ_cons, List.drop_zero]
          clear i0 i1 i2 i3 z0 z1 z2 z3 z4
          go_wp2_with (at_builtin; refine wpl_appendR5 rfl (.tmp 23) (.tmp 33) rfl (base := w.heap.size) (.slice A5 i c5) (rq.take i) rfl HRO4.out (cleanR r) rfl HL4.out HER.out hrl hbase4 ?_; intro v6 W6 hro6 hcg6 hw6 hob6; obtain ⟨A6, c6, hv6, _⟩ := hro6.slice; rw [← HNX.out] at hro6 hv6; rw [HRL.out] at hv6; subst hv6; have HRO6 := Lib.hid hro6; have HBQ6 := Lib.hid (HBQ4.out.chg hcg6 (by decide)); have HFR6 := Lib.hid (HFR4.out.chg hcg6 (by decide)); have HQO6 := Lib.hid (QO.chg HQO4.out hcg6 (by decide)); have HK6 := Lib.hid (HS.chg HK4.out hcg6 (by simp) rfl hw6); have hsz6 : w.heap.size + 2 ≤ W6.heap.size := (by have := hcg6.1.1; have := D4.out.size; have := HB1.out.size; omega); obtain ⟨i0, i1, i2, i3⟩ := HBQ6.out.c4; obtain ⟨f0, f1, f2, f3⟩ := HBQ6.out.f4; have hltq6 := HBQ6.out.lt; clear hro6 hcg6 hw6 hob6)
          refine NoPanic.normal ?_
          have hcp := chg_put1 (base := w.heap.size) (j := 3) HBQ6.out (by omega) prog_words (.slice A6 (i + 1) c6)
          have HX1 := Lib.hid (HBQ6.out.put 3 (.slice A6 (i + 1) c6))
          have HX2 := Lib.hid (RO.chg HRO6.out hcp (by decide) (by decide))
          have HX3 := Lib.hid (HFR6.out.chg hcp (by decide))
          have HX4 := Lib.hid (QO.chg HQO6.out hcp (by decide))
          have HX5 := Lib.hid (HK6.out.other1 (g := gq) (by omega) (by simp; omega) 3 (.slice A6 (i + 1) c6))
          have hsz7 : w.heap.size + 2 ≤ (W6.setCell ⟨gq, 3, none⟩ (.slice A6 (i + 1) c6)).heap.size := by have := hcp.1.1; omega
          clear hcp
          go_wp2_with fail
          go_roundw
          case rel => exact ⟨i + 1, by omega, by go_num, ⟨A6, c6, HX1.out, HX2.out⟩, HX3.out, HX4.out, hsz7, HX5.out⟩
          case measure => simp [intOf]; omega
        · obtain rfl : i = p.rows.length := by omega
          have hrt : rq.take p.rows.length = rq := List.take_of_length_le (by rw [HRQ.out, List.length_map]; exact Nat.le_refl _)
          rw [hrt] at HRO
          clear hrt
          obtain ⟨i0, i1, i2, i3⟩ := HBQ.out.c4
          have hltq := HBQ.out.lt
          obtain ⟨j0, j1, j2, j3⟩ := (HK.out.blk 0 rfl).c4
          obtain ⟨f0, f1, f2, f3⟩ := (HK.out.blk 0 rfl).f4
          have hlt0 := (HK.out.blk 0 rfl).lt
          go_wp2_with fail
          have hcg := chg_put4 (base := w.heap.size) (HK.out.blk 0 rfl) (by simp) prog_words (.int .i64 vars) (.slice B1 p.free.length d1) (.slice B2 p.goal.length d2) (.slice A5 p.rows.length c5)
          exact ret26 Try.results40 rfl ((HK.out.blk 0 rfl).put4 _ _ _ _) ⟨_, _, _, by unfold cleanQ; rw [HV.out], HFR.out.chg hcg (by decide), by show QO _ _ _ (p.goal.map fixQ); rw [← HQG.out]; exact QO.chg HQO.out hcg (by decide), by show RO _ _ _ (p.rows.map cleanR); rw [← HRQ.out]; exact RO.chg HRO.out hcg (by decide) (by decide), below_put4 HK.out.2 (by simp) _ _ _ _⟩
  · have D0 : Hid (Below W0.heap.size W0 W0.drew) := Below.drew (Below.refl _ _)
    have E0 := Lib.hid (HS.step H0.out D0.out)
    have hz0 : w.heap.size + 2 ≤ W0.drew.heap.size := hsz1
    generalize W0.drew = Wx at *
    go_wp2_with fail
    have hBq := Blk.new Wx 26 #[.int .i64 0, .slice none 0 0, .slice none 0 0, .slice none 0 0]
    obtain ⟨gq, hgq⟩ : ∃ gq, gq = Wx.heap.size := ⟨_, rfl⟩
    have hgq2 : w.heap.size + 2 ≤ gq := by have := hz0; omega
    have hba2 := (below_new Wx (.cells #[.int .i64 0, .slice none 0 0, .slice none 0 0, .slice none 0 0] 26))
    have D1 := Lib.hid (below_next D0.out hba2)
    have E1 := Lib.hid (HS.step H0.out D1.out)
    have hz1 : w.heap.size + 2 ≤ (Wx.alloc (.cells #[.int .i64 0, .slice none 0 0, .slice none 0 0, .slice none 0 0] 26)).heap.size := Nat.le_trans hz0 (hba2).size
    try rw [← show gq = Wx.heap.size from hgq] at hBq
    try rw [← show gq = Wx.heap.size from hgq]
    have HB1 := Lib.hid hBq
    clear hBq hba2 hgq
    generalize Wx.alloc (.cells #[.int .i64 0, .slice none 0 0, .slice none 0 0, .slice none 0 0] 26) = Wd at *
    refine And.intro D1.out ⟨_, _, rfl, rfl, ?_⟩
    simp only [Act.put, List.getElem_toArray, List.getElem_cons_succ, List.getElem_cons_zero, List.setIfInBounds_toArray, List.set_cons_zero, List.set_cons_succ]
    go_wp2_with (at_builtin; (refine wpl_append_bools rfl (.const (.slice none 0 0)) (.tmp 9) rfl rfl (base := 0) rfl p.free rfl (H1.out.below EB.stays E1.out.2) hlf' (Nat.zero_le _) ?_); intro v1 Wa hfr hba)
    have D2 := Lib.hid (below_next D1.out hba)
    have E2 := Lib.hid (HS.step H0.out D2.out)
    have hz2 : w.heap.size + 2 ≤ Wa.heap.size := Nat.le_trans hz1 (hba).size
    have HB2 := Lib.hid (HB1.out.below hba HB1.out.lt)
    obtain ⟨B1, d1, rfl, _⟩ := hfr.1.slice
    have HF2 := Lib.hid hfr
    clear hfr hba
    go_wp2_with fail
    refine And.intro D2.out ⟨_, _, rfl, rfl, ?_⟩
    go_wp2_with fail
    refine (fixed_calls _ _ p.goal (H2.out.below EF.stays E2.out.2) hlg').mono ?_
    rintro e Wb ⟨v2, rfl, hq, hbb⟩
    have hq' := hq.lower (Nat.le_trans (Nat.le_add_right _ 2) hz2)
    have D3 := Lib.hid (below_next D2.out hbb)
    have E3 := Lib.hid (HS.step H0.out D3.out)
    have hz3 : w.heap.size + 2 ≤ Wb.heap.size := Nat.le_trans hz2 (hbb).size
    have HB3 := Lib.hid (HB2.out.below hbb HB2.out.lt)
    have HF3 := Lib.hid (HF2.out.below hbb)
    obtain ⟨B2, d2, hv2, _⟩ := hq'.slice
    rw [List.length_map] at hv2
    subst hv2
    have HQ3 := Lib.hid hq'
    clear hq hq' hbb
    go_wp2_with fail
    refine And.intro D3.out ⟨?_, ?_, ?_⟩
    rotate_left
    · repeat (refine ⟨_, ?_, rfl, Or.inl ⟨by rfl, ?_⟩, ?_⟩; rotate_left; focus (intro W hW; have hcW := (bcell hW).1; clear hW; go_simp; try with_reducible rfl); (try simp only [Act.put, List.getElem_toArray, List.getElem_cons_succ, List.getElem_cons_zero, List.setIfInBounds_toArray, List.set_cons_zero, List.set_cons_succ]))
      exact rfl
    obtain ⟨i0, i1, i2, i3⟩ := HB3.out.c4
    obtain ⟨g0, g1, g2, g3⟩ := HB3.out.f4
    have hltq := HB3.out.lt
    go_wp2_with fail
    refine NoPanic.normal ?_
    have HBc := Lib.hid (HB3.out.put4 (.int .i64 vars) (.slice B1 p.free.length d1) (.slice B2 p.goal.length d2) (.slice none 0 0))
    have hcg := chg_put4 (base := w.heap.size) HB3.out (by omega) prog_words (.int .i64 vars) (.slice B1 p.free.length d1) (.slice B2 p.goal.length d2) (.slice none 0 0)
    have HFc := Lib.hid (HF3.out.chg hcg (by decide))
    have HQc := Lib.hid (QO.chg HQ3.out hcg (by decide))
    have HSc := Lib.hid (E3.out.other4 (g := gq) (by omega) (by simp; omega) (.int .i64 vars) (.slice B1 p.free.length d1) (.slice B2 p.goal.length d2) (.slice none 0 0))
    have hszc : w.heap.size + 2 ≤ ((((Wb.setCell ⟨gq, 0, none⟩ (.int .i64 vars)).setCell ⟨gq, 1, none⟩ (.slice B1 p.free.length d1)).setCell ⟨gq, 2, none⟩ (.slice B2 p.goal.length d2)).setCell ⟨gq, 3, none⟩ (.slice none 0 0)).heap.size := by have := hcg.1.1; omega
    generalize (((Wb.setCell ⟨gq, 0, none⟩ (.int .i64 vars)).setCell ⟨gq, 1, none⟩ (.slice B1 p.free.length d1)).setCell ⟨gq, 2, none⟩ (.slice B2 p.goal.length d2)).setCell ⟨gq, 3, none⟩ (.slice none 0 0) = Wc at *
    clear i0 i1 i2 i3 g0 g1 g2 g3 hltq hcg
    clear D0 E0 hz0
    clear D1 E1 hz1
    clear D2 E2 hz2
    clear D3 E3 hz3
    clear H0 hsz1 l0 x0 x1 x2 x3
    obtain ⟨x0, x1, x2, x3⟩ := HSc.out.c4 1 rfl
    have hltp := (HSc.out.blk 1 rfl).lt
    obtain ⟨qg, hqg⟩ : ∃ q, q = p.goal.map fixQ := ⟨_, rfl⟩
    rw [← hqg] at HQc
    have HQG := Lib.hid hqg
    obtain ⟨rq, hrq⟩ : ∃ q, q = p.rows.map cleanR := ⟨_, rfl⟩
    have HRQ := Lib.hid hrq
    clear hqg hrq
    go_wp2_with fail
    clear x0 x1 x2 x3
    go_loopw [18] (fun vi wr => ∃ i : Nat, i ≤ p.rows.length ∧ vi = .int .i64 (i : Int) ∧ (∃ A5 c5, Blk wr gq 26 #[.int .i64 vars, .slice B1 p.free.length d1, .slice B2 p.goal.length d2, .slice A5 i c5] ∧ RO w.heap.size wr (.slice A5 i c5) (rq.take i)) ∧ FrO 0 wr (.slice B1 p.free.length d1) p.free ∧ QO w.heap.size wr (.slice B2 p.goal.length d2) qg ∧ w.heap.size + 2 ≤ wr.heap.size ∧ HS w [(w.heap.size + 1, 26, #[.int .i64 0, .slice none 0 0, .slice none 0 0, .slice none 0 0]), (w.heap.size, 26, #[.int .i64 vars, .slice A1 p.free.length c1, .slice A2 p.goal.length c2, .slice A3 p.rows.length c3])] wr) (fun vi _ => p.rows.length - (intOf vi).toNat)
    case atStart => exact ⟨0, Nat.zero_le _, rfl, ⟨none, 0, HBc.out, OL.nil _ _ _ _ _⟩, HFc.out, HQc.out, hszc, HSc.out⟩
    case round =>
      obtain ⟨i, hi, rfl, ⟨A5, c5, hbq, hro⟩, hfr, hqo, hsz2, hs⟩ := hrel
      have HBQ := Lib.hid hbq
      have HRO := Lib.hid hro
      have HFR := Lib.hid hfr
      have HQO := Lib.hid hqo
      have HK := Lib.hid hs
      clear hbq hro hfr hqo hs HBc HFc HQc HSc hszc hltp
      by_cases hlt : i < p.rows.length
      · obtain ⟨r, hr'⟩ : ∃ r, p.rows[i]? = some r := ⟨p.rows[i], List.getElem?_eq_getElem hlt⟩
        obtain ⟨g1, o1, C1, e1, C2, n2, e2, C3, n3, e3, rfl, hg, k0, k1, k2, k3, k4, HIS, HRA, HRB⟩ := RL.at5 (H3.out.below ER.stays HK.out.2) hr'
        have hra : r.a.length ≤ 1000000000 := by have := HLA.out r (List.mem_of_getElem? hr'); omega
        have HNX : Hid (rq.take (i + 1) = rq.take i ++ [cleanR r]) := by
          unfold Hid
          rw [List.take_add_one, HRQ.out, List.getElem?_map, hr']
          rfl
        have hrl : (rq.take i).length ≤ 1000000000 := by rw [List.length_take]; omega
        have HRL : Hid ((rq.take (i + 1)).length = i + 1) := by unfold Hid; rw [List.length_take, HRQ.out, List.length_map]; omega
        have m1 : (i : Int) < (p.rows.length : Int) := by omega
        have m3 : (i : Int).toNat = i := by omega
        have m4 : (0 : Int) ≤ (i : Int) := by omega
        obtain ⟨s, hs⟩ : ∃ s, s = r.s := ⟨_, rfl⟩
        rw [← hs] at k1
        have HSE := Lib.hid hs
        have hltq := HBQ.out.lt
        clear hr' hs
        go_wp2_with fail
        have HB1 := Lib.hid (below_new wr (.cells #[.slice C1 r.a.length e1, .int .i64 s, .bool r.b.neg, .slice C2 n2 e2, .slice C3 n3 e3] 65))
        have HKB1 := Lib.hid (Blk.new wr 65 #[.slice C1 r.a.length e1, .int .i64 s, .bool r.b.neg, .slice C2 n2 e2, .slice C3 n3 e3])
        obtain ⟨gr, hgr⟩ : ∃ gr, gr = wr.heap.size := ⟨_, rfl⟩
        rw [← hgr] at HKB1
        generalize wr.alloc (.cells #[.slice C1 r.a.length e1, .int .i64 s, .bool r.b.neg, .slice C2 n2 e2, .slice C3 n3 e3] 65) = W1 at *
        rw [← hgr]
        clear hgr k0 k1 k2 k3 k4
        have z0 := HKB1.out.cell (j := 0) rfl
        have z1 := HKB1.out.cell (j := 1) rfl
        have z2 := HKB1.out.cell (j := 2) rfl
        have z3 := HKB1.out.cell (j := 3) rfl
        have z4 := HKB1.out.cell (j := 4) rfl
        have hzl := HKB1.out.lt
        have HBQ1 := Lib.hid (HBQ.out.below HB1.out HBQ.out.lt)
        obtain ⟨i0, i1, i2, i3⟩ := HBQ1.out.c4
        have hltq1 := HBQ1.out.lt
        have hsz3 : w.heap.size ≤ W1.heap.size := by have := HB1.out.size; omega
        refine wp_chainF (l := [_, _, _, _, _, _, _, _, _, _, _, _, _, _, _]) (S := Below W1.heap.size W1) 12 [([0, 1, 2, 3, 5, 6, 7, 8], 4), ([], 9), ([10], 11)] [] (by kernel_rfl) (by kernel_rfl) (by kernel_rfl) rfl (Below.drew (Below.refl _ _)) ?_
        refine ⟨?_, _, ?_, rfl, ?_⟩
        rotate_left
        · repeat (refine ⟨_, ?_, rfl, Or.inl ⟨by rfl, ?_⟩, ?_⟩; rotate_left; focus (intro W hW; have hcW := (bcell hW).1; clear hW; go_simp; try with_reducible rfl); (try simp only [Act.put, List.getElem_toArray, List.getElem_cons_succ, List.getElem_cons_zero, List.setIfInBounds_toArray, List.set_cons_zero, List.set_cons_succ]))
          exact rfl
        have D0 : Hid (Below W1.heap.size W1 W1.drew) := Below.drew (Below.refl _ _)
        have F0 := Lib.hid (below_next HB1.out D0.out)
        go_wp2_with fail
        refine (fixed_calls _ _ r.a (HRA.out.below EF.stays F0.out) hra).mono ?_
        rintro e W2 ⟨v2, rfl, hq, hb⟩
        have hq' := hq.lower (base' := w.heap.size) (Nat.le_trans hsz3 D0.out.size)
        obtain ⟨C4, e4, hv2, _⟩ := hq'.slice
        rw [List.length_map] at hv2
        subst hv2
        have HQ2 := Lib.hid hq'
        have D2 := Lib.hid (below_next D0.out hb)
        have F2 := Lib.hid (below_next HB1.out D2.out)
        clear hq hq' hb
        go_wp2_with fail
        refine And.intro D2.out ⟨_, _, rfl, rfl, ?_⟩
        go_wp2_with fail
        refine (fix_calls _ _ r.b (HRB.out.of_below F2.out)).mono ?_
        rintro e W3 ⟨v3, rfl, hv, hb⟩
        obtain ⟨C5, n5, e5, C6, n6, e6, rfl, HV3⟩ := hv.opened
        have HQ3 := Lib.hid (HQ2.out.below EFQ.stays hb)
        have D3 := Lib.hid (below_next D2.out hb)
        clear hv hb
        go_wp2_with fail
        refine And.intro D3.out ⟨?_, _, ?_, rfl, ?_⟩
        rotate_left
        · repeat (refine ⟨_, ?_, rfl, Or.inl ⟨by rfl, ?_⟩, ?_⟩; rotate_left; focus (intro W hW; have hcW := (bcell hW).1; clear hW; go_simp; try with_reducible rfl); (try simp only [Act.put, List.getElem_toArray, List.getElem_cons_succ, List.getElem_cons_zero, List.setIfInBounds_toArray, List.set_cons_zero, List.set_cons_succ]))
          exact rfl
        go_wp2_with fail
        have HL4 := Lib.hid (Blk.new W3 65 #[.slice C4 r.a.length e4, .int .i64 s, .bool (negQ (fixQ r.b)), .slice C5 n5 e5, .slice C6 n6 e6])
        have hbn := below_new W3 (.cells #[.slice C4 r.a.length e4, .int .i64 s, .bool (negQ (fixQ r.b)), .slice C5 n5 e5, .slice C6 n6 e6] 65)
        have D4 := Lib.hid (below_next D3.out hbn)
        have HQ4 := Lib.hid (HQ3.out.below EFQ.stays hbn)
        have HV4 := Lib.hid (HV3.out.of_below hbn)
        obtain ⟨gl, hgl⟩ : ∃ g, g = W3.heap.size := ⟨_, rfl⟩
        rw [← hgl] at HL4 ⊢
        generalize W3.alloc (.cells #[.slice C4 r.a.length e4, .int .i64 s, .bool (negQ (fixQ r.b)), .slice C5 n5 e5, .slice C6 n6 e6] 65) = W4 at *
        clear hgl hbn
        refine And.intro D4.out ⟨_, rfl, ?_⟩
        have F4 := Lib.hid (below_next HB1.out D4.out)
        have HBQ4 := Lib.hid (HBQ.out.below F4.out HBQ.out.lt)
        have HRO4 := Lib.hid (HRO.out.below ERO.stays F4.out)
        have HFR4 := Lib.hid (HFR.out.below F4.out)
        have HQO4 := Lib.hid (HQO.out.below EFQ.stays F4.out)
        have HK4 := Lib.hid (HK.out.step F4.out)
        have hbase4 : w.heap.size ≤ W4.heap.size := Nat.le_trans hsz3 D4.out.size
        have HER : Hid (ERO w.heap.size W4 #[.slice C4 r.a.length e4, .int .i64 s, .bool (negQ (fixQ r.b)), .slice C5 n5 e5, .slice C6 n6 e6] (cleanR r)) := ⟨_, _, _, _, _, _, _, by unfold cleanR; rw [HSE.out], HIS.out, HQ4.out, HV4.out⟩
        simp only [Act.put, List.getElem_toArray, List.getElem_cons_succ, List.getElem_cons_zero, List.setIfInBounds_toArray, List.set_cons_zero, List.set_cons_succ, List.drop_succ_cons, List.drop_zero]
        clear i0 i1 i2 i3 z0 z1 z2 z3 z4
        go_wp2_with (at_builtin; refine wpl_appendR5 rfl (.tmp 23) (.tmp 33) rfl (base := w.heap.size) (.slice A5 i c5) (rq.take i) rfl HRO4.out (cleanR r) rfl HL4.out HER.out hrl hbase4 ?_; intro v6 W6 hro6 hcg6 hw6 hob6; obtain ⟨A6, c6, hv6, _⟩ := hro6.slice; rw [← HNX.out] at hro6 hv6; rw [HRL.out] at hv6; subst hv6; have HRO6 := Lib.hid hro6; have HBQ6 := Lib.hid (HBQ4.out.chg hcg6 (by decide)); have HFR6 := Lib.hid (HFR4.out.chg hcg6 (by decide)); have HQO6 := Lib.hid (QO.chg HQO4.out hcg6 (by decide)); have HK6 := Lib.hid (HS.chg HK4.out hcg6 (by simp) rfl hw6); have hsz6 : w.heap.size + 2 ≤ W6.heap.size := (by have := hcg6.1.1; have := D4.out.size; have := HB1.out.size; omega); obtain ⟨i0, i1, i2, i3⟩ := HBQ6.out.c4; obtain ⟨f0, f1, f2, f3⟩ := HBQ6.out.f4; have hltq6 := HBQ6.out.lt; clear hro6 hcg6 hw6 hob6)
        refine NoPanic.normal ?_
        have hcp := chg_put1 (base := w.heap.size) (j := 3) HBQ6.out (by omega) prog_words (.slice A6 (i + 1) c6)
        have HX1 := Lib.hid (HBQ6.out.put 3 (.slice A6 (i + 1) c6))
        have HX2 := Lib.hid (RO.chg HRO6.out hcp (by decide) (by decide))
        have HX3 := Lib.hid (HFR6.out.chg hcp (by decide))
        have HX4 := Lib.hid (QO.chg HQO6.out hcp (by decide))
        have HX5 := Lib.hid (HK6.out.other1 (g := gq) (by omega) (by simp; omega) 3 (.slice A6 (i + 1) c6))
        have hsz7 : w.heap.size + 2 ≤ (W6.setCell ⟨gq, 3, none⟩ (.slice A6 (i + 1) c6)).heap.size := by have := hcp.1.1; omega
        clear hcp
        go_wp2_with fail
        go_roundw
        case rel => exact ⟨i + 1, by omega, by go_num, ⟨A6, c6, HX1.out, HX2.out⟩, HX3.out, HX4.out, hsz7, HX5.out⟩
        case measure => simp [intOf]; omega
      · obtain rfl : i = p.rows.length := by omega
        have hrt : rq.take p.rows.length = rq := List.take_of_length_le (by rw [HRQ.out, List.length_map]; exact Nat.le_refl _)
        rw [hrt] at HRO
        clear hrt
        obtain ⟨i0, i1, i2, i3⟩ := HBQ.out.c4
        have hltq := HBQ.out.lt
        obtain ⟨j0, j1, j2, j3⟩ := (HK.out.blk 0 rfl).c4
        obtain ⟨f0, f1, f2, f3⟩ := (HK.out.blk 0 rfl).f4
        have hlt0 := (HK.out.blk 0 rfl).lt
        go_wp2_with fail
        have hcg := chg_put4 (base := w.heap.size) (HK.out.blk 0 rfl) (by simp) prog_words (.int .i64 vars) (.slice B1 p.free.length d1) (.slice B2 p.goal.length d2) (.slice A5 p.rows.length c5)
        exact ret26 Try.results40 rfl ((HK.out.blk 0 rfl).put4 _ _ _ _) ⟨_, _, _, by unfold cleanQ; rw [HV.out], HFR.out.chg hcg (by decide), by show QO _ _ _ (p.goal.map fixQ); rw [← HQG.out]; exact QO.chg HQO.out hcg (by decide), by show RO _ _ _ (p.rows.map cleanR); rw [← HRQ.out]; exact RO.chg HRO.out hcg (by decide) (by decide), below_put4 HK.out.2 (by simp) _ _ _ _⟩
end Go.Proofs.Ytfhambfgjigneaa
set_option linter.unusedVariables false
set_option linter.unusedSimpArgs false
namespace Go.Proofs.Ytfhambfgjigneaa
open Go.RowKit
set_option maxHeartbeats 32000000 in
set_option maxRecDepth 100000 in
theorem rclean26_calls (w : World) (A1 A2 A3 : Option Addr) (c1 c2 c3 : Nat) (p : ProgF) (h : PR w (.agg #[.int .i64 p.vars, .slice A1 p.free.length c1, .slice A2 p.goal.length c2, .slice A3 p.rows.length c3]) p) (hlf : p.free.length ≤ 1000) (hlg : p.goal.length ≤ 1000) (hlr : p.rows.length ≤ 1000) (hla : ∀ r ∈ p.rows, r.a.length ≤ 1000) : Calls Try.prog 43 #[.agg #[.int .i64 p.vars, .slice A1 p.free.length c1, .slice A2 p.goal.length c2, .slice A3 p.rows.length c3]] w fun e w' => XPost w (.slice A1 p.free.length c1) (cleanQ p) e w' := by
  obtain ⟨B1, b1, B2, b2, B3, b3, ev, HI, H1, H2, H3⟩ := h.opened
  obtain ⟨⟨rfl, rfl⟩, ⟨rfl, rfl⟩, rfl, rfl⟩ : (A1 = B1 ∧ c1 = b1) ∧ (A2 = B2 ∧ c2 = b2) ∧ A3 = B3 ∧ c3 = b3 := by simpa using ev
  clear h ev
  obtain ⟨vars, hv⟩ : ∃ n, n = p.vars := ⟨_, rfl⟩
  rw [← hv]
  have HV := Lib.hid hv
  have HLA := Lib.hid hla
  clear hv hla
  go_enter Try.func43, Try.ntmps43
  go_wp2_with fail
  have H0 := Lib.hid (HS.two (w := w) #[.int .i64 vars, .slice A1 p.free.length c1, .slice A2 p.goal.length c2, .slice A3 p.rows.length c3] #[.int .i64 0, .slice none 0 0, .slice none 0 0, .slice none 0 0] 26 26)
  have hsz0 : ((w.alloc (.cells #[.int .i64 vars, .slice A1 p.free.length c1, .slice A2 p.goal.length c2, .slice A3 p.rows.length c3] 26)).alloc (.cells #[.int .i64 0, .slice none 0 0, .slice none 0 0, .slice none 0 0] 26)).heap.size = w.heap.size + 2 := by simp
  generalize (w.alloc (.cells #[.int .i64 vars, .slice A1 p.free.length c1, .slice A2 p.goal.length c2, .slice A3 p.rows.length c3] 26)).alloc (.cells #[.int .i64 0, .slice none 0 0, .slice none 0 0, .slice none 0 0] 26) = W0 at *
  have hsz1 : w.heap.size + 2 ≤ W0.heap.size := by omega
  clear hsz0
  obtain ⟨x0, x1, x2, x3⟩ := H0.out.c4 1 rfl
  have l0 := (H0.out.blk 1 rfl).lt
  have hlg' : p.goal.length ≤ 1000000000 := by omega
  have HFRA := Lib.hid (FrO.old H1.out)
  refine wp_tree (l := [_, _, _, _, _, _, _, _, _, _]) (S := Below W0.heap.size W0) 9 (.two [0, 1, 2, 3, 4, 5] 6 (.one [7] 8 (.fin [])) 8 (.one [] 6 (.fin [7]))) (by kernel_rfl) (by kernel_rfl) (by kernel_rfl) rfl (Below.drew (Below.refl _ _)) ?_
  refine ⟨?_, _, _, ?_, rfl, rfl, ?_, ?_⟩
  rotate_left
  · repeat (refine ⟨_, ?_, rfl, Or.inl ⟨by rfl, ?_⟩, ?_⟩; rotate_left; focus (intro W hW; have hcW := (bcell hW).1; clear hW; go_simp; try with_reducible rfl); (try simp only [Act.put, List.getElem_toArray, List.getElem_cons_succ, List.getElem_cons_zero, List.setIfInBounds_toArray, List.set_cons_zero, List.set_cons_succ]))
    exact rfl
  · have D0 : Hid (Below W0.heap.size W0 W0.drew) := Below.drew (Below.refl _ _)
    have E0 := Lib.hid (HS.step H0.out D0.out)
    have hz0 : w.heap.size + 2 ≤ W0.drew.heap.size := hsz1
    generalize W0.drew = Wx at *
    have HF0 := Lib.hid (HFRA.out.below E0.out.2)
    go_wp2_with fail
    refine (rclean_calls _ _ p.goal (H2.out.below EF.stays E0.out.2) hlg').mono ?_
    rintro e Wb ⟨v2, rfl, hq, hbb⟩
    have hq' := hq.lower (Nat.le_trans (Nat.le_add_right _ 2) hz0)
    have D1 := Lib.hid (below_next D0.out hbb)
    have E1 := Lib.hid (HS.step H0.out D1.out)
    have hz1 : w.heap.size + 2 ≤ Wb.heap.size := Nat.le_trans hz0 (hbb).size
    have HF1 := Lib.hid (HF0.out.below hbb)
    obtain ⟨B2, d2, hv2, _⟩ := hq'.slice
    rw [List.length_map] at hv2
    subst hv2
    have HQ1 := Lib.hid hq'
    clear hq hq' hbb
    go_wp2_with fail
    refine And.intro D1.out ⟨?_, _, ?_, rfl, ?_⟩
    rotate_left
    · repeat (refine ⟨_, ?_, rfl, Or.inl ⟨by rfl, ?_⟩, ?_⟩; rotate_left; focus (intro W hW; have hcW := (bcell hW).1; clear hW; go_simp; try with_reducible rfl); (try simp only [Act.put, List.getElem_toArray, List.getElem_cons_succ, List.getElem_cons_zero, List.setIfInBounds_toArray, List.set_cons_zero, List.set_cons_succ]))
      exact rfl
    go_wp2_with fail
    have hBq := Blk.new Wb 26 #[.int .i64 0, .slice none 0 0, .slice none 0 0, .slice none 0 0]
    obtain ⟨gq, hgq⟩ : ∃ gq, gq = Wb.heap.size := ⟨_, rfl⟩
    have hgq2 : w.heap.size + 2 ≤ gq := by have := hz1; omega
    have hba2 := (below_new Wb (.cells #[.int .i64 0, .slice none 0 0, .slice none 0 0, .slice none 0 0] 26))
    have D2 := Lib.hid (below_next D1.out hba2)
    have E2 := Lib.hid (HS.step H0.out D2.out)
    have hz2 : w.heap.size + 2 ≤ (Wb.alloc (.cells #[.int .i64 0, .slice none 0 0, .slice none 0 0, .slice none 0 0] 26)).heap.size := Nat.le_trans hz1 (hba2).size
    have HF2 := Lib.hid (HF1.out.below hba2)
    have HQ2 := Lib.hid (HQ1.out.below EFQ.stays hba2)
    try rw [← show gq = Wb.heap.size from hgq] at hBq
    try rw [← show gq = Wb.heap.size from hgq]
    have HB2 := Lib.hid hBq
    clear hBq hba2 hgq
    generalize Wb.alloc (.cells #[.int .i64 0, .slice none 0 0, .slice none 0 0, .slice none 0 0] 26) = Wd at *
    refine And.intro D2.out ⟨_, rfl, ?_⟩
    obtain ⟨i0, i1, i2, i3⟩ := HB2.out.c4
    obtain ⟨g0, g1, g2, g3⟩ := HB2.out.f4
    have hltq := HB2.out.lt
    go_wp2_with fail
    refine NoPanic.normal ?_
    have HBc := Lib.hid (HB2.out.put4 (.int .i64 vars) (.slice A1 p.free.length c1) (.slice B2 p.goal.length d2) (.slice none 0 0))
    have hcg := chg_put4 (base := w.heap.size) HB2.out (by omega) prog_words (.int .i64 vars) (.slice A1 p.free.length c1) (.slice B2 p.goal.length d2) (.slice none 0 0)
    have HFc := Lib.hid (HF2.out.chg hcg (by decide))
    have HQc := Lib.hid (QO.chg HQ2.out hcg (by decide))
    have HSc := Lib.hid (E2.out.other4 (g := gq) (by omega) (by simp; omega) (.int .i64 vars) (.slice A1 p.free.length c1) (.slice B2 p.goal.length d2) (.slice none 0 0))
    have hszc : w.heap.size + 2 ≤ ((((Wd.setCell ⟨gq, 0, none⟩ (.int .i64 vars)).setCell ⟨gq, 1, none⟩ (.slice A1 p.free.length c1)).setCell ⟨gq, 2, none⟩ (.slice B2 p.goal.length d2)).setCell ⟨gq, 3, none⟩ (.slice none 0 0)).heap.size := by have := hcg.1.1; omega
    generalize (((Wd.setCell ⟨gq, 0, none⟩ (.int .i64 vars)).setCell ⟨gq, 1, none⟩ (.slice A1 p.free.length c1)).setCell ⟨gq, 2, none⟩ (.slice B2 p.goal.length d2)).setCell ⟨gq, 3, none⟩ (.slice none 0 0) = Wc at *
    clear i0 i1 i2 i3 g0 g1 g2 g3 hltq hcg
    clear D0 E0 hz0
    clear D1 E1 hz1
    clear D2 E2 hz2
    clear H0 hsz1 l0 x0 x1 x2 x3
    obtain ⟨x0, x1, x2, x3⟩ := HSc.out.c4 1 rfl
    have hltp := (HSc.out.blk 1 rfl).lt
    obtain ⟨qg, hqg⟩ : ∃ q, q = p.goal.map fixQ := ⟨_, rfl⟩
    rw [← hqg] at HQc
    have HQG := Lib.hid hqg
    obtain ⟨rq, hrq⟩ : ∃ q, q = p.rows.map cleanR := ⟨_, rfl⟩
    have HRQ := Lib.hid hrq
    clear hqg hrq
    go_wp2_with fail
    clear x0 x1 x2 x3
    go_loopw [17] (fun vi wr => ∃ i : Nat, i ≤ p.rows.length ∧ vi = .int .i64 (i : Int) ∧ (∃ A5 c5, Blk wr gq 26 #[.int .i64 vars, .slice A1 p.free.length c1, .slice B2 p.goal.length d2, .slice A5 i c5] ∧ RO w.heap.size wr (.slice A5 i c5) (rq.take i)) ∧ FrO w.heap.size wr (.slice A1 p.free.length c1) p.free ∧ QO w.heap.size wr (.slice B2 p.goal.length d2) qg ∧ w.heap.size + 2 ≤ wr.heap.size ∧ HS w [(w.heap.size + 1, 26, #[.int .i64 0, .slice none 0 0, .slice none 0 0, .slice none 0 0]), (w.heap.size, 26, #[.int .i64 vars, .slice A1 p.free.length c1, .slice A2 p.goal.length c2, .slice A3 p.rows.length c3])] wr) (fun vi _ => p.rows.length - (intOf vi).toNat)
    case atStart => exact ⟨0, Nat.zero_le _, rfl, ⟨none, 0, HBc.out, OL.nil _ _ _ _ _⟩, HFc.out, HQc.out, hszc, HSc.out⟩
    case round =>
      obtain ⟨i, hi, rfl, ⟨A5, c5, hbq, hro⟩, hfr, hqo, hsz2, hs⟩ := hrel
      have HBQ := Lib.hid hbq
      have HRO := Lib.hid hro
      have HFR := Lib.hid hfr
      have HQO := Lib.hid hqo
      have HK := Lib.hid hs
      clear hbq hro hfr hqo hs HBc HFc HQc HSc hszc hltp
      by_cases hlt : i < p.rows.length
      · obtain ⟨r, hr'⟩ : ∃ r, p.rows[i]? = some r := ⟨p.rows[i], List.getElem?_eq_getElem hlt⟩
        obtain ⟨g1, o1, C1, e1, C2, n2, e2, C3, n3, e3, rfl, hg, k0, k1, k2, k3, k4, HIS, HRA, HRB⟩ := RL.at5 (H3.out.below ER.stays HK.out.2) hr'
        have hra : r.a.length ≤ 1000000000 := by have := HLA.out r (List.mem_of_getElem? hr'); omega
        have HNX : Hid (rq.take (i + 1) = rq.take i ++ [cleanR r]) := by
          unfold Hid
          rw [List.take_add_one, HRQ.out, List.getElem?_map, hr']
          rfl
        have hrl : (rq.take i).length ≤ 1000000000 := by rw [List.length_take]; omega
        have HRL : Hid ((rq.take (i + 1)).length = i + 1) := by unfold Hid; rw [List.length_take, HRQ.out, List.length_map]; omega
        have m1 : (i : Int) < (p.rows.length : Int) := by omega
        have m3 : (i : Int).toNat = i := by omega
        have m4 : (0 : Int) ≤ (i : Int) := by omega
        obtain ⟨s, hs⟩ : ∃ s, s = r.s := ⟨_, rfl⟩
        rw [← hs] at k1
        have HSE := Lib.hid hs
        have hltq := HBQ.out.lt
        clear hr' hs
        go_wp2_with fail
        have HB1 := Lib.hid (below_new wr (.cells #[.slice C1 r.a.length e1, .int .i64 s, .bool r.b.neg, .slice C2 n2 e2, .slice C3 n3 e3] 65))
        have HKB1 := Lib.hid (Blk.new wr 65 #[.slice C1 r.a.length e1, .int .i64 s, .bool r.b.neg, .slice C2 n2 e2, .slice C3 n3 e3])
        obtain ⟨gr, hgr⟩ : ∃ gr, gr = wr.heap.size := ⟨_, rfl⟩
        rw [← hgr] at HKB1
        generalize wr.alloc (.cells #[.slice C1 r.a.length e1, .int .i64 s, .bool r.b.neg, .slice C2 n2 e2, .slice C3 n3 e3] 65) = W1 at *
        rw [← hgr]
        clear hgr k0 k1 k2 k3 k4
        have z0 := HKB1.out.cell (j := 0) rfl
        have z1 := HKB1.out.cell (j := 1) rfl
        have z2 := HKB1.out.cell (j := 2) rfl
        have z3 := HKB1.out.cell (j := 3) rfl
        have z4 := HKB1.out.cell (j := 4) rfl
        have hzl := HKB1.out.lt
        have HBQ1 := Lib.hid (HBQ.out.below HB1.out HBQ.out.lt)
        obtain ⟨i0, i1, i2, i3⟩ := HBQ1.out.c4
        have hltq1 := HBQ1.out.lt
        have hsz3 : w.heap.size ≤ W1.heap.size := by have := HB1.out.size; omega
        refine wp_chainF (l := [_, _, _, _, _, _, _, _, _, _, _, _, _, _, _]) (S := Below W1.heap.size W1) 12 [([0, 1, 2, 3, 5, 6, 7, 8], 4), ([], 9), ([10], 11)] [] (by kernel_rfl) (by kernel_rfl) (by kernel_rfl) rfl (Below.drew (Below.refl _ _)) ?_
        refine ⟨?_, _, ?_, rfl, ?_⟩
        rotate_left
        · repeat (refine ⟨_, ?_, rfl, Or.inl ⟨by rfl, ?_⟩, ?_⟩; rotate_left; focus (intro W hW; have hcW := (bcell hW).1; clear hW; go_simp; try with_reducible rfl); (try simp only [Act.put, List.getElem_toArray, List.getElem_cons_succ, List.getElem_cons_zero, List.setIfInBounds_toArray, List.set_cons_zero, List.set_cons_succ]))
          exact rfl
        have D0 : Hid (Below W1.heap.size W1 W1.drew) := Below.drew (Below.refl _ _)
        have F0 := Lib.hid (below_next HB1.out D0.out)
        go_wp2_with fail
        refine (rclean_calls _ _ r.a (HRA.out.below EF.stays F0.out) hra).mono ?_
        rintro e W2 ⟨v2, rfl, hq, hb⟩
        have hq' := hq.lower (base' := w.heap.size) (Nat.le_trans hsz3 D0.out.size)
        obtain ⟨C4, e4, hv2, _⟩ := hq'.slice
        rw [List.length_map] at hv2
        subst hv2
        have HQ2 := Lib.hid hq'
        have D2 := Lib.hid (below_next D0.out hb)
        have F2 := Lib.hid (below_next HB1.out D2.out)
        clear hq hq' hb
        go_wp2_with fail
        refine And.intro D2.out ⟨_, _, rfl, rfl, ?_⟩
        go_wp2_with fail
        refine (rfix_calls _ _ r.b (HRB.out.of_below F2.out)).mono ?_
        rintro e W3 ⟨v3, rfl, hv, hb⟩
        obtain ⟨C5, n5, e5, C6, n6, e6, rfl, HV3⟩ := hv.opened
        have HQ3 := Lib.hid (HQ2.out.below EFQ.stays hb)
        have D3 := Lib.hid (below_next D2.out hb)
        clear hv hb
        go_wp2_with fail
        refine And.intro D3.out ⟨?_, _, ?_, rfl, ?_⟩
        rotate_left
        · repeat (refine ⟨_, ?_, rfl, Or.inl ⟨by rfl, ?_⟩, ?_⟩; rotate_left; focus (intro W hW; have hcW := (bcell hW).1; clear hW; go_simp; try with_reducible rfl); (try simp only [Act.put, List.getElem_toArray, List.getElem_cons_succ, List.getElem_cons_zero, List.setIfInBounds_toArray, List.set_cons_zero, List.set_cons_succ]))
          exact rfl
        go_wp2_with fail
        have HL4 := Lib.hid (Blk.new W3 65 #[.slice C4 r.a.length e4, .int .i64 s, .bool (negQ (fixQ r.b)), .slice C5 n5 e5, .slice C6 n6 e6])
        have hbn := below_new W3 (.cells #[.slice C4 r.a.length e4, .int .i64 s, .bool (negQ (fixQ r.b)), .slice C5 n5 e5, .slice C6 n6 e6] 65)
        have D4 := Lib.hid (below_next D3.out hbn)
        have HQ4 := Lib.hid (HQ3.out.below EFQ.stays hbn)
        have HV4 := Lib.hid (HV3.out.of_below hbn)
        obtain ⟨gl, hgl⟩ : ∃ g, g = W3.heap.size := ⟨_, rfl⟩
        rw [← hgl] at HL4 ⊢
        generalize W3.alloc (.cells #[.slice C4 r.a.length e4, .int .i64 s, .bool (negQ (fixQ r.b)), .slice C5 n5 e5, .slice C6 n6 e6] 65) = W4 at *
        clear hgl hbn
        refine And.intro D4.out ⟨_, rfl, ?_⟩
        have F4 := Lib.hid (below_next HB1.out D4.out)
        have HBQ4 := Lib.hid (HBQ.out.below F4.out HBQ.out.lt)
        have HRO4 := Lib.hid (HRO.out.below ERO.stays F4.out)
        have HFR4 := Lib.hid (HFR.out.below F4.out)
        have HQO4 := Lib.hid (HQO.out.below EFQ.stays F4.out)
        have HK4 := Lib.hid (HK.out.step F4.out)
        have hbase4 : w.heap.size ≤ W4.heap.size := Nat.le_trans hsz3 D4.out.size
        have HER : Hid (ERO w.heap.size W4 #[.slice C4 r.a.length e4, .int .i64 s, .bool (negQ (fixQ r.b)), .slice C5 n5 e5, .slice C6 n6 e6] (cleanR r)) := ⟨_, _, _, _, _, _, _, by unfold cleanR; rw [HSE.out], HIS.out, HQ4.out, HV4.out⟩
        simp only [Act.put, List.getElem_toArray, List.getElem_cons_succ, List.getElem_cons_zero, List.setIfInBounds_toArray, List.set_cons_zero, List.set_cons_succ, List.drop_succ_cons, List.drop_zero]
        clear i0 i1 i2 i3 z0 z1 z2 z3 z4
        go_wp2_with (at_builtin; refine wpl_appendR5 rfl (.tmp 22) (.tmp 32) rfl (base := w.heap.size) (.slice A5 i c5) (rq.take i) rfl HRO4.out (cleanR r) rfl HL4.out HER.out hrl hbase4 ?_; intro v6 W6 hro6 hcg6 hw6 hob6; obtain ⟨A6, c6, hv6, _⟩ := hro6.slice; rw [← HNX.out] at hro6 hv6; rw [HRL.out] at hv6; subst hv6; have HRO6 := Lib.hid hro6; have HBQ6 := Lib.hid (HBQ4.out.chg hcg6 (by decide)); have HFR6 := Lib.hid (HFR4.out.chg hcg6 (by decide)); have HQO6 := Lib.hid (QO.chg HQO4.out hcg6 (by decide)); have HK6 := Lib.hid (HS.chg HK4.out hcg6 (by simp) rfl hw6); have hsz6 : w.heap.size + 2 ≤ W6.heap.size := (by have := hcg6.1.1; have := D4.out.size; have := HB1.out.size; omega); obtain ⟨i0, i1, i2, i3⟩ := HBQ6.out.c4; obtain ⟨f0, f1, f2, f3⟩ := HBQ6.out.f4; have hltq6 := HBQ6.out.lt; clear hro6 hcg6 hw6 hob6)
        refine NoPanic.normal ?_
        have hcp := chg_put1 (base := w.heap.size) (j := 3) HBQ6.out (by omega) prog_words (.slice A6 (i + 1) c6)
        have HX1 := Lib.hid (HBQ6.out.put 3 (.slice A6 (i + 1) c6))
        have HX2 := Lib.hid (RO.chg HRO6.out hcp (by decide) (by decide))
        have HX3 := Lib.hid (HFR6.out.chg hcp (by decide))
        have HX4 := Lib.hid (QO.chg HQO6.out hcp (by decide))
        have HX5 := Lib.hid (HK6.out.other1 (g := gq) (by omega) (by simp; omega) 3 (.slice A6 (i + 1) c6))
        have hsz7 : w.heap.size + 2 ≤ (W6.setCell ⟨gq, 3, none⟩ (.slice A6 (i + 1) c6)).heap.size := by have := hcp.1.1; omega
        clear hcp
        go_wp2_with fail
        go_roundw
        case rel => exact ⟨i + 1, by omega, by go_num, ⟨A6, c6, HX1.out, HX2.out⟩, HX3.out, HX4.out, hsz7, HX5.out⟩
        case measure => simp [intOf]; omega
      · obtain rfl : i = p.rows.length := by omega
        have hrt : rq.take p.rows.length = rq := List.take_of_length_le (by rw [HRQ.out, List.length_map]; exact Nat.le_refl _)
        rw [hrt] at HRO
        clear hrt
        obtain ⟨i0, i1, i2, i3⟩ := HBQ.out.c4
        have hltq := HBQ.out.lt
        obtain ⟨j0, j1, j2, j3⟩ := (HK.out.blk 0 rfl).c4
        obtain ⟨f0, f1, f2, f3⟩ := (HK.out.blk 0 rfl).f4
        have hlt0 := (HK.out.blk 0 rfl).lt
        go_wp2_with fail
        have hcg := chg_put4 (base := w.heap.size) (HK.out.blk 0 rfl) (by simp) prog_words (.int .i64 vars) (.slice A1 p.free.length c1) (.slice B2 p.goal.length d2) (.slice A5 p.rows.length c5)
        exact ret26 Try.results43 rfl ((HK.out.blk 0 rfl).put4 _ _ _ _) ⟨_, _, by unfold cleanQ; rw [HV.out], by show QO _ _ _ (p.goal.map fixQ); rw [← HQG.out]; exact QO.chg HQO.out hcg (by decide), by show RO _ _ _ (p.rows.map cleanR); rw [← HRQ.out]; exact RO.chg HRO.out hcg (by decide) (by decide), below_put4 HK.out.2 (by simp) _ _ _ _⟩
  · have D0 : Hid (Below W0.heap.size W0 W0.drew) := Below.drew (Below.refl _ _)
    have E0 := Lib.hid (HS.step H0.out D0.out)
    have hz0 : w.heap.size + 2 ≤ W0.drew.heap.size := hsz1
    generalize W0.drew = Wx at *
    have HF0 := Lib.hid (HFRA.out.below E0.out.2)
    go_wp2_with fail
    have hBq := Blk.new Wx 26 #[.int .i64 0, .slice none 0 0, .slice none 0 0, .slice none 0 0]
    obtain ⟨gq, hgq⟩ : ∃ gq, gq = Wx.heap.size := ⟨_, rfl⟩
    have hgq2 : w.heap.size + 2 ≤ gq := by have := hz0; omega
    have hba2 := (below_new Wx (.cells #[.int .i64 0, .slice none 0 0, .slice none 0 0, .slice none 0 0] 26))
    have D1 := Lib.hid (below_next D0.out hba2)
    have E1 := Lib.hid (HS.step H0.out D1.out)
    have hz1 : w.heap.size + 2 ≤ (Wx.alloc (.cells #[.int .i64 0, .slice none 0 0, .slice none 0 0, .slice none 0 0] 26)).heap.size := Nat.le_trans hz0 (hba2).size
    have HF1 := Lib.hid (HF0.out.below hba2)
    try rw [← show gq = Wx.heap.size from hgq] at hBq
    try rw [← show gq = Wx.heap.size from hgq]
    have HB1 := Lib.hid hBq
    clear hBq hba2 hgq
    generalize Wx.alloc (.cells #[.int .i64 0, .slice none 0 0, .slice none 0 0, .slice none 0 0] 26) = Wd at *
    refine And.intro D1.out ⟨_, _, rfl, rfl, ?_⟩
    go_wp2_with fail
    refine (rclean_calls _ _ p.goal (H2.out.below EF.stays E1.out.2) hlg').mono ?_
    rintro e Wb ⟨v2, rfl, hq, hbb⟩
    have hq' := hq.lower (Nat.le_trans (Nat.le_add_right _ 2) hz1)
    have D2 := Lib.hid (below_next D1.out hbb)
    have E2 := Lib.hid (HS.step H0.out D2.out)
    have hz2 : w.heap.size + 2 ≤ Wb.heap.size := Nat.le_trans hz1 (hbb).size
    have HF2 := Lib.hid (HF1.out.below hbb)
    have HB2 := Lib.hid (HB1.out.below hbb HB1.out.lt)
    obtain ⟨B2, d2, hv2, _⟩ := hq'.slice
    rw [List.length_map] at hv2
    subst hv2
    have HQ2 := Lib.hid hq'
    clear hq hq' hbb
    go_wp2_with fail
    refine And.intro D2.out ⟨?_, ?_, ?_⟩
    rotate_left
    · repeat (refine ⟨_, ?_, rfl, Or.inl ⟨by rfl, ?_⟩, ?_⟩; rotate_left; focus (intro W hW; have hcW := (bcell hW).1; clear hW; go_simp; try with_reducible rfl); (try simp only [Act.put, List.getElem_toArray, List.getElem_cons_succ, List.getElem_cons_zero, List.setIfInBounds_toArray, List.set_cons_zero, List.set_cons_succ]))
      exact rfl
    obtain ⟨i0, i1, i2, i3⟩ := HB2.out.c4
    obtain ⟨g0, g1, g2, g3⟩ := HB2.out.f4
    have hltq := HB2.out.lt
    go_wp2_with fail
    refine NoPanic.normal ?_
    have HBc := Lib.hid (HB2.out.put4 (.int .i64 vars) (.slice A1 p.free.length c1) (.slice B2 p.goal.length d2) (.slice none 0 0))
    have hcg := chg_put4 (base := w.heap.size) HB2.out (by omega) prog_words (.int .i64 vars) (.slice A1 p.free.length c1) (.slice B2 p.goal.length d2) (.slice none 0 0)
    have HFc := Lib.hid (HF2.out.chg hcg (by decide))
    have HQc := Lib.hid (QO.chg HQ2.out hcg (by decide))
    have HSc := Lib.hid (E2.out.other4 (g := gq) (by omega) (by simp; omega) (.int .i64 vars) (.slice A1 p.free.length c1) (.slice B2 p.goal.length d2) (.slice none 0 0))
    have hszc : w.heap.size + 2 ≤ ((((Wb.setCell ⟨gq, 0, none⟩ (.int .i64 vars)).setCell ⟨gq, 1, none⟩ (.slice A1 p.free.length c1)).setCell ⟨gq, 2, none⟩ (.slice B2 p.goal.length d2)).setCell ⟨gq, 3, none⟩ (.slice none 0 0)).heap.size := by have := hcg.1.1; omega
    generalize (((Wb.setCell ⟨gq, 0, none⟩ (.int .i64 vars)).setCell ⟨gq, 1, none⟩ (.slice A1 p.free.length c1)).setCell ⟨gq, 2, none⟩ (.slice B2 p.goal.length d2)).setCell ⟨gq, 3, none⟩ (.slice none 0 0) = Wc at *
    clear i0 i1 i2 i3 g0 g1 g2 g3 hltq hcg
    clear D0 E0 hz0
    clear D1 E1 hz1
    clear D2 E2 hz2
    clear H0 hsz1 l0 x0 x1 x2 x3
    obtain ⟨x0, x1, x2, x3⟩ := HSc.out.c4 1 rfl
    have hltp := (HSc.out.blk 1 rfl).lt
    obtain ⟨qg, hqg⟩ : ∃ q, q = p.goal.map fixQ := ⟨_, rfl⟩
    rw [← hqg] at HQc
    have HQG := Lib.hid hqg
    obtain ⟨rq, hrq⟩ : ∃ q, q = p.rows.map cleanR := ⟨_, rfl⟩
    have HRQ := Lib.hid hrq
    clear hqg hrq
    go_wp2_with fail
    clear x0 x1 x2 x3
    go_loopw [17] (fun vi wr => ∃ i : Nat, i ≤ p.rows.length ∧ vi = .int .i64 (i : Int) ∧ (∃ A5 c5, Blk wr gq 26 #[.int .i64 vars, .slice A1 p.free.length c1, .slice B2 p.goal.length d2, .slice A5 i c5] ∧ RO w.heap.size wr (.slice A5 i c5) (rq.take i)) ∧ FrO w.heap.size wr (.slice A1 p.free.length c1) p.free ∧ QO w.heap.size wr (.slice B2 p.goal.length d2) qg ∧ w.heap.size + 2 ≤ wr.heap.size ∧ HS w [(w.heap.size + 1, 26, #[.int .i64 0, .slice none 0 0, .slice none 0 0, .slice none 0 0]), (w.heap.size, 26, #[.int .i64 vars, .slice A1 p.free.length c1, .slice A2 p.goal.length c2, .slice A3 p.rows.length c3])] wr) (fun vi _ => p.rows.length - (intOf vi).toNat)
    case atStart => exact ⟨0, Nat.zero_le _, rfl, ⟨none, 0, HBc.out, OL.nil _ _ _ _ _⟩, HFc.out, HQc.out, hszc, HSc.out⟩
    case round =>
      obtain ⟨i, hi, rfl, ⟨A5, c5, hbq, hro⟩, hfr, hqo, hsz2, hs⟩ := hrel
      have HBQ := Lib.hid hbq
      have HRO := Lib.hid hro
      have HFR := Lib.hid hfr
      have HQO := Lib.hid hqo
      have HK := Lib.hid hs
      clear hbq hro hfr hqo hs HBc HFc HQc HSc hszc hltp
      by_cases hlt : i < p.rows.length
      · obtain ⟨r, hr'⟩ : ∃ r, p.rows[i]? = some r := ⟨p.rows[i], List.getElem?_eq_getElem hlt⟩
        obtain ⟨g1, o1, C1, e1, C2, n2, e2, C3, n3, e3, rfl, hg, k0, k1, k2, k3, k4, HIS, HRA, HRB⟩ := RL.at5 (H3.out.below ER.stays HK.out.2) hr'
        have hra : r.a.length ≤ 1000000000 := by have := HLA.out r (List.mem_of_getElem? hr'); omega
        have HNX : Hid (rq.take (i + 1) = rq.take i ++ [cleanR r]) := by
          unfold Hid
          rw [List.take_add_one, HRQ.out, List.getElem?_map, hr']
          rfl
        have hrl : (rq.take i).length ≤ 1000000000 := by rw [List.length_take]; omega
        have HRL : Hid ((rq.take (i + 1)).length = i + 1) := by unfold Hid; rw [List.length_take, HRQ.out, List.length_map]; omega
        have m1 : (i : Int) < (p.rows.length : Int) := by omega
        have m3 : (i : Int).toNat = i := by omega
        have m4 : (0 : Int) ≤ (i : Int) := by omega
        obtain ⟨s, hs⟩ : ∃ s, s = r.s := ⟨_, rfl⟩
        rw [← hs] at k1
        have HSE := Lib.hid hs
        have hltq := HBQ.out.lt
        clear hr' hs
        go_wp2_with fail
        have HB1 := Lib.hid (below_new wr (.cells #[.slice C1 r.a.length e1, .int .i64 s, .bool r.b.neg, .slice C2 n2 e2, .slice C3 n3 e3] 65))
        have HKB1 := Lib.hid (Blk.new wr 65 #[.slice C1 r.a.length e1, .int .i64 s, .bool r.b.neg, .slice C2 n2 e2, .slice C3 n3 e3])
        obtain ⟨gr, hgr⟩ : ∃ gr, gr = wr.heap.size := ⟨_, rfl⟩
        rw [← hgr] at HKB1
        generalize wr.alloc (.cells #[.slice C1 r.a.length e1, .int .i64 s, .bool r.b.neg, .slice C2 n2 e2, .slice C3 n3 e3] 65) = W1 at *
        rw [← hgr]
        clear hgr k0 k1 k2 k3 k4
        have z0 := HKB1.out.cell (j := 0) rfl
        have z1 := HKB1.out.cell (j := 1) rfl
        have z2 := HKB1.out.cell (j := 2) rfl
        have z3 := HKB1.out.cell (j := 3) rfl
        have z4 := HKB1.out.cell (j := 4) rfl
        have hzl := HKB1.out.lt
        have HBQ1 := Lib.hid (HBQ.out.below HB1.out HBQ.out.lt)
        obtain ⟨i0, i1, i2, i3⟩ := HBQ1.out.c4
        have hltq1 := HBQ1.out.lt
        have hsz3 : w.heap.size ≤ W1.heap.size := by have := HB1.out.size; omega
        refine wp_chainF (l := [_, _, _, _, _, _, _, _, _, _, _, _, _, _, _]) (S := Below W1.heap.size W1) 12 [([0, 1, 2, 3, 5, 6, 7, 8], 4), ([], 9), ([10], 11)] [] (by kernel_rfl) (by kernel_rfl) (by kernel_rfl) rfl (Below.drew (Below.refl _ _)) ?_
        refine ⟨?_, _, ?_, rfl, ?_⟩
        rotate_left
        · repeat (refine ⟨_, ?_, rfl, Or.inl ⟨by rfl, ?_⟩, ?_⟩; rotate_left; focus (intro W hW; have hcW := (bcell hW).1; clear hW; go_simp; try with_reducible rfl); (try simp only [Act.put, List.getElem_toArray, List.getElem_cons_succ, List.getElem_cons_zero, List.setIfInBounds_toArray, List.set_cons_zero, List.set_cons_succ]))
          exact rfl
        have D0 : Hid (Below W1.heap.size W1 W1.drew) := Below.drew (Below.refl _ _)
        have F0 := Lib.hid (below_next HB1.out D0.out)
        go_wp2_with fail
        refine (rclean_calls _ _ r.a (HRA.out.below EF.stays F0.out) hra).mono ?_
        rintro e W2 ⟨v2, rfl, hq, hb⟩
        have hq' := hq.lower (base' := w.heap.size) (Nat.le_trans hsz3 D0.out.size)
        obtain ⟨C4, e4, hv2, _⟩ := hq'.slice
        rw [List.length_map] at hv2
        subst hv2
        have HQ2 := Lib.hid hq'
        have D2 := Lib.hid (below_next D0.out hb)
        have F2 := Lib.hid (below_next HB1.out D2.out)
        clear hq hq' hb
        go_wp2_with fail
        refine And.intro D2.out ⟨_, _, rfl, rfl, ?_⟩
        go_wp2_with fail
        refine (rfix_calls _ _ r.b (HRB.out.of_below F2.out)).mono ?_
        rintro e W3 ⟨v3, rfl, hv, hb⟩
        obtain ⟨C5, n5, e5, C6, n6, e6, rfl, HV3⟩ := hv.opened
        have HQ3 := Lib.hid (HQ2.out.below EFQ.stays hb)
        have D3 := Lib.hid (below_next D2.out hb)
        clear hv hb
        go_wp2_with fail
        refine And.intro D3.out ⟨?_, _, ?_, rfl, ?_⟩
        rotate_left
        · repeat (refine ⟨_, ?_, rfl, Or.inl ⟨by rfl, ?_⟩, ?_⟩; rotate_left; focus (intro W hW; have hcW := (bcell hW).1; clear hW; go_simp; try with_reducible rfl); (try simp only [Act.put, List.getElem_toArray, List.getElem_cons_succ, List.getElem_cons_zero, List.setIfInBounds_toArray, List.set_cons_zero, List.set_cons_succ]))
          exact rfl
        go_wp2_with fail
        have HL4 := Lib.hid (Blk.new W3 65 #[.slice C4 r.a.length e4, .int .i64 s, .bool (negQ (fixQ r.b)), .slice C5 n5 e5, .slice C6 n6 e6])
        have hbn := below_new W3 (.cells #[.slice C4 r.a.length e4, .int .i64 s, .bool (negQ (fixQ r.b)), .slice C5 n5 e5, .slice C6 n6 e6] 65)
        have D4 := Lib.hid (below_next D3.out hbn)
        have HQ4 := Lib.hid (HQ3.out.below EFQ.stays hbn)
        have HV4 := Lib.hid (HV3.out.of_below hbn)
        obtain ⟨gl, hgl⟩ : ∃ g, g = W3.heap.size := ⟨_, rfl⟩
        rw [← hgl] at HL4 ⊢
        generalize W3.alloc (.cells #[.slice C4 r.a.length e4, .int .i64 s, .bool (negQ (fixQ r.b)), .slice C5 n5 e5, .slice C6 n6 e6] 65) = W4 at *
        clear hgl hbn
        refine And.intro D4.out ⟨_, rfl, ?_⟩
        have F4 := Lib.hid (below_next HB1.out D4.out)
        have HBQ4 := Lib.hid (HBQ.out.below F4.out HBQ.out.lt)
        have HRO4 := Lib.hid (HRO.out.below ERO.stays F4.out)
        have HFR4 := Lib.hid (HFR.out.below F4.out)
        have HQO4 := Lib.hid (HQO.out.below EFQ.stays F4.out)
        have HK4 := Lib.hid (HK.out.step F4.out)
        have hbase4 : w.heap.size ≤ W4.heap.size := Nat.le_trans hsz3 D4.out.size
        have HER : Hid (ERO w.heap.size W4 #[.slice C4 r.a.length e4, .int .i64 s, .bool (negQ (fixQ r.b)), .slice C5 n5 e5, .slice C6 n6 e6] (cleanR r)) := ⟨_, _, _, _, _, _, _, by unfold cleanR; rw [HSE.out], HIS.out, HQ4.out, HV4.out⟩
        simp only [Act.put, List.getElem_toArray, List.getElem_cons_succ, List.getElem_cons_zero, List.setIfInBounds_toArray, List.set_cons_zero, List.set_cons_succ, List.drop_succ_cons, List.drop_zero]
        clear i0 i1 i2 i3 z0 z1 z2 z3 z4
        go_wp2_with (at_builtin; refine wpl_appendR5 rfl (.tmp 22) (.tmp 32) rfl (base := w.heap.size) (.slice A5 i c5) (rq.take i) rfl HRO4.out (cleanR r) rfl HL4.out HER.out hrl hbase4 ?_; intro v6 W6 hro6 hcg6 hw6 hob6; obtain ⟨A6, c6, hv6, _⟩ := hro6.slice; rw [← HNX.out] at hro6 hv6; rw [HRL.out] at hv6; subst hv6; have HRO6 := Lib.hid hro6; have HBQ6 := Lib.hid (HBQ4.out.chg hcg6 (by decide)); have HFR6 := Lib.hid (HFR4.out.chg hcg6 (by decide)); have HQO6 := Lib.hid (QO.chg HQO4.out hcg6 (by decide)); have HK6 := Lib.hid (HS.chg HK4.out hcg6 (by simp) rfl hw6); have hsz6 : w.heap.size + 2 ≤ W6.heap.size := (by have := hcg6.1.1; have := D4.out.size; have := HB1.out.size; omega); obtain ⟨i0, i1, i2, i3⟩ := HBQ6.out.c4; obtain ⟨f0, f1, f2, f3⟩ := HBQ6.out.f4; have hltq6 := HBQ6.out.lt; clear hro6 hcg6 hw6 hob6)
        refine NoPanic.normal ?_
        have hcp := chg_put1 (base := w.heap.size) (j := 3) HBQ6.out (by omega) prog_words (.slice A6 (i + 1) c6)
        have HX1 := Lib.hid (HBQ6.out.put 3 (.slice A6 (i + 1) c6))
        have HX2 := Lib.hid (RO.chg HRO6.out hcp (by decide) (by decide))
        have HX3 := Lib.hid (HFR6.out.chg hcp (by decide))
        have HX4 := Lib.hid (QO.chg HQO6.out hcp (by decide))
        have HX5 := Lib.hid (HK6.out.other1 (g := gq) (by omega) (by simp; omega) 3 (.slice A6 (i + 1) c6))
        have hsz7 : w.heap.size + 2 ≤ (W6.setCell ⟨gq, 3, none⟩ (.slice A6 (i + 1) c6)).heap.size := by have := hcp.1.1; omega
        clear hcp
        go_wp2_with fail
        go_roundw
        case rel => exact ⟨i + 1, by omega, by go_num, ⟨A6, c6, HX1.out, HX2.out⟩, HX3.out, HX4.out, hsz7, HX5.out⟩
        case measure => simp [intOf]; omega
      · obtain rfl : i = p.rows.length := by omega
        have hrt : rq.take p.rows.length = rq := List.take_of_length_le (by rw [HRQ.out, List.length_map]; exact Nat.le_refl _)
        rw [hrt] at HRO
        clear hrt
        obtain ⟨i0, i1, i2, i3⟩ := HBQ.out.c4
        have hltq := HBQ.out.lt
        obtain ⟨j0, j1, j2, j3⟩ := (HK.out.blk 0 rfl).c4
        obtain ⟨f0, f1, f2, f3⟩ := (HK.out.blk 0 rfl).f4
        have hlt0 := (HK.out.blk 0 rfl).lt
        go_wp2_with fail
        have hcg := chg_put4 (base := w.heap.size) (HK.out.blk 0 rfl) (by simp) prog_words (.int .i64 vars) (.slice A1 p.free.length c1) (.slice B2 p.goal.length d2) (.slice A5 p.rows.length c5)
        exact ret26 Try.results43 rfl ((HK.out.blk 0 rfl).put4 _ _ _ _) ⟨_, _, by unfold cleanQ; rw [HV.out], by show QO _ _ _ (p.goal.map fixQ); rw [← HQG.out]; exact QO.chg HQO.out hcg (by decide), by show RO _ _ _ (p.rows.map cleanR); rw [← HRQ.out]; exact RO.chg HRO.out hcg (by decide) (by decide), below_put4 HK.out.2 (by simp) _ _ _ _⟩
end Go.Proofs.Ytfhambfgjigneaa

/- Contracts of the Go functions that the statement reaches, and plain laws over them. -/
import Derived.OrdersHeld
import Derived.Tactics
import Derived.Deep.RegionHeld3
import Derived.Test.YtfhambfgjigneaaProg
import Derived.Below
import Derived.Deep.Draws
import Derived.Deep.AppendLies
import Derived.Deep.AppendSrc
import Derived.Deep.Upon
import Derived.Maps.AppendAt
import Derived.OwnWalk
import Derived.Laws.BytesArg
import Derived.Laws.MakeOwn
import Derived.Laws.OwnMore
import Derived.Deep.OwnRows
import Derived.Lib.ConvBytes
import Derived.Lib.Hide
import Derived.Laws.Slices
import Derived.WalkKit
import Derived.KernelRfl
import Derived.RowKit3
import Derived.Deep.LoopGhost
import Derived.Deep.QuietTactic
import Derived.BigQuiet
import Derived.WideLaws
import Derived.Deep.DeepCutAuto
import Derived.Deep.CutBlock
import Derived.Laws.Rows
import Derived.Lib.AppendStr
import Derived.ArgAppend
import Derived.Laws.IdiomCopy
import Derived.Laws.IdiomStrings
import Derived.Laws.BitsLemmas
import Derived.RowKit
import Derived.Outline
import Derived.Deep.MidRow
import Derived.StillTailTactics
set_option linter.unusedVariables false
set_option linter.unusedSimpArgs false
set_option maxHeartbeats 64000000
set_option maxRecDepth 100000
namespace Go.Proofs.Ytfhambfgjigneaa
open Go.RowKit
theorem Bd {B : Nat} {w : World} : Below B w w.drew := Below.drew (Below.refl _ _)
theorem dcf {p : Prop} [Decidable p] (h : ¬p := by omega) : decide p = false := decide_eq_false h
theorem dct {p : Prop} [Decidable p] (h : p := by omega) : decide p = true := decide_eq_true h
theorem u64w (n : Int) (h : 0 ≤ n ∧ n ≤ 18446744073709551615 := by omega) : IntKind.u64.wrap n = n := IntWalk.u64_in n h
theorem i64w (n : Int) (h : -9223372036854775808 ≤ n ∧ n ≤ 9223372036854775807 := by omega) : IntKind.i64.wrap n = n := IntWalk.i64_in n h
theorem u32w (n : Int) (h : 0 ≤ n ∧ n ≤ 4294967295 := by omega) : IntKind.u32.wrap n = n := IntWalk.u32_in n h
theorem geq {α : Type} {l : List α} {i : Nat} (h : i < l.length) : l[i]? = some l[i] := List.getElem?_eq_getElem h
theorem mog {α : Type} {l : List α} {i : Nat} {a : α} (h : l[i]? = some a) : a ∈ l := List.mem_of_getElem? h
theorem gdd {α : Type} {l : List α} {i : Nat} {a : α} : l.getD i a = l[i]?.getD a := List.getD_eq_getElem?_getD
theorem lap {α : Type} {l m : List α} : (l ++ m).length = l.length + m.length := List.length_append
theorem ltk {α : Type} {i : Nat} {l : List α} : (l.take i).length = min i l.length := List.length_take
theorem lmp {α β : Type} {l : List α} (f : α → β) : (l.map f).length = l.length := List.length_map f
theorem Hd {p : Prop} (h : p) : Hid p := h
theorem SQ : (∀ (a : Act) (v : Value) (d : Tmp), a.put (some d) v = { tmps := a.tmps.setIfInBounds d v, defers := a.defers }) ∧ (∀ (a : Act) (v : Value), a.put none v = a) ∧ (∀ {α : Type} {xs : List α} {i : Nat} (h : i < xs.toArray.size), xs.toArray[i]'h = xs[i]'(by simpa using h)) ∧ (∀ {α : Type} (a : α) (l : List α) (i : Nat) (h : i + 1 < (a :: l).length), (a :: l)[i + 1]'h = l[i]'(by simpa using h)) ∧ (∀ {α : Type} (a : α) (l : List α) (h : 0 < (a :: l).length), (a :: l)[0]'h = a) ∧ (∀ {α : Type} (l : List α) (i : Nat) (a : α), l.toArray.setIfInBounds i a = (l.set i a).toArray) ∧ (∀ {α : Type} {x : α} {xs : List α} {a : α}, (x :: xs).set 0 a = a :: xs) ∧ (∀ {α : Type} {x : α} {xs : List α} {i : Nat} {a : α}, (x :: xs).set (i + 1) a = x :: xs.set i a) :=
 ⟨fun _ _ _ => rfl, fun _ _ => rfl, fun _ => rfl, fun _ _ _ _ => rfl, fun _ _ _ => rfl, fun _ _ _ => List.setIfInBounds_toArray .., rfl, rfl⟩
open Go
def wpAnyT (P : Program) (md : Region.Mode) (ops : Array Oper) (Q : Exit → Act → World → Prop) (S : World → Prop) (L : Nat) : Nat → Array Bool → Act → World → Prop
 | 0, listed, a, w => Region.ready md ops listed = [] ∧ Q .normal a w
 | fuel + 1, listed, a, w =>
  (Region.ready md ops listed = [] → Q .normal a w) ∧
  ∀ i ∈ Region.ready md ops listed, wpOp P ops Q i (fun a' w' => (i ≠ L → S w') ∧ wpAnyT P md ops Q S L fuel (listed.setIfInBounds i true) a' w') a w
section
variable {P : Program} {ops : Array Oper} {Q : Exit → Act → World → Prop} {md : Region.Mode} {S : World → Prop} {L : Nat}
theorem wpAny_of_T : ∀ (fuel : Nat) (listed : Array Bool) (a : Act) (w : World), wpAnyT P md ops Q S L fuel listed a w → wpAny P md ops Q fuel listed a w
 | 0, _, _, _, h => h
 | fuel + 1, _, _, _, h => ⟨h.1, fun i hi => wpOp_mono (fun a' w' h' => wpAny_of_T fuel _ a' w' h'.2) (h.2 i hi)⟩
theorem sq65 (P : Prop) (h : P := by
 rcases Nat.lt_or_ge i listed.size with h' | h'
 ·simp [h'] at h0 h1; rw [h0] at h1; cases h1
 ·simp [Array.getElem?_eq_none h'] at h1) : P := h
theorem wpAnyT_first {i : Nat} {oi : Oper} {v : Value} (hi : ops[i]? = some oi) (hsel : ∀ (j : Nat) (o : Oper) cs b, ops[j]? = some o → o.op ≠ .select cs b)
  (hQ : ∀ c a w, Q (.panic c) (a.put oi.dst v) w → Q (.panic c) a w) (hwait : ∀ oL, ops[L]? = some oL → i ≠ L ∧ ∃ e ∈ oL.after, Region.binds md e = true ∧ e.on = i) :
  ∀ (fuel : Nat) (listed : Array Bool) (a : Act) (w : World),
   (∀ j oj, ops[j]? = some oj → j ≠ i → listed.getD j true = false → (∀ e ∈ oj.after, Region.binds md e = true → e.on ≠ i) → oi.apart ops oj = true) →
   i ∈ Region.ready md ops listed → YieldsIf P ops S oi v a → S w →
   wpAnyT P md ops Q S L fuel (listed.setIfInBounds i true) (a.put oi.dst v) w → wpAnyT P md ops Q S L (fuel + 1) listed a w := by
 intro fuel
 induction fuel with
 | zero =>
  intro listed a w _ hr hy hS H
  refine ⟨fun h => (by rw [h] at hr; cases hr), fun j hj => ?_⟩
  by_cases hji : j = i
  ·subst hji; exact hy.wpOp hi hS ⟨fun _ => hS, H⟩
  ·have := ready_mono hj hji
   rw [H.1] at this
   cases this
 | succ fuel ih =>
  intro listed a w hfree hr hy hS H
  refine ⟨fun h => (by rw [h] at hr; cases hr), fun j hj => ?_⟩
  by_cases hji : j = i
  ·subst hji; exact hy.wpOp hi hS ⟨fun _ => hS, H⟩
  ·have h1 := H.2 j (ready_mono hj hji)
   obtain ⟨hjun, oj, hoj, hall⟩ := mem_ready.1 hj
   have hnot : ∀ e ∈ oj.after, Region.binds md e = true → e.on ≠ i := fun e he hb heq => by
    have h1 := hall e he hb
    have h0 := (mem_ready.1 hr).1
    rw [heq] at h1
    exact sq65 _
   have hjL : j ≠ L := by
    rintro rfl
    obtain ⟨_, e, he, hb, hon⟩ := hwait oj hoj
    exact hnot e he hb hon
   have h2 := wpOp_putIf hoj (hfree j oj hoj hji hjun hnot) (fun cs b => hsel i oi cs b hi) (fun cs b => hsel j oj cs b hoj) hQ hy h1
   have hfree' : ∀ k ok, ops[k]? = some ok → k ≠ i → (listed.setIfInBounds j true).getD k true = false →
     (∀ e ∈ ok.after, Region.binds md e = true → e.on ≠ i) → oi.apart ops ok = true := fun k ok hk hki hun hno => by
    refine hfree k ok hk hki ?_ hno
    by_cases hjk : j = k
    ·subst hjk; exact hjun
    ·rw [getD_set_ne true hjk] at hun; exact hun
   refine wpOp_mono (fun a' w' h3 => ⟨h3.2.1, ih (listed.setIfInBounds j true) a' w' hfree' (ready_mono hr (Ne.symm hji)) h3.1 (h3.2.1 hjL) ?_⟩) h2
   rw [Array.setIfInBounds_comm _ _ hji]
   exact h3.2.2
def pureTo (P : Program) (ops : Array Oper) (S : World → Prop) : List Nat → Act → Act → Prop
 | [], a, A => a = A
 | i :: p, a, A => ∃ o v, ops[i]? = some o ∧ YieldsIf P ops S o v a ∧ pureTo P ops S p (a.put o.dst v) A
def chainQ (Q : Exit → Act → World → Prop) (K : Act → World → Prop) : Exit → Act → World → Prop
 | .normal, a, w => K a w
 | e, a, w => Q e a w
def chain (P : Program) (ops : Array Oper) (Q : Exit → Act → World → Prop) (S : World → Prop) : List (List Nat × Nat) → Act → World → Prop
 | [], a, w => Q .normal a w
 | [(p, c)], a, w => ∃ A o, pureTo P ops S p a A ∧ ops[c]? = some o ∧ wpList P ops Q [o] A w
 | (p, c) :: rest, a, w => ∃ A o, pureTo P ops S p a A ∧ ops[c]? = some o ∧ wpList P ops (chainQ Q fun a' w' => S w' ∧ chain P ops Q S rest a' w') [o] A w
def waitsOk (md : Region.Mode) (ops : Array Oper) (L i : Nat) : Bool := match ops[L]? with | none => true | some oL => (i != L) && (oL.after.any fun e => Region.binds md e && e.on == i)
def takesOk (md : Region.Mode) (ops : Array Oper) (L : Nat) : List Nat → Array Bool → Bool
 | [], _ => true
 | i :: p, listed => Region.free md ops listed i && (Region.ready md ops listed).contains i && waitsOk md ops L i && takesOk md ops L p (listed.setIfInBounds i true)
def marked (p : List Nat) (listed : Array Bool) : Array Bool := p.foldl (fun l i => l.setIfInBounds i true) listed
def chainOk (md : Region.Mode) (ops : Array Oper) (L : Nat) : List (List Nat × Nat) → Array Bool → Bool
 | [], listed => (Region.ready md ops listed).isEmpty
 | (p, c) :: rest, listed => takesOk md ops L p listed && (Region.ready md ops (marked p listed) == [c]) && (rest.isEmpty == (c == L)) && chainOk md ops L rest ((marked p listed).setIfInBounds c true)
def chainLen : List (List Nat × Nat) → Nat
 | [] => 0
 | (p, _) :: rest => p.length + 1 + chainLen rest
theorem takes_sound (hsel : ∀ (j : Nat) (o : Oper) cs b, ops[j]? = some o → o.op ≠ .select cs b) (hQ : ∀ c a d v w, Q (.panic c) (Act.put a d v) w → Q (.panic c) a w) :
  ∀ (p : List Nat) (listed : Array Bool) (a A : Act) (w : World) (fuel : Nat), takesOk md ops L p listed = true → pureTo P ops S p a A → S w → wpAnyT P md ops Q S L fuel (marked p listed) A w → wpAnyT P md ops Q S L (p.length + fuel) listed a w
 | [], listed, a, A, w, fuel, _, hp, _, h => by
  have e : a = A := hp
  subst e
  simpa [marked] using h
 | i :: p, listed, a, A, w, fuel, hc, ⟨o, v, hi, hy, hp⟩, hS, h => by
  simp only [takesOk, Bool.and_eq_true] at hc
  obtain ⟨⟨⟨hf, hr⟩, hw⟩, hc⟩ := hc
  have := takes_sound hsel hQ p (listed.setIfInBounds i true) (a.put o.dst v) A w fuel hc hp hS h
  rw [List.length_cons, show p.length + 1 + fuel = p.length + fuel + 1 by omega]
  refine wpAnyT_first hi hsel (fun c a w => hQ c a _ _ w) ?_ _ _ _ _ (Region.free_spec hi hf) (by simpa using hr) hy hS this
  intro oL hoL
  simp only [waitsOk, hoL, Bool.and_eq_true] at hw
  obtain ⟨e, he, hb⟩ := Array.any_eq_true'.1 hw.2
  simp only [Bool.and_eq_true, beq_iff_eq] at hb
  exact ⟨by simpa using hw.1, e, he, hb.1, hb.2⟩
theorem wp_of_chain {o : Oper} {K : Act → World → Prop} {a : Act} {w : World} (h : o.wp P a w (wpList P ops (chainQ Q K) []) (chainQ Q K)) : o.wp P a w K Q := by
 unfold Oper.wp at *
 generalize (execOp a.eval o).run P w = r at *
 cases r with
 | ok n w' =>
  cases n <;> simp only [Oper.upon] at h ⊢
  case value v => exact h
  case skip => exact h
  case defer d => exact h
  case enter f args =>
   refine Calls.mono h fun e w'' he => ?_
   cases e with
   | returned v => exact he
   | panicked c => exact he
   | outgrown => exact he
  case row row args => exact Rows.mono h fun v w'' he => he
 | halt x w' =>
  cases x <;> simp only [Oper.upon] at h ⊢
  case panic v => exact h
theorem wpOp_of_chain {o : Oper} {c : Nat} {K : Act → World → Prop} {a : Act} {w : World} (hc : ops[c]? = some o) (h : wpList P ops (chainQ Q K) [o] a w) : wpOp P ops Q c K a w := by
 unfold wpList at h
 unfold wpOp
 simp only [hc]
 split at h
 ·rename_i hw
  rw [if_pos hw]
  rcases h with h | h
  ·exact .inl (wp_of_chain h)
  ·exact .inr h
 ·rename_i hw
  rw [if_neg hw]
  exact h
theorem wpOp_of_list {o : Oper} {c : Nat} {K : Act → World → Prop} {a : Act} {w : World} (hc : ops[c]? = some o) (h : wpList P ops Q [o] a w) (hK : ∀ a w, Q .normal a w → K a w) : wpOp P ops Q c K a w := by
 unfold wpList at h
 unfold wpOp
 simp only [hc]
 split at h
 ·rename_i hw
  rw [if_pos hw]
  rcases h with h | h
  ·exact .inl (Oper.wp_mono hK h)
  ·exact .inr h
 ·rename_i hw
  rw [if_neg hw]
  exact hK _ _ h
theorem wpAnyT_done {listed : Array Bool} {a : Act} {w : World} (hr : Region.ready md ops listed = []) (h : Q .normal a w) : ∀ fuel, wpAnyT P md ops Q S L fuel listed a w
 | 0 => ⟨hr, h⟩
 | _ + 1 => ⟨fun _ => h, by rw [hr]; simp⟩
theorem wpAnyT_only {c : Nat} {fuel : Nat} {listed : Array Bool} {a : Act} {w : World} (hr : Region.ready md ops listed = [c])
  (h : wpOp P ops Q c (fun a' w' => (c ≠ L → S w') ∧ wpAnyT P md ops Q S L fuel (listed.setIfInBounds c true) a' w') a w) : wpAnyT P md ops Q S L (fuel + 1) listed a w :=
 ⟨fun h0 => (by rw [hr] at h0; cases h0), fun i hi => by
  rw [hr] at hi
  simp at hi
  subst hi
  exact h⟩
theorem chain_sound (hsel : ∀ (j : Nat) (o : Oper) cs b, ops[j]? = some o → o.op ≠ .select cs b) (hQ : ∀ c a d v w, Q (.panic c) (Act.put a d v) w → Q (.panic c) a w) :
  ∀ (ps : List (List Nat × Nat)) (listed : Array Bool) (a : Act) (w : World), chainOk md ops L ps listed = true → chain P ops Q S ps a w → S w → ∀ more, wpAnyT P md ops Q S L (chainLen ps + more) listed a w
 | [], listed, a, w, hc, h, _, more => wpAnyT_done (by simpa [chainOk] using hc) h _
 | [(p, c)], listed, a, w, hc, ⟨A, o, hp, ho, h⟩, hS, more => by
  simp only [chainOk, Bool.and_eq_true, beq_iff_eq, List.isEmpty_nil] at hc
  obtain ⟨⟨⟨ht, hr⟩, hl⟩, he⟩ := hc
  have hcL : c = L := by simpa using hl.symm
  have hd : Region.ready md ops ((marked p listed).setIfInBounds c true) = [] := by simpa using he
  rw [show chainLen [(p, c)] + more = p.length + (more + 1) by simp only [chainLen]; omega]
  refine takes_sound hsel hQ p listed a A w _ ht hp hS (wpAnyT_only hr (wpOp_of_list ho h fun a' w' hq => ⟨fun h => absurd hcL h, wpAnyT_done hd hq _⟩))
 | (p, c) :: r :: rest, listed, a, w, hc, ⟨A, o, hp, ho, h⟩, hS, more => by
  simp only [chainOk, Bool.and_eq_true, beq_iff_eq] at hc
  obtain ⟨⟨⟨ht, hr⟩, _⟩, he⟩ := hc
  rw [show chainLen ((p, c) :: r :: rest) + more = p.length + (chainLen (r :: rest) + more + 1) by simp only [chainLen]; omega]
  refine takes_sound hsel hQ p listed a A w _ ht hp hS (wpAnyT_only hr (wpOp_mono (fun a' w' hk => ⟨fun _ => hk.1, ?_⟩) (wpOp_of_chain ho h)))
  exact chain_sound hsel hQ (r :: rest) _ a' w' (by simpa only [chainOk, Bool.and_eq_true, beq_iff_eq] using he) hk.2 hk.1 more
theorem wp_chain {id : Nat} {a : Act} {w : World} (S : World → Prop) (L : Nat) (ps : List (List Nat × Nat)) (hm : P.follows .mixedOrders = true) (hs : Region.noSelect ops = true) (hc : chainOk .any ops L ps (Array.replicate ops.size false) = true)
  (hlen : chainLen ps = ops.size) (hS : S w.drew) (h : chain P ops (NoPanic Q) S ps a w.drew) : (Code.region id ops true).wp P Q a w := by
 have := chain_sound (md := .any) (Region.noSelect_spec hs) (fun _ _ _ _ _ h => h) ps (Array.replicate ops.size false) a w.drew hc h hS 0
 rw [Nat.add_zero, hlen] at this
 exact wp_region_noPanic (wp_region_any hm (wpAny_of_T _ _ _ _ this))
def chainS (P : Program) (ops : Array Oper) (Q : Exit → Act → World → Prop) (S : World → Prop) (tl : List Nat) : List (List Nat × Nat) → Act → World → Prop
 | [], a, w => ∃ A, pureTo P ops S tl a A ∧ Q .normal A w
 | (p, c) :: rest, a, w => ∃ A o, pureTo P ops S p a A ∧ ops[c]? = some o ∧ wpList P ops (chainQ Q fun a' w' => S w' ∧ chainS P ops Q S tl rest a' w') [o] A w
def chainSOk (md : Region.Mode) (ops : Array Oper) (tl : List Nat) : List (List Nat × Nat) → Array Bool → Bool
 | [], listed => takesOk md ops ops.size tl listed && (Region.ready md ops (marked tl listed)).isEmpty
 | (p, c) :: rest, listed => takesOk md ops ops.size p listed && (Region.ready md ops (marked p listed) == [c]) && chainSOk md ops tl rest ((marked p listed).setIfInBounds c true)
theorem chainS_sound (hsel : ∀ (j : Nat) (o : Oper) cs b, ops[j]? = some o → o.op ≠ .select cs b) (hQ : ∀ c a d v w, Q (.panic c) (Act.put a d v) w → Q (.panic c) a w) (tl : List Nat) :
  ∀ (ps : List (List Nat × Nat)) (listed : Array Bool) (a : Act) (w : World), chainSOk md ops tl ps listed = true → chainS P ops Q S tl ps a w → S w → ∀ more, wpAnyT P md ops Q S ops.size (chainLen ps + (tl.length + more)) listed a w
 | [], listed, a, w, hc, ⟨A, hp, h⟩, hS, more => by
  simp only [chainSOk, Bool.and_eq_true] at hc
  rw [show chainLen [] + (tl.length + more) = tl.length + more by simp only [chainLen]; omega]
  exact takes_sound hsel hQ tl listed a A w _ hc.1 hp hS (wpAnyT_done (by simpa using hc.2) h _)
 | (p, c) :: rest, listed, a, w, hc, ⟨A, o, hp, ho, h⟩, hS, more => by
  simp only [chainSOk, Bool.and_eq_true, beq_iff_eq] at hc
  obtain ⟨⟨ht, hr⟩, he⟩ := hc
  rw [show chainLen ((p, c) :: rest) + (tl.length + more) = p.length + (chainLen rest + (tl.length + more) + 1) by simp only [chainLen]; omega]
  refine takes_sound hsel hQ p listed a A w _ ht hp hS (wpAnyT_only hr (wpOp_mono (fun a' w' hk => ⟨fun _ => hk.1, ?_⟩) (wpOp_of_chain ho h)))
  exact chainS_sound hsel hQ tl rest _ a' w' he hk.2 hk.1 more
theorem wp_chainS {id : Nat} {a : Act} {w : World} (S : World → Prop) (ps : List (List Nat × Nat)) (tl : List Nat) (hm : P.follows .mixedOrders = true) (hs : Region.noSelect ops = true) (hc : chainSOk .any ops tl ps (Array.replicate ops.size false) = true)
  (hlen : chainLen ps + tl.length = ops.size) (hS : S w.drew) (h : chainS P ops (NoPanic Q) S tl ps a w.drew) : (Code.region id ops true).wp P Q a w := by
 have := chainS_sound (md := .any) (Region.noSelect_spec hs) (fun _ _ _ _ _ h => h) tl ps (Array.replicate ops.size false) a w.drew hc h hS 0
 rw [Nat.add_zero, hlen] at this
 exact wp_region_noPanic (wp_region_any hm (wpAny_of_T _ _ _ _ this))
end
section
variable {P : Program} {ops : Array Oper} {S : World → Prop} {i : Nat} {p : List Nat} {a A : Act}
/-- An operation that only reads: its value is found by the walk. -/
theorem pu {o : Oper} {v : Value} (h : pureTo P ops S p (a.put o.dst v) A) (h0 : ops[i]? = some o := by rfl) (hg : Region.wanted o (yielded ops a.tmps) = true := by rfl) (hv : ∀ W, S W → (execOp a.eval o).run P W = .ok (.value v) W := by intro W hW; (first | replace hW := (bcell hW).1 | unfold SameT at hW); go_simp; try with_reducible rfl) : pureTo P ops S (i :: p) a A := ⟨o, v, h0, Or.inl ⟨hg, hv⟩, h⟩
theorem pn {o : Oper} (h : pureTo P ops S p (a.put o.dst undef) A) (h0 : ops[i]? = some o := by rfl) (hg : Region.wanted o (yielded ops a.tmps) = false := by kernel_rfl) : pureTo P ops S (i :: p) a A := ⟨o, undef, h0, Or.inr ⟨hg, rfl⟩, h⟩
end
open Go
def wpAnyF (P : Program) (md : Region.Mode) (ops : Array Oper) (Q : Exit → Act → World → Prop) (S : World → Prop) (L : Nat) : Nat → Array Bool → Act → World → Prop
 | 0, listed, a, w => Region.ready md ops listed = [] ∧ Q .normal a w
 | fuel + 1, listed, a, w =>
  (Region.ready md ops listed = [] → Q .normal a w) ∧
  ∀ i ∈ Region.ready md ops listed, wpOp P ops Q i (fun a' w' => (i < L → S w') ∧ wpAnyF P md ops Q S L fuel (listed.setIfInBounds i true) a' w') a w
section
variable {P : Program} {ops : Array Oper} {Q : Exit → Act → World → Prop} {md : Region.Mode} {S : World → Prop} {L : Nat}
theorem wpAny_of_F : ∀ (fuel : Nat) (listed : Array Bool) (a : Act) (w : World), wpAnyF P md ops Q S L fuel listed a w → wpAny P md ops Q fuel listed a w
 | 0, _, _, _, h => h
 | fuel + 1, _, _, _, h => ⟨h.1, fun i hi => wpOp_mono (fun a' w' h' => wpAny_of_F fuel _ a' w' h'.2) (h.2 i hi)⟩
def Closed (md : Region.Mode) (ops : Array Oper) (listed : Array Bool) : Prop := ∀ m om, ops[m]? = some om → listed.getD m false = true → ∀ e ∈ om.after, Region.binds md e = true → listed.getD e.on false = true
def depF (md : Region.Mode) (ops : Array Oper) (i : Nat) : Nat → Nat → Bool
 | 0, _ => false
 | n + 1, k => ((ops[k]?).map (·.after.any fun e => Region.binds md e && (e.on == i || depF md ops i n e.on))).getD false
theorem depF_listed {i : Nat} {listed : Array Bool} (hcl : Closed md ops listed) : ∀ (n k : Nat), depF md ops i n k = true → (∀ ok, ops[k]? = some ok → ∀ e ∈ ok.after, Region.binds md e = true → listed.getD e.on false = true) → listed.getD i false = true
 | 0, k, h, _ => by simp [depF] at h
 | n + 1, k, h, hk => by
  unfold depF at h
  cases hok : ops[k]? with
  | none => rw [hok] at h; simp at h
  | some ok =>
   rw [hok] at h
   simp only [Option.map_some, Option.getD_some] at h
   obtain ⟨e, he, hb⟩ := Array.any_eq_true'.1 h
   simp only [Bool.and_eq_true, Bool.or_eq_true, beq_iff_eq] at hb
   have hl := hk ok hok e he hb.1
   rcases hb.2 with h1 | h1
   ·rw [← h1]; exact hl
   ·exact depF_listed hcl n e.on h1 fun om hom => hcl _ om hom hl
theorem Closed.step {listed : Array Bool} {j : Nat} (hcl : Closed md ops listed) (hj : j ∈ Region.ready md ops listed) : Closed md ops (listed.setIfInBounds j true) := fun m om hom hm e he hb => by
 by_cases hmj : m = j
 ·subst hmj
  obtain ⟨_, o, ho, hall⟩ := mem_ready.1 hj
  rw [hom] at ho
  injection ho with ho
  subst ho
  exact getD_set_true (hall e he hb)
 ·rw [getD_set_ne false (Ne.symm hmj)] at hm
  exact getD_set_true (hcl m om hom hm e he hb)
theorem Closed.start (n : Nat) : Closed md ops (Array.replicate n false) := fun m om _ hm => by
 have h0 : (Array.replicate n false).getD m false = false := by
  rw [Array.getD_eq_getD_getElem?, Array.getElem?_replicate]
  split <;> rfl
 rw [h0] at hm
 cases hm
theorem wpAnyF_first {i : Nat} {oi : Oper} {v : Value} (hi : ops[i]? = some oi) (hsel : ∀ (j : Nat) (o : Oper) cs b, ops[j]? = some o → o.op ≠ .select cs b)
  (hQ : ∀ c a w, Q (.panic c) (a.put oi.dst v) w → Q (.panic c) a w) (hwait : ∀ k ok, L ≤ k → ops[k]? = some ok → depF md ops i ops.size k = true) :
  ∀ (fuel : Nat) (listed : Array Bool) (a : Act) (w : World),
   (∀ j oj, ops[j]? = some oj → j ≠ i → listed.getD j true = false → (∀ e ∈ oj.after, Region.binds md e = true → e.on ≠ i) → oi.apart ops oj = true) →
   i ∈ Region.ready md ops listed → Closed md ops listed → YieldsIf P ops S oi v a → S w →
   wpAnyF P md ops Q S L fuel (listed.setIfInBounds i true) (a.put oi.dst v) w → wpAnyF P md ops Q S L (fuel + 1) listed a w := by
 intro fuel
 induction fuel with
 | zero =>
  intro listed a w _ hr hcl hy hS H
  refine ⟨fun h => (by rw [h] at hr; cases hr), fun j hj => ?_⟩
  by_cases hji : j = i
  ·subst hji; exact hy.wpOp hi hS ⟨fun _ => hS, H⟩
  ·have := ready_mono hj hji
   rw [H.1] at this
   cases this
 | succ fuel ih =>
  intro listed a w hfree hr hcl hy hS H
  refine ⟨fun h => (by rw [h] at hr; cases hr), fun j hj => ?_⟩
  by_cases hji : j = i
  ·subst hji; exact hy.wpOp hi hS ⟨fun _ => hS, H⟩
  ·have h1 := H.2 j (ready_mono hj hji)
   obtain ⟨hjun, oj, hoj, hall⟩ := mem_ready.1 hj
   have hnot : ∀ e ∈ oj.after, Region.binds md e = true → e.on ≠ i := fun e he hb heq => by
    have h1 := hall e he hb
    have h0 := (mem_ready.1 hr).1
    rw [heq] at h1
    exact sq65 _
   have hjL : j < L := by
    rcases Nat.lt_or_ge j L with h | h
    ·exact h
    ·have h1 := depF_listed hcl _ _ (hwait j oj h hoj) fun ok hok => by
      rw [hoj] at hok
      injection hok with hok
      subst hok
      exact hall
     have h0 := (mem_ready.1 hr).1
     exact sq65 _
   have h2 := wpOp_putIf hoj (hfree j oj hoj hji hjun hnot) (fun cs b => hsel i oi cs b hi) (fun cs b => hsel j oj cs b hoj) hQ hy h1
   have hfree' : ∀ k ok, ops[k]? = some ok → k ≠ i → (listed.setIfInBounds j true).getD k true = false →
     (∀ e ∈ ok.after, Region.binds md e = true → e.on ≠ i) → oi.apart ops ok = true := fun k ok hk hki hun hno => by
    refine hfree k ok hk hki ?_ hno
    by_cases hjk : j = k
    ·subst hjk; exact hjun
    ·rw [getD_set_ne true hjk] at hun; exact hun
   refine wpOp_mono (fun a' w' h3 => ⟨h3.2.1, ih (listed.setIfInBounds j true) a' w' hfree' (ready_mono hr (Ne.symm hji)) (hcl.step hj) h3.1 (h3.2.1 hjL) ?_⟩) h2
   rw [Array.setIfInBounds_comm _ _ hji]
   exact h3.2.2
def waitsF (md : Region.Mode) (ops : Array Oper) (L i : Nat) : Bool := (List.range ops.size).all fun k => k < L || depF md ops i ops.size k
theorem waitsF_spec {i : Nat} (h : waitsF md ops L i = true) : ∀ k ok, L ≤ k → ops[k]? = some ok → depF md ops i ops.size k = true := fun k ok hk hok => by
 have hlt : k < ops.size := (Array.getElem?_eq_some_iff.1 hok).1
 have := List.all_eq_true.1 h k (List.mem_range.2 hlt)
 simp only [Bool.or_eq_true, decide_eq_true_eq] at this
 rcases this with h1 | h1
 ·omega
 ·exact h1
def takesF (md : Region.Mode) (ops : Array Oper) (L : Nat) : List Nat → Array Bool → Bool
 | [], _ => true
 | i :: p, listed => Region.free md ops listed i && (Region.ready md ops listed).contains i && waitsF md ops L i && takesF md ops L p (listed.setIfInBounds i true)
theorem takesF_sound (hsel : ∀ (j : Nat) (o : Oper) cs b, ops[j]? = some o → o.op ≠ .select cs b) (hQ : ∀ c a d v w, Q (.panic c) (Act.put a d v) w → Q (.panic c) a w) :
  ∀ (p : List Nat) (listed : Array Bool) (a A : Act) (w : World) (fuel : Nat), takesF md ops L p listed = true → Closed md ops listed → pureTo P ops S p a A → S w → (Closed md ops (marked p listed) → wpAnyF P md ops Q S L fuel (marked p listed) A w) → wpAnyF P md ops Q S L (p.length + fuel) listed a w
 | [], listed, a, A, w, fuel, _, hcl, hp, _, h => by
  have e : a = A := hp
  subst e
  simpa [marked] using h hcl
 | i :: p, listed, a, A, w, fuel, hc, hcl, ⟨o, v, hi, hy, hp⟩, hS, h => by
  simp only [takesF, Bool.and_eq_true] at hc
  obtain ⟨⟨⟨hf, hr⟩, hw⟩, hc⟩ := hc
  have := takesF_sound hsel hQ p (listed.setIfInBounds i true) (a.put o.dst v) A w fuel hc (hcl.step (by simpa using hr)) hp hS h
  rw [List.length_cons, show p.length + 1 + fuel = p.length + fuel + 1 by omega]
  exact wpAnyF_first hi hsel (fun c a w => hQ c a _ _ w) (waitsF_spec hw) _ _ _ _ (Region.free_spec hi hf) (by simpa using hr) hcl hy hS this
theorem wpAnyF_done {listed : Array Bool} {a : Act} {w : World} (hr : Region.ready md ops listed = []) (h : Q .normal a w) : ∀ fuel, wpAnyF P md ops Q S L fuel listed a w
 | 0 => ⟨hr, h⟩
 | _ + 1 => ⟨fun _ => h, by rw [hr]; simp⟩
theorem wpAnyF_only {c : Nat} {fuel : Nat} {listed : Array Bool} {a : Act} {w : World} (hr : Region.ready md ops listed = [c])
  (h : wpOp P ops Q c (fun a' w' => (c < L → S w') ∧ wpAnyF P md ops Q S L fuel (listed.setIfInBounds c true) a' w') a w) : wpAnyF P md ops Q S L (fuel + 1) listed a w :=
 ⟨fun h0 => (by rw [hr] at h0; cases h0), fun i hi => by
  rw [hr] at hi
  simp at hi
  subst hi
  exact h⟩
def chainF (P : Program) (ops : Array Oper) (Q : Exit → Act → World → Prop) (S : World → Prop) (p0 : List Nat) (os : List Oper) : List (List Nat × Nat) → Act → World → Prop
 | [], a, w => ∃ A, pureTo P ops S p0 a A ∧ wpList P ops Q os A w
 | (p, c) :: rest, a, w => ∃ A o, pureTo P ops S p a A ∧ ops[c]? = some o ∧ wpList P ops (chainQ Q fun a' w' => S w' ∧ chainF P ops Q S p0 os rest a' w') [o] A w
def freeF (md : Region.Mode) (ops : Array Oper) : Nat → Nat → Array Bool → Bool
 | 0, _, listed => (Region.ready md ops listed).isEmpty
 | k + 1, L, listed => (Region.ready md ops listed == [L]) && freeF md ops k (L + 1) (listed.setIfInBounds L true)
def chainFOk (md : Region.Mode) (ops : Array Oper) (L : Nat) (p0 : List Nat) : List (List Nat × Nat) → Array Bool → Bool
 | [], listed => takesF md ops L p0 listed && freeF md ops (ops.size - L) L (marked p0 listed)
 | (p, c) :: rest, listed => takesF md ops L p listed && (Region.ready md ops (marked p listed) == [c]) && chainFOk md ops L p0 rest ((marked p listed).setIfInBounds c true)
theorem wpOp_list {o : Oper} {c : Nat} {K : Act → World → Prop} {a : Act} {w : World} {r : List Oper} (hc : ops[c]? = some o) (h : wpList P ops Q (o :: r) a w) (hK : ∀ a w, wpList P ops Q r a w → K a w) : wpOp P ops Q c K a w := by
 unfold wpList at h
 unfold wpOp
 simp only [hc]
 split at h
 ·rename_i hw
  rw [if_pos hw]
  rcases h with h | h
  ·exact .inl (Oper.wp_mono hK h)
  ·exact .inr h
 ·rename_i hw
  rw [if_neg hw]
  exact hK _ _ h
theorem freeF_sound : ∀ (k l : Nat) (os : List Oper) (listed : Array Bool) (a : Act) (w : World), L ≤ l → freeF md ops k l listed = true → os.length = k → (∀ j, os[j]? = ops[l + j]? ∨ k ≤ j) → wpList P ops Q os a w → ∀ more, wpAnyF P md ops Q S L (k + more) listed a w
 | 0, l, os, listed, a, w, _, hc, hl, _, h, more => by
  obtain rfl : os = [] := List.eq_nil_of_length_eq_zero hl
  exact wpAnyF_done (by simpa [freeF] using hc) h _
 | k + 1, l, os, listed, a, w, hL, hc, hl, ho, h, more => by
  match os, hl with
  | o :: r, hl =>
   simp only [freeF, Bool.and_eq_true, beq_iff_eq] at hc
   have h0 : ops[l]? = some o := by
    rcases ho 0 with h | h
    ·simpa using h.symm
    ·omega
   rw [show k + 1 + more = k + more + 1 by omega]
   refine wpAnyF_only hc.1 (wpOp_list h0 h fun a' w' h' => ⟨fun h => absurd h (by omega), ?_⟩)
   exact freeF_sound k (l + 1) r _ a' w' (by omega) hc.2 (by simpa using hl) (fun j => by
    rcases ho (j + 1) with h | h
    ·left
     rw [show l + 1 + j = l + (j + 1) by omega, ← h]
     simp
    ·right; omega) h' more
theorem sq53 (P : Prop) (h : P := by
 refine takesF_sound hsel hQ p0 listed a A w _ hc.1 hcl hp hS (fun _ => freeF_sound _ L os _ A w (Nat.le_refl _) hc.2 (by rw [hos]; simp) (fun j => ?_) h more)
 left
 rw [hos, List.getElem?_drop]
 simp) : P := h
theorem chainF_sound (hsel : ∀ (j : Nat) (o : Oper) cs b, ops[j]? = some o → o.op ≠ .select cs b) (hQ : ∀ c a d v w, Q (.panic c) (Act.put a d v) w → Q (.panic c) a w) (p0 : List Nat) (os : List Oper) (hos : os = ops.toList.drop L) :
  ∀ (ps : List (List Nat × Nat)) (listed : Array Bool) (a : Act) (w : World), chainFOk md ops L p0 ps listed = true → Closed md ops listed → chainF P ops Q S p0 os ps a w → S w → ∀ more, wpAnyF P md ops Q S L (chainLen ps + (p0.length + (ops.size - L) + more)) listed a w
 | [], listed, a, w, hc, hcl, ⟨A, hp, h⟩, hS, more => by
  simp only [chainFOk, Bool.and_eq_true] at hc
  rw [show chainLen [] + (p0.length + (ops.size - L) + more) = p0.length + (ops.size - L + more) by simp only [chainLen]; omega]
  exact sq53 _
 | (p, c) :: rest, listed, a, w, hc, hcl, ⟨A, o, hp, ho, h⟩, hS, more => by
  simp only [chainFOk, Bool.and_eq_true, beq_iff_eq] at hc
  obtain ⟨⟨ht, hr⟩, he⟩ := hc
  rw [show chainLen ((p, c) :: rest) + (p0.length + (ops.size - L) + more) = p.length + (chainLen rest + (p0.length + (ops.size - L) + more) + 1) by simp only [chainLen]; omega]
  refine takesF_sound hsel hQ p listed a A w _ ht hcl hp hS (fun hcl' => wpAnyF_only hr (wpOp_mono (fun a' w' hk => ⟨fun _ => hk.1, ?_⟩) (wpOp_of_chain ho h)))
  exact chainF_sound hsel hQ p0 os hos rest _ a' w' he (hcl'.step (by rw [hr]; simp)) hk.2 hk.1 more
theorem wp_chainF {id : Nat} {a : Act} {w : World} {l : List Oper} (S : World → Prop) (L : Nat) (ps : List (List Nat × Nat)) (p0 : List Nat) (hm : P.follows .mixedOrders = true) (hs : Region.noSelect l.toArray = true) (hc : chainFOk .any l.toArray L p0 ps (Array.replicate l.toArray.size false) = true)
  (hlen : chainLen ps + (p0.length + (l.toArray.size - L)) = l.toArray.size) (hS : S w.drew) (h : chainF P l.toArray (NoPanic Q) S p0 (l.drop L) ps a w.drew) : (Code.region id l.toArray true).wp P Q a w := by
 have := chainF_sound (md := .any) (L := L) (Region.noSelect_spec hs) (fun _ _ _ _ _ h => h) p0 (l.drop L) (by simp) ps (Array.replicate l.toArray.size false) a w.drew hc (Closed.start _) h hS 0
 rw [Nat.add_zero, hlen] at this
 exact wp_region_noPanic (wp_region_any hm (wpAny_of_F _ _ _ _ this))
end
open Go
inductive CT where
 | fin (p0 : List Nat)
 | one (p : List Nat) (c : Nat) (t : CT)
 | two (p : List Nat) (c1 : Nat) (t1 : CT) (c2 : Nat) (t2 : CT)
section
variable {P : Program} {ops : Array Oper} {Q : Exit → Act → World → Prop} {md : Region.Mode} {S : World → Prop} {L : Nat}
def CT.len : CT → Nat
 | .fin p0 => p0.length
 | .one p _ t => p.length + 1 + t.len
 | .two p _ t1 _ _ => p.length + 1 + t1.len
def treeF (P : Program) (ops : Array Oper) (Q : Exit → Act → World → Prop) (S : World → Prop) (os : List Oper) : CT → Act → World → Prop
 | .fin p0, a, w => ∃ A, pureTo P ops S p0 a A ∧ wpList P ops Q os A w
 | .one p c t, a, w => ∃ A o, pureTo P ops S p a A ∧ ops[c]? = some o ∧ wpList P ops (chainQ Q fun a' w' => S w' ∧ treeF P ops Q S os t a' w') [o] A w
 | .two p c1 t1 c2 t2, a, w => ∃ A o1 o2, pureTo P ops S p a A ∧ ops[c1]? = some o1 ∧ ops[c2]? = some o2 ∧ wpList P ops (chainQ Q fun a' w' => S w' ∧ treeF P ops Q S os t1 a' w') [o1] A w ∧ wpList P ops (chainQ Q fun a' w' => S w' ∧ treeF P ops Q S os t2 a' w') [o2] A w
def treeOk (md : Region.Mode) (ops : Array Oper) (L : Nat) : CT → Array Bool → Bool
 | .fin p0, listed => takesF md ops L p0 listed && freeF md ops (ops.size - L) L (marked p0 listed)
 | .one p c t, listed => takesF md ops L p listed && (Region.ready md ops (marked p listed) == [c]) && treeOk md ops L t ((marked p listed).setIfInBounds c true)
 | .two p c1 t1 c2 t2, listed => takesF md ops L p listed && (Region.ready md ops (marked p listed) == [c1, c2]) && treeOk md ops L t1 ((marked p listed).setIfInBounds c1 true) && treeOk md ops L t2 ((marked p listed).setIfInBounds c2 true) && (t1.len == t2.len)
theorem wpAnyF_two {c1 c2 : Nat} {fuel : Nat} {listed : Array Bool} {a : Act} {w : World} (hr : Region.ready md ops listed = [c1, c2])
  (h1 : wpOp P ops Q c1 (fun a' w' => (c1 < L → S w') ∧ wpAnyF P md ops Q S L fuel (listed.setIfInBounds c1 true) a' w') a w)
  (h2 : wpOp P ops Q c2 (fun a' w' => (c2 < L → S w') ∧ wpAnyF P md ops Q S L fuel (listed.setIfInBounds c2 true) a' w') a w) : wpAnyF P md ops Q S L (fuel + 1) listed a w :=
 ⟨fun h0 => (by rw [hr] at h0; cases h0), fun i hi => by
  rw [hr] at hi
  simp at hi
  rcases hi with rfl | rfl
  ·exact h1
  ·exact h2⟩
theorem tree_sound (hsel : ∀ (j : Nat) (o : Oper) cs b, ops[j]? = some o → o.op ≠ .select cs b) (hQ : ∀ c a d v w, Q (.panic c) (Act.put a d v) w → Q (.panic c) a w) (os : List Oper) (hos : os = ops.toList.drop L) :
  ∀ (t : CT) (listed : Array Bool) (a : Act) (w : World), treeOk md ops L t listed = true → Closed md ops listed → treeF P ops Q S os t a w → S w → ∀ more, wpAnyF P md ops Q S L (t.len + (ops.size - L) + more) listed a w
 | .fin p0, listed, a, w, hc, hcl, ⟨A, hp, h⟩, hS, more => by
  simp only [treeOk, Bool.and_eq_true] at hc
  rw [show (CT.fin p0).len + (ops.size - L) + more = p0.length + (ops.size - L + more) by simp only [CT.len]; omega]
  exact sq53 _
 | .one p c t, listed, a, w, hc, hcl, ⟨A, o, hp, ho, h⟩, hS, more => by
  simp only [treeOk, Bool.and_eq_true, beq_iff_eq] at hc
  obtain ⟨⟨ht, hr⟩, he⟩ := hc
  rw [show (CT.one p c t).len + (ops.size - L) + more = p.length + (t.len + (ops.size - L) + more + 1) by simp only [CT.len]; omega]
  refine takesF_sound hsel hQ p listed a A w _ ht hcl hp hS (fun hcl' => wpAnyF_only hr (wpOp_mono (fun a' w' hk => ⟨fun _ => hk.1, ?_⟩) (wpOp_of_chain ho h)))
  exact tree_sound hsel hQ os hos t _ a' w' he (hcl'.step (by rw [hr]; simp)) hk.2 hk.1 more
 | .two p c1 t1 c2 t2, listed, a, w, hc, hcl, ⟨A, o1, o2, hp, ho1, ho2, h1, h2⟩, hS, more => by
  simp only [treeOk, Bool.and_eq_true, beq_iff_eq] at hc
  obtain ⟨⟨⟨⟨ht, hr⟩, he1⟩, he2⟩, hl⟩ := hc
  rw [show (CT.two p c1 t1 c2 t2).len + (ops.size - L) + more = p.length + (t1.len + (ops.size - L) + more + 1) by simp only [CT.len]; omega]
  refine takesF_sound hsel hQ p listed a A w _ ht hcl hp hS (fun hcl' => wpAnyF_two hr (wpOp_mono (fun a' w' hk => ⟨fun _ => hk.1, ?_⟩) (wpOp_of_chain ho1 h1)) (wpOp_mono (fun a' w' hk => ⟨fun _ => hk.1, ?_⟩) (wpOp_of_chain ho2 h2)))
  ·exact tree_sound hsel hQ os hos t1 _ a' w' he1 (hcl'.step (by rw [hr]; simp)) hk.2 hk.1 more
  ·rw [hl]
   exact tree_sound hsel hQ os hos t2 _ a' w' he2 (hcl'.step (by rw [hr]; simp)) hk.2 hk.1 more
theorem wp_tree {id : Nat} {a : Act} {w : World} {l : List Oper} (S : World → Prop) (L : Nat) (t : CT) (hm : P.follows .mixedOrders = true) (hs : Region.noSelect l.toArray = true) (hc : treeOk .any l.toArray L t (Array.replicate l.toArray.size false) = true)
  (hlen : t.len + (l.toArray.size - L) = l.toArray.size) (hS : S w.drew) (h : treeF P l.toArray (NoPanic Q) S (l.drop L) t a w.drew) : (Code.region id l.toArray true).wp P Q a w := by
 have := tree_sound (md := .any) (L := L) (Region.noSelect_spec hs) (fun _ _ _ _ _ h => h) (l.drop L) (by simp) t (Array.replicate l.toArray.size false) a w.drew hc (Closed.start _) h hS 0
 rw [Nat.add_zero, hlen] at this
 exact wp_region_noPanic (wp_region_any hm (wpAny_of_F _ _ _ _ this))
end
def nums (k : IntKind) (xs : List Int) : List Value := xs.map fun x => .int k x
theorem nums_length (k : IntKind) (xs : List Int) : (nums k xs).length = xs.length := by simp [nums]
theorem nums_append (k : IntKind) (xs ys : List Int) : nums k (xs ++ ys) = nums k xs ++ nums k ys := by simp [nums]
theorem grown_of_below {w w1 : World} (h : Below w.heap.size w w1) (row : Option Nat) : w.grownBy w1 row := ⟨h.os, h.tape, h.output, h.size, fun i hi _ => h.block i hi⟩
def Arr (k : IntKind) (w : World) (B e : Nat) (ws : List Int) : Prop := w.heap[B]? = some (.cells (nums k ws).toArray e (0, 0))
theorem Arr.lt {k : IntKind} {w : World} {B e : Nat} {ws : List Int} (h : Arr k w B e ws) : B < w.heap.size := (Array.getElem?_eq_some_iff.1 h).1
theorem Arr.cell {k : IntKind} {w : World} {B e : Nat} {ws : List Int} (h : Arr k w B e ws) (i : Nat) (hi : i < ws.length) : w.cell? ⟨B, i, none⟩ = some (.int k (ws.getD i 0)) := by
 simp only [World.cell?]
 rw [show w.heap[B]? = some (.cells (nums k ws).toArray e (0, 0)) from h]
 simp [nums, geq hi, gdd]
theorem Arr.frozen {k : IntKind} {w : World} {B e : Nat} {ws : List Int} (h : Arr k w B e ws) (i : Nat) : w.frozen? ⟨B, i, none⟩ = false := by
 simp only [World.frozen?]
 rw [show w.heap[B]? = some (.cells (nums k ws).toArray e (0, 0)) from h]
 simp
theorem Arr.set {k : IntKind} {w : World} {B e : Nat} {ws : List Int} (h : Arr k w B e ws) (i : Nat) (v : Int) : Arr k (w.setCell ⟨B, i, none⟩ (.int k v)) B e (ws.set i v) := by
 show (w.setCell ⟨B, i, none⟩ (.int k v)).heap[B]? = _
 simp only [World.setCell, Array.getElem?_modify, if_true]
 rw [show w.heap[B]? = some (.cells (nums k ws).toArray e (0, 0)) from h]
 simp [nums, List.map_set]
theorem Arr.other {k : IntKind} {w : World} {B e : Nat} {ws : List Int} (h : Arr k w B e ws) {a : Addr} (ha : B ≠ a.block) (u : Value) : Arr k (w.setCell a u) B e ws :=
 (Below.heap_setCell w a u B ha).trans h
theorem Arr.drewN {k : IntKind} {w : World} {B e : Nat} {ws : List Int} (h : Arr k w B e ws) (n : Nat) : Arr k (w.drewN n) B e ws := h
theorem Arr.grown {k : IntKind} {w w1 : World} {B e : Nat} {ws : List Int} (h : Arr k w B e ws) {row : Option Nat} (hg : w.grownBy w1 row) (hr : some B ≠ row) : Arr k w1 B e ws :=
 (hg.block B h.lt hr).trans h
theorem Arr.below {k : IntKind} {w w1 : World} {B e N : Nat} {ws : List Int} (h : Arr k w B e ws) (hb : Below N w w1) (hr : B < N) : Arr k w1 B e ws :=
 (hb.block B hr).trans h
theorem gb_refl (w : World) (row : Option Nat) : w.grownBy w row := ⟨rfl, rfl, rfl, Nat.le_refl _, fun _ _ _ => rfl⟩
theorem gb_drew {w w1 : World} {row : Option Nat} (h : w.grownBy w1 row) : w.grownBy w1.drew row := ⟨h.os, h.tape, h.output, h.size, h.block⟩
theorem gb_drewN {w w1 : World} {row : Option Nat} (h : w.grownBy w1 row) (n : Nat) : w.grownBy (w1.drewN n) row := ⟨h.os, h.tape, h.output, h.size, h.block⟩
theorem gb_alloc {w w1 : World} {row : Option Nat} (h : w.grownBy w1 row) (o : Obj) : w.grownBy (w1.alloc o) row :=
 ⟨h.os, h.tape, h.output, by have := h.size; simp; omega, fun k hk hr => (Below.heap_alloc w1 o k (by have := h.size; omega)).trans (h.block k hk hr)⟩
theorem gb_set {w w1 : World} {row : Option Nat} (h : w.grownBy w1 row) {a : Addr} (ha : w.heap.size ≤ a.block ∨ some a.block = row) (u : Value) : w.grownBy (w1.setCell a u) row :=
 ⟨h.os, h.tape, h.output, by have := h.size; simp [World.setCell]; omega, fun k hk hr => (Below.heap_setCell w1 a u k (by
  rintro rfl
  rcases ha with ha | ha
  ·omega
  ·exact hr ha)).trans (h.block k hk hr)⟩
theorem gb_trans {w w1 w2 : World} {row : Option Nat} (h : w.grownBy w1 row) (h2 : w1.grownBy w2 row) : w.grownBy w2 row :=
 ⟨h2.os.trans h.os, h2.tape.trans h.tape, h2.output.trans h.output, Nat.le_trans h.size h2.size, fun k hk hr => (h2.block k (by have := h.size; omega) hr).trans (h.block k hk hr)⟩
theorem gb_below {w w1 w2 : World} {row : Option Nat} (h : w.grownBy w1 row) (h2 : Below w1.heap.size w1 w2) : w.grownBy w2 row :=
 gb_trans h (grown_of_below h2 row)
theorem gb_none {w w1 : World} {row : Option Nat} (h : w.grownBy w1 none) : w.grownBy w1 row := ⟨h.os, h.tape, h.output, h.size, fun k hk _ => h.block k hk (by simp)⟩
theorem gb_to_below {w w1 : World} (h : w.grownBy w1 none) : Below w.heap.size w w1 := ⟨h.os, h.tape, h.output, h.size, fun k hk => h.block k hk (by simp)⟩
theorem gb_row {w w1 w2 : World} {row : Option Nat} {B : Nat} (h : w.grownBy w1 row) (h2 : w1.grownBy w2 (some B)) (hB : w.heap.size ≤ B) : w.grownBy w2 row :=
 ⟨h2.os.trans h.os, h2.tape.trans h.tape, h2.output.trans h.output, Nat.le_trans h.size h2.size, fun k hk hr => (h2.block k (by have := h.size; omega) (by intro e; injection e with e; omega)).trans (h.block k hk hr)⟩
def nth (ws : List Int) (i : Nat) : Int := ws.getD i 0
theorem nums_at (k : IntKind) (xs : List Int) (j : Nat) (h : j < xs.length) : (nums k xs)[j]? = some (.int k (nth xs j)) := by
 simp [nums, nth, geq h, gdd]
theorem nth_append_left {xs ys : List Int} {j : Nat} (h : j < xs.length) : nth (xs ++ ys) j = nth xs j := by
 simp [nth, gdd, List.getElem?_append_left h]
theorem nth_append_right {xs ys : List Int} {j : Nat} (h : xs.length ≤ j) : nth (xs ++ ys) j = nth ys (j - xs.length) := by
 simp [nth, gdd, List.getElem?_append_right h]
theorem setCells_same' (g : Nat) : ∀ (vs : List Value) (o : Nat) (w : World), (w.setCells g o vs).os = w.os ∧ (w.setCells g o vs).tape = w.tape ∧ (w.setCells g o vs).output = w.output ∧ (w.setCells g o vs).heap.size = w.heap.size
 | [], _, _ => ⟨rfl, rfl, rfl, rfl⟩
 | v :: r, o, w => by
  obtain ⟨h1, h2, h3, h4⟩ := setCells_same' g r (o + 1) (w.setCell ⟨g, o, none⟩ v)
  rw [World.setCells]
  exact ⟨h1, h2, h3, by rw [h4]; simp [World.setCell]⟩
theorem isSome_setCells' (g : Nat) : ∀ (vs : List Value) (o : Nat) (w : World) (a : Addr), (w.cell? a).isSome = true → ((w.setCells g o vs).cell? a).isSome = true
 | [], _, _, _, h => h
 | v :: r, o, w, a, h => by
  rw [World.setCells]
  refine isSome_setCells' g r (o + 1) _ a ?_
  obtain ⟨x, hx⟩ := Option.isSome_iff_exists.1 h
  obtain ⟨v', hv'⟩ := cell?_setCell_some (w := w) (p := ⟨g, o, none⟩) (x := v) (q := a) (v := x) hx
  rw [hv']
  rfl
theorem add_zero' (g j : Nat) : (⟨g, 0, none⟩ : Addr).add j = ⟨g, j, none⟩ := by unfold Addr.add; split <;> simp_all
theorem add_at' (g o j : Nat) : (⟨g, o, none⟩ : Addr).add j = ⟨g, o + j, none⟩ := by unfold Addr.add; split <;> simp_all
def OwnC (k : IntKind) (base : Nat) (w : World) (v : Value) (xs : List Int) : Prop :=
 (v = .slice none 0 0 ∧ xs = []) ∨ ∃ g cap, v = .slice (some ⟨g, 0, none⟩) xs.length cap ∧ base ≤ g ∧ g < w.heap.size ∧ xs.length ≤ cap ∧ cap ≤ maxLen ∧
  (∀ j, j < xs.length → w.cell? ⟨g, j, none⟩ = some (.int k (nth xs j))) ∧ (∀ j, j < cap → (w.cell? ⟨g, j, none⟩).isSome = true ∧ w.frozen? ⟨g, j, none⟩ = false)
theorem OwnC.nil (k : IntKind) (base : Nat) (w : World) : OwnC k base w (.slice none 0 0) [] := .inl ⟨rfl, rfl⟩
theorem OwnC.move {k : IntKind} {base : Nat} {w w1 : World} {v : Value} {xs : List Int} (h : OwnC k base w v xs) (hsz : w.heap.size ≤ w1.heap.size) (hb : ∀ g, v.ownBlock = some g → w1.heap[g]? = w.heap[g]?) : OwnC k base w1 v xs := by
 rcases h with h | ⟨g, cap, rfl, h1, h2, h3, h4, h5, h6⟩
 ·exact .inl h
 ·have e := hb g (by simp [Value.ownBlock])
  refine .inr ⟨g, cap, rfl, h1, by omega, h3, h4, fun j hj => ?_, fun j hj => ?_⟩
  ·rw [World.cell?_of_block (a := ⟨g, j, none⟩) e]; exact h5 j hj
  ·rw [World.cell?_of_block (a := ⟨g, j, none⟩) e, World.frozen?_of_block (a := ⟨g, j, none⟩) e]; exact h6 j hj
theorem OwnC.lt {k : IntKind} {base : Nat} {w : World} {v : Value} {xs : List Int} (h : OwnC k base w v xs) : ∀ g, v.ownBlock = some g → base ≤ g ∧ g < w.heap.size := by
 rcases h with ⟨rfl, _⟩ | ⟨g, cap, rfl, h1, h2, _⟩
 ·simp [Value.ownBlock]
 ·intro g' hg
  simp [Value.ownBlock] at hg
  subst hg
  exact ⟨h1, h2⟩
theorem OwnC.grown {k : IntKind} {base : Nat} {w w1 : World} {v : Value} {xs : List Int} (h : OwnC k base w v xs) {row : Option Nat} (hg : w.grownBy w1 row) (hne : ∀ g, v.ownBlock = some g → some g ≠ row) : OwnC k base w1 v xs :=
 h.move hg.size fun g hb => hg.block g (h.lt g hb).2 (hne g hb)
theorem OwnC.alloc {k : IntKind} {base : Nat} {w : World} {v : Value} {xs : List Int} (h : OwnC k base w v xs) (o : Obj) : OwnC k base (w.alloc o) v xs :=
 h.grown (gb_alloc (gb_refl w none) o) (by simp)
theorem OwnC.slice {k : IntKind} {base : Nat} {w : World} {v : Value} {xs : List Int} (h : OwnC k base w v xs) : ∃ A c, v = .slice A xs.length c := by
 rcases h with ⟨rfl, rfl⟩ | ⟨g, cap, rfl, _⟩
 ·exact ⟨none, 0, rfl⟩
 ·exact ⟨_, _, rfl⟩
theorem src_nums {P : Program} {tx e' : TypeId} (hk : P.underlying tx = some (.slice e')) {k : IntKind} (a : Addr) (c : Nat) (ys : List Int) (w : World) (h : ∀ j, j < ys.length → w.cell? (a.add j) = some (.int k (nth ys j))) :
  Src P 1 tx (.slice (some a) ys.length c) ys.length (nums k ys) w :=
 Src.ofSlice w hk a ys.length c (nums k ys) (by simp [nums]) (fun j u hu => by
  have hj : j < ys.length := by
   have := (List.getElem?_eq_some_iff.1 hu).1
   simpa [nums] using this
  rw [nums_at k ys j hj] at hu
  rw [h j hj, hu]) (fun u hu => by
  obtain ⟨_, _, rfl⟩ := List.mem_map.1 hu
  rfl)
section
variable {P : Program}
theorem OwnC.append {k : IntKind} {base : Nat} {w : World} {v : Value} {xs : List Int} (h : OwnC k base w v xs) (t tx ty e : TypeId) (bytes : Nat) (ht : P.underlying t = some (.slice e))
  (hinfo : (P.info? e).map (fun i => (i.zero, i.size, i.bytes)) = some (some (.int k 0), 1, bytes)) (x : Value) (ys : List Int) (hs : Src P 1 tx x ys.length (nums k ys) w)
  (hbytes : (xs.length + ys.length) * bytes ≤ 140737488355328) (hmax : xs.length + ys.length ≤ 140737488355328) (hbase : base ≤ w.heap.size) :
  ∃ v' w', (Builtin.append_ #[t, tx] ty #[v, x]).run P w = .ok v' w' ∧ OwnC k base w' v' (xs ++ ys) ∧ w.grownBy w' v.ownBlock ∧ (∀ g, v'.ownBlock = some g → v.ownBlock = some g ∨ w.heap.size ≤ g) := by
 obtain ⟨i, hi, hzz⟩ := Option.map_eq_some_iff.1 hinfo
 simp only [Prod.mk.injEq] at hzz
 obtain ⟨hz, hsz, hby⟩ := hzz
 subst hby
 rw [← hsz] at hs
 have one : (nums k ys).length = ys.length := nums_length k ys
 have grow : ∀ (A : Option Addr) (cap : Nat), v = .slice A xs.length cap → cap < xs.length + ys.length → (Builtin.firstCells i.size xs.length (.slice A xs.length cap)).run P w.drew = .ok (nums k xs).toArray w.drew →
   ∃ v' w', (Builtin.append_ #[t, tx] ty #[v, x]).run P w = .ok v' w' ∧ OwnC k base w' v' (xs ++ ys) ∧ w.grownBy w' v.ownBlock ∧ (∀ g, v'.ownBlock = some g → v.ownBlock = some g ∨ w.heap.size ≤ g) := by
  rintro A cap rfl hc hold
  have hr := run_append_grow_src (P := P) w t tx ty e i _ ht hi hz A xs.length cap (nums k xs) hold x ys.length (nums k ys) hs hc (by omega) (growslice_fits hc hbytes)
  refine ⟨_, _, hr, .inr ⟨w.heap.size, _, by rw [lap], hbase, by simp, by rw [lap]; exact grownCap_ge _ _ _ _, grownCap_le_maxLen _ _ _ _ (by simp only [maxLen]; omega), ?_, ?_⟩, ⟨rfl, rfl, rfl, by simp, fun j hj _ => Below.heap_alloc w.drew _ j hj⟩, fun g hg => .inr (by simp [Value.ownBlock] at hg; omega)⟩
  ·intro j hj
   rw [lap] at hj
   refine (World.cell?_alloc_mark w.drew _ e (0, 0) j).trans ?_
   rw [← nums_append, Array.getElem?_append_left (by simp [nums]; omega)]
   rw [List.getElem?_toArray]
   exact nums_at k (xs ++ ys) j (by rw [lap]; exact hj)
  ·intro j hj
   have hz1 : (Value.cells (Value.int k 0)).size = 1 := rfl
   have hge := grownCap_ge w (xs.length + ys.length) cap e
   constructor
   ·refine (congrArg Option.isSome (World.cell?_alloc_mark w.drew _ e (0, 0) j)).trans ?_
    rw [Array.getElem?_eq_getElem (by simp only [Array.size_append, List.size_toArray, lap, nums_length, size_zeroCells, hz1]; omega)]
    rfl
   ·show World.frozen? (w.drew.alloc _) ⟨w.drew.heap.size, j, none⟩ = false
    simp only [World.frozen?]
    rw [heap_alloc_new]
    simp
 rcases h with ⟨rfl, rfl⟩ | ⟨g, cap, rfl, h1, h2, h3, h4, h5, h6⟩
 ·by_cases h0 : ys.length = 0
  ·have hy : ys = [] := List.eq_nil_of_length_eq_zero h0
   subst hy
   refine ⟨.slice none 0 0, w, ?_, .inl ⟨rfl, rfl⟩, gb_refl _ _, fun g hg => by simp [Value.ownBlock] at hg⟩
   exact run_append_nothing w t tx ty e i ht hi none 0 0 (Nat.le_refl _) x hs
  ·exact grow none 0 rfl (by simp; omega) (by simp [Builtin.firstCells, nums])
 ·by_cases hroom : xs.length + ys.length ≤ cap
  ·have hr := run_append_room_src (P := P) w t tx ty e i ht hi g 0 xs.length cap x ys.length (nums k ys) hs hroom (fun j hj => by rw [hsz]; exact (h6 _ (by rw [one] at hj; omega)).1) (fun j hj => by rw [hsz]; exact (h6 _ (by rw [one] at hj; omega)).2)
   rw [hsz] at hr
   simp only [Nat.mul_one, Nat.zero_add] at hr
   have hot : ∀ q, q < w.heap.size → q ≠ g → (w.setCells g xs.length (nums k ys)).heap[q]? = w.heap[q]? := fun q hq hne => (World.keptBut_setCells g (may := fun p => p.block = g) (nums k ys) xs.length w (fun _ _ => rfl)).block hq (fun _ hp e => hne (e.symm.trans hp))
   have hkb := World.keptBut_setCells g (may := fun _ => True) (nums k ys) xs.length w (fun _ _ => trivial)
   have hsm := setCells_same' g (nums k ys) xs.length w
   refine ⟨_, _, hr, .inr ⟨g, cap, by rw [lap], h1, by rw [hsm.2.2.2]; exact h2, by rw [lap]; exact hroom, h4, ?_, ?_⟩, ⟨hsm.1, hsm.2.1, hsm.2.2.1, by rw [hsm.2.2.2]; exact Nat.le_refl _, fun q hq hne => hot q hq (fun e => hne (by simp [Value.ownBlock, e]))⟩, fun q hq => .inl hq⟩
   ·intro j hj
    rw [lap] at hj
    by_cases hjx : j < xs.length
    ·rw [World.cell?_setCells_out g (nums k ys) xs.length w ⟨g, j, none⟩ (fun _ _ => .inl hjx), h5 j hjx, nth_append_left hjx]
    ·obtain ⟨q, rfl⟩ : ∃ q, j = xs.length + q := ⟨j - xs.length, by omega⟩
     have hq : q < (nums k ys).length := by rw [one]; omega
     rw [World.cell?_setCells_in g (nums k ys) xs.length w (fun q' hq' => (h6 _ (by rw [one] at hq'; omega)).1) q hq]
     rw [nth_append_right (by omega), show xs.length + q - xs.length = q by omega]
     have := nums_at k ys q (by rw [one] at hq; exact hq)
     rw [geq hq] at this
     rw [← this]
   ·intro j hj
    refine ⟨?_, by rw [World.frozen?_setCells]; exact (h6 j hj).2⟩
    exact isSome_setCells' g (nums k ys) xs.length w _ (h6 j hj).1
  ·refine grow (some ⟨g, 0, none⟩) cap rfl (by omega) ?_
   refine run_firstCells_some (P := P) w.drew i.size xs.length ⟨g, 0, none⟩ xs.length cap (nums k xs) (by rw [hsz]; simp [nums]) (fun j u hu => ?_)
   have hj : j < xs.length := by
    have := (List.getElem?_eq_some_iff.1 hu).1
    simpa [nums] using this
   rw [nums_at k xs j hj] at hu
   rw [add_zero', ← hu]
   exact h5 j hj
end
def valN : List Nat → Nat
 | [] => 0
 | x :: xs => x + 4294967296 * valN xs
def Wd (xs : List Nat) : Prop := ∀ x ∈ xs, x < 4294967296
def dgF : Nat → Nat → List Nat
 | 0, _ => []
 | F + 1, n => if n = 0 then [] else n % 4294967296 :: dgF F (n / 4294967296)
def dg (n : Nat) : List Nat := dgF n n
theorem dgF_more : ∀ (F G n : Nat), n ≤ F → n ≤ G → dgF F n = dgF G n
 | 0, 0, n, _, _ => rfl
 | 0, G + 1, n, h, _ => by
  obtain rfl : n = 0 := by omega
  simp [dgF]
 | F + 1, 0, n, _, h => by
  obtain rfl : n = 0 := by omega
  simp [dgF]
 | F + 1, G + 1, n, h, h' => by
  rw [dgF, dgF]
  by_cases h0 : n = 0
  ·rw [if_pos h0, if_pos h0]
  ·rw [if_neg h0, if_neg h0, dgF_more F G _ (by omega) (by omega)]
theorem dg_zero : dg 0 = [] := rfl
theorem dg_pos {n : Nat} (h : n ≠ 0) : dg n = n % 4294967296 :: dg (n / 4294967296) := by
 unfold dg
 obtain ⟨m, rfl⟩ : ∃ m, n = m + 1 := ⟨n - 1, by omega⟩
 rw [show dgF (m + 1) (m + 1) = _ from by rw [dgF, if_neg h]]
 rw [dgF_more m ((m + 1) / 4294967296) _ (by omega) (by omega)]
theorem valN_dg : ∀ n, valN (dg n) = n := by
 intro n
 induction n using Nat.strongRecOn with
 | ind n ih =>
  by_cases h0 : n = 0
  ·subst h0
   rfl
  ·rw [dg_pos h0, valN, ih _ (by omega)]
   omega
theorem Wd_dg : ∀ n, Wd (dg n) := by
 intro n
 induction n using Nat.strongRecOn with
 | ind n ih =>
  by_cases h0 : n = 0
  ·subst h0
   intro x hx
   cases hx
  ·rw [dg_pos h0]
   intro x hx
   rcases List.mem_cons.1 hx with rfl | hx
   ·omega
   ·exact ih _ (by omega) x hx
theorem dg_canon : ∀ (xs : List Nat), Wd xs → (∀ h : xs ≠ [], xs.getLast h ≠ 0) → xs = dg (valN xs)
 | [], _, _ => rfl
 | x :: xs, hw, hl => by
  have hx : x < 4294967296 := hw x (by simp)
  have hw' : Wd xs := fun y hy => hw y (by simp [hy])
  have ih := dg_canon xs hw' (fun h => by
   have := hl (by simp)
   rwa [List.getLast_cons h] at this)
  have hne : valN (x :: xs) ≠ 0 := by
   rw [valN]
   intro h
   by_cases hxs : xs = []
   ·subst hxs
    have := hl (by simp)
    simp at this
    omega
   ·have h1 : valN xs = 0 := by omega
    rw [h1] at ih
    exact hxs ih
  rw [dg_pos hne, valN]
  rw [show (x + 4294967296 * valN xs) % 4294967296 = x by omega, show (x + 4294967296 * valN xs) / 4294967296 = valN xs by omega, ← ih]
theorem dg_last (n : Nat) (h : dg n ≠ []) : (dg n).getLast h ≠ 0 := by
 induction n using Nat.strongRecOn with
 | ind n ih =>
  by_cases h0 : n = 0
  ·subst h0
   exact absurd rfl h
  ·simp only [dg_pos h0]
   by_cases hd : dg (n / 4294967296) = []
   ·simp only [hd, List.getLast_singleton]
    have := valN_dg (n / 4294967296)
    rw [hd] at this
    simp [valN] at this
    omega
   ·rw [List.getLast_cons hd]
    exact ih _ (by omega) hd
theorem valN_append : ∀ (xs ys : List Nat), valN (xs ++ ys) = valN xs + 4294967296 ^ xs.length * valN ys
 | [], ys => by simp [valN]
 | x :: xs, ys => by
  simp only [List.cons_append, valN, valN_append xs ys, List.length_cons, Nat.pow_succ]
  grind
theorem valN_lt : ∀ (xs : List Nat), Wd xs → valN xs < 4294967296 ^ xs.length
 | [], _ => by simp [valN]
 | x :: xs, h => by
  have h1 := h x (by simp)
  have h2 := valN_lt xs (fun y hy => h y (by simp [hy]))
  simp only [valN, List.length_cons, Nat.pow_succ]
  omega
def nat (xs : List Nat) (j : Nat) : Nat := xs.getD j 0
def wlen (n : Nat) : Nat := (dg n).length
theorem nat_lt {xs : List Nat} (h : Wd xs) (j : Nat) : nat xs j < 4294967296 := by
 unfold nat
 rw [gdd]
 by_cases hj : j < xs.length
 ·rw [geq hj]
  exact h _ (List.getElem_mem hj)
 ·rw [List.getElem?_eq_none (by omega)]
  simp
theorem Wd.append {xs ys : List Nat} (h : Wd xs) (h2 : Wd ys) : Wd (xs ++ ys) := fun x hx => by
 rcases List.mem_append.1 hx with hx | hx
 ·exact h x hx
 ·exact h2 x hx
theorem Wd.snoc {xs : List Nat} (h : Wd xs) {y : Nat} (hy : y < 4294967296) : Wd (xs ++ [y]) := h.append (fun x hx => by simp at hx; omega)
theorem Wd.take {xs : List Nat} (h : Wd xs) (n : Nat) : Wd (xs.take n) := fun x hx => h x (List.mem_of_mem_take hx)
theorem Wd.drop {xs : List Nat} (h : Wd xs) (n : Nat) : Wd (xs.drop n) := fun x hx => h x (List.mem_of_mem_drop hx)
theorem Wd.left {xs ys : List Nat} (h : Wd (xs ++ ys)) : Wd xs := fun x hx => h x (List.mem_append_left _ hx)
theorem Wd.right {xs ys : List Nat} (h : Wd (xs ++ ys)) : Wd ys := fun x hx => h x (List.mem_append_right _ hx)
theorem Wd_zeros (n : Nat) : Wd (List.replicate n 0) := fun x hx => by have := List.eq_of_mem_replicate hx; omega
theorem valN_zeros : ∀ n, valN (List.replicate n 0) = 0
 | 0 => rfl
 | n + 1 => by rw [List.replicate_succ, valN, valN_zeros n]
theorem nat_append_left {xs ys : List Nat} {j : Nat} (h : j < xs.length) : nat (xs ++ ys) j = nat xs j := by
 simp [nat, gdd, List.getElem?_append_left h]
theorem nat_append_right {xs ys : List Nat} {j : Nat} (h : xs.length ≤ j) : nat (xs ++ ys) j = nat ys (j - xs.length) := by
 simp [nat, gdd, List.getElem?_append_right h]
theorem nat_take {xs : List Nat} {n j : Nat} (h : j < n) : nat (xs.take n) j = nat xs j := by
 simp [nat, gdd, List.getElem?_take, h]
theorem nat_drop (xs : List Nat) (n j : Nat) : nat (xs.drop n) j = nat xs (n + j) := by
 simp [nat, gdd]
theorem take_succ_nat (xs : List Nat) (j : Nat) (h : j < xs.length) : xs.take (j + 1) = xs.take j ++ [nat xs j] := by
 rw [List.take_add_one, geq h]
 simp [nat, gdd, geq h]
theorem drop_nat (xs : List Nat) (j : Nat) (h : j < xs.length) : xs.drop j = nat xs j :: xs.drop (j + 1) := by
 rw [List.drop_eq_getElem_cons h]
 simp [nat, gdd, geq h]
theorem valN_snoc (xs : List Nat) (y : Nat) : valN (xs ++ [y]) = valN xs + 4294967296 ^ xs.length * y := by
 rw [valN_append]
 simp [valN]
theorem valN_take_succ (xs : List Nat) (j : Nat) (h : j < xs.length) : valN (xs.take (j + 1)) = valN (xs.take j) + 4294967296 ^ j * nat xs j := by
 rw [take_succ_nat xs j h, valN_snoc, ltk, Nat.min_eq_left (by omega)]
theorem valN_drop (xs : List Nat) (j : Nat) (h : j < xs.length) : valN (xs.drop j) = nat xs j + 4294967296 * valN (xs.drop (j + 1)) := by
 rw [drop_nat xs j h, valN]
theorem valN_split (xs : List Nat) (j : Nat) (h : j ≤ xs.length) : valN xs = valN (xs.take j) + 4294967296 ^ j * valN (xs.drop j) := by
 conv => lhs; rw [← List.take_append_drop j xs]
 rw [valN_append, ltk, Nat.min_eq_left h]
theorem set_pass (d s : List Nat) (i x : Nat) (hd : d.length = i) (hi : i < s.length) : (d ++ s.drop i).set i x = (d ++ [x]) ++ s.drop (i + 1) := by
 subst hd
 rw [drop_nat s _ hi]
 simp
theorem nat_pass (d s : List Nat) (i : Nat) (hd : d.length = i) : nat (d ++ s.drop i) i = nat s i := by
 subst hd
 rw [nat_append_right (Nat.le_refl _), nat_drop]
 simp
theorem dg_len_le {n k : Nat} (h : n < 4294967296 ^ k) : (dg n).length ≤ k := by
 induction k generalizing n with
 | zero =>
  obtain rfl : n = 0 := by simp at h; omega
  simp [dg_zero]
 | succ k ih =>
  by_cases h0 : n = 0
  ·subst h0; simp [dg_zero]
  ·rw [dg_pos h0, List.length_cons]
   have := ih (n := n / 4294967296) (by rw [Nat.pow_succ] at h; omega)
   omega
theorem lt_dg_len (n : Nat) : n < 4294967296 ^ (dg n).length := by
 have := valN_lt _ (Wd_dg n)
 rwa [valN_dg] at this
theorem wlen_mono {m n : Nat} (h : m ≤ n) : wlen m ≤ wlen n := dg_len_le (Nat.lt_of_le_of_lt h (lt_dg_len n))
theorem wlen_mul (m n : Nat) : wlen (m * n) ≤ wlen m + wlen n := by
 refine dg_len_le ?_
 rw [Nat.pow_add]
 have h1 := lt_dg_len m
 have h2 := lt_dg_len n
 exact Nat.mul_lt_mul_of_lt_of_le h1 (Nat.le_of_lt h2) (Nat.pow_pos (by decide))
theorem wlen_add (m n : Nat) : wlen (m + n) ≤ max (wlen m) (wlen n) + 1 := by
 refine dg_len_le ?_
 rw [Nat.pow_succ]
 have h1 := lt_dg_len m
 have h2 := lt_dg_len n
 have h3 : 4294967296 ^ (dg m).length ≤ 4294967296 ^ max (wlen m) (wlen n) := Nat.pow_le_pow_right (by omega) (Nat.le_max_left _ _)
 have h4 : 4294967296 ^ (dg n).length ≤ 4294967296 ^ max (wlen m) (wlen n) := Nat.pow_le_pow_right (by omega) (Nat.le_max_right _ _)
 omega
theorem wlen_zero : wlen 0 = 0 := rfl
theorem wlen_pos {n : Nat} : 0 < wlen n ↔ n ≠ 0 := by
 constructor
 ·rintro h rfl
  simp [wlen_zero] at h
 ·intro h
  unfold wlen
  rw [dg_pos h]
  simp
theorem dg_nil {n : Nat} : dg n = [] ↔ n = 0 := by
 constructor
 ·intro h
  have := valN_dg n
  rw [h] at this
  exact this.symm
 ·rintro rfl; rfl
theorem dg_inj {m n : Nat} (h : dg m = dg n) : m = n := by rw [← valN_dg m, h, valN_dg]
theorem canon_take {xs : List Nat} (hw : Wd xs) {n : Nat} (hn : n ≤ xs.length) (hz : ∀ j, n ≤ j → j < xs.length → nat xs j = 0) (hl : n = 0 ∨ nat xs (n - 1) ≠ 0) : xs.take n = dg (valN xs) := by
 have h1 : valN (xs.drop n) = 0 := by
  have : xs.drop n = List.replicate (xs.drop n).length 0 := by
   refine List.eq_replicate_iff.2 ⟨rfl, fun x hx => ?_⟩
   obtain ⟨i, hi, rfl⟩ := List.mem_iff_getElem.1 hx
   rw [List.length_drop] at hi
   have := hz (n + i) (by omega) (by omega)
   simp only [nat, gdd, geq (show n + i < xs.length by omega), Option.getD_some] at this
   simpa using this
  rw [this, valN_zeros]
 rw [valN_split xs n hn, h1, Nat.mul_zero, Nat.add_zero]
 refine dg_canon _ (hw.take n) fun h => ?_
 have hlen : (xs.take n).length = n := by rw [ltk, Nat.min_eq_left hn]
 have hpos : 0 < n := by
  rcases Nat.eq_zero_or_pos n with rfl | h'
  ·simp at h
  ·exact h'
 rw [List.getLast_eq_getElem]
 rcases hl with hl | hl
 ·omega
 ·simp only [nat, gdd, geq (show n - 1 < xs.length by omega), Option.getD_some] at hl
  simpa [hlen] using hl
theorem dg_top (n : Nat) (h : n ≠ 0) : nat (dg n) ((dg n).length - 1) ≠ 0 := by
 have hne : dg n ≠ [] := fun e => h (dg_nil.1 e)
 have := dg_last n hne
 rw [List.getLast_eq_getElem] at this
 simpa [nat, gdd, geq (show (dg n).length - 1 < (dg n).length by have := List.length_pos_iff.2 hne; omega)] using this
theorem canon {xs : List Nat} (hw : Wd xs) (h : xs.length = 0 ∨ nat xs (xs.length - 1) ≠ 0) : xs = dg (valN xs) := by
 have := canon_take hw (Nat.le_refl _) (fun j h1 h2 => by omega) h
 rwa [List.take_length] at this
def ints (xs : List Nat) : List Int := xs.map fun x : Nat => (x : Int)
theorem ints_length (xs : List Nat) : (ints xs).length = xs.length := by simp [ints]
theorem ints_append (xs ys : List Nat) : ints (xs ++ ys) = ints xs ++ ints ys := by simp [ints]
theorem ints_set (xs : List Nat) (i x : Nat) : (ints xs).set i (x : Int) = ints (xs.set i x) := by simp [ints, List.map_set]
theorem nth_ints (xs : List Nat) (j : Nat) : nth (ints xs) j = (nat xs j : Int) := by
 unfold nth nat ints
 rw [gdd, gdd, List.getElem?_map]
 cases xs[j]? <;> rfl
def Rd (w : World) (v : Value) (xs : List Nat) : Prop :=
 Wd xs ∧ ∃ A c, v = .slice A xs.length c ∧ xs.length ≤ c ∧ (0 < xs.length → ∃ g o, A = some ⟨g, o, none⟩ ∧ g < w.heap.size ∧ ∀ j, j < xs.length → w.cell? ⟨g, o + j, none⟩ = some (.int .u32 (nat xs j : Nat)))
def RN (w : World) (v : Value) (n : Nat) : Prop := Rd w v (dg n)
theorem Rd.move {w w1 : World} {v : Value} {xs : List Nat} (h : Rd w v xs) (hs : w.heap.size ≤ w1.heap.size) (hb : ∀ g, v.ownBlock = some g → g < w.heap.size → w1.heap[g]? = w.heap[g]?) : Rd w1 v xs := by
 obtain ⟨hw, A, c, rfl, hc, hr⟩ := h
 refine ⟨hw, A, c, rfl, hc, fun hp => ?_⟩
 obtain ⟨g, o, rfl, hg, hj⟩ := hr hp
 exact ⟨g, o, rfl, by omega, fun j hjl => (World.cell?_of_block (a := ⟨g, o + j, none⟩) (hb g rfl hg)).trans (hj j hjl)⟩
theorem Rd.below {w w1 : World} {v : Value} {xs : List Nat} (h : Rd w v xs) (hb : Below w.heap.size w w1) : Rd w1 v xs :=
 h.move hb.size fun g _ hg => hb.block g hg
theorem Rd.grown {w w1 : World} {v : Value} {xs : List Nat} (h : Rd w v xs) {row : Option Nat} (hg : w.grownBy w1 row) (hne : ∀ g, v.ownBlock = some g → some g ≠ row) : Rd w1 v xs :=
 h.move hg.size fun g he hl => hg.block g hl (hne g he)
theorem Rd.gb {w w1 : World} {v : Value} {xs : List Nat} (h : Rd w v xs) (hg : w.grownBy w1 none) : Rd w1 v xs := h.grown hg (by simp)
theorem Rd.nil (w : World) : Rd w (.slice none 0 0) [] := ⟨fun x hx => (by cases hx), none, 0, rfl, by simp, fun h => absurd h (by simp)⟩
theorem Rd.wd {w : World} {v : Value} {xs : List Nat} (h : Rd w v xs) : Wd xs := h.1
theorem Rd.of_arr {w : World} {B e : Nat} {xs : List Nat} (h : Arr .u32 w B e (ints xs)) (hw : Wd xs) : Rd w (.slice (some ⟨B, 0, none⟩) xs.length xs.length) xs :=
 ⟨hw, _, _, rfl, Nat.le_refl _, fun _ => ⟨B, 0, rfl, h.lt, fun j hj => by
  have h1 := h.cell j (by rw [ints_length]; exact hj)
  have h2 := nth_ints xs j
  unfold nth at h2
  rw [Nat.zero_add, h1, h2]⟩⟩
theorem Rd.take {w : World} {A : Option Addr} {c : Nat} {xs : List Nat} (h : Rd w (.slice A xs.length c) xs) (n : Nat) (hn : n ≤ xs.length) : Rd w (.slice A n n) (xs.take n) := by
 obtain ⟨hw, A', c', e, hc, hr⟩ := h
 injection e with e1 e2 e3
 subst e1
 have hl : (xs.take n).length = n := by rw [ltk, Nat.min_eq_left hn]
 refine ⟨hw.take n, A, n, by rw [hl], by rw [hl]; exact Nat.le_refl _, fun hp => ?_⟩
 rw [hl] at hp ⊢
 obtain ⟨g, o, rfl, hg, hj⟩ := hr (by omega)
 exact ⟨g, o, rfl, hg, fun j hjl => by rw [hj j (by omega), nat_take hjl]⟩
theorem Rd.cell {w : World} {A : Option Addr} {c : Nat} {xs : List Nat} (h : Rd w (.slice A xs.length c) xs) {j : Nat} (hj : j < xs.length) :
  ∃ g o, A = some ⟨g, o, none⟩ ∧ g < w.heap.size ∧ w.cell? ⟨g, o + j, none⟩ = some (.int .u32 (nat xs j : Nat)) := by
 obtain ⟨hw, A', c', e, hc, hr⟩ := h
 injection e with e1 e2 e3
 subst e1
 obtain ⟨g, o, rfl, hg, hcell⟩ := hr (by omega)
 exact ⟨g, o, rfl, hg, hcell j hj⟩
theorem Rd.slice {w : World} {v : Value} {xs : List Nat} (h : Rd w v xs) : ∃ A c, v = .slice A xs.length c ∧ xs.length ≤ c := by
 obtain ⟨_, A, c, rfl, hc, _⟩ := h
 exact ⟨A, c, rfl, hc⟩
theorem RN.opened {w : World} {v : Value} {n : Nat} (h : RN w v n) : ∃ A c xs, v = .slice A xs.length c ∧ xs.length ≤ c ∧ Hid (xs = dg n) ∧ Hid (Rd w (.slice A xs.length c) xs) := by
 obtain ⟨A, c, e, hc⟩ := Rd.slice h
 subst e
 exact ⟨A, c, dg n, rfl, hc, rfl, h⟩
def WPost (w : World) (n : Nat) (e : Ending) (w' : World) : Prop := ∃ v, e = .returned v ∧ RN w' v n ∧ Below w.heap.size w w'
theorem pw_drewN {B : Nat} {w W : World} (h : Below B w W) (n : Nat) : Below B w (W.drewN n) := ⟨h.os, h.tape, h.output, h.size, h.block⟩
def TrimPost (w : World) (A : Option Addr) (xs : List Nat) (e : Ending) (w' : World) : Prop := ∃ n, n ≤ xs.length ∧ e = .returned (.slice A n n) ∧ xs.take n = dg (valN xs) ∧ Below w.heap.size w w'
theorem sq22 (P : Prop) (h : P := by
 go_wp2
 go_loop [3] (fun v => ∃ n : Nat, n ≤ xs.length ∧ v = .int .i64 n ∧ ∀ j, n ≤ j → j < xs.length → nat xs j = 0) (fun v => (intOf v).toNat)
 case atStart => exact ⟨xs.length, Nat.le_refl _, rfl, fun j h1 h2 => by omega⟩
 case round =>
  obtain ⟨n, hn, rfl, hz⟩ := hrel
  have HZ := Hd hz
  clear hz
  by_cases hp : 0 < n
  ·obtain ⟨g, o, rfl, hg, hcell⟩ := HR.out.cell (j := n - 1) (by omega)
   have n1 : (n : Int) > 0 := by omega
   have n2 : ((n : Int) - 1).toNat = n - 1 := by omega
   have n3 : 0 ≤ (n : Int) - 1 := by omega
   have n4 : (n : Int) - 1 < (xs.length : Int) := by omega
   have nw := i64w ((n : Int) - 1)
   by_cases hx : nat xs (n - 1) = 0
   ·rw [hx] at hcell
    have hcell0 : w.cell? ⟨g, o + (n - 1), none⟩ = some (.int .u32 0) := hcell
    clear hcell
    have hz0 : ((0 : Int) == 0) = true := rfl
    go_wp2_with fail
    go_round
    case rel =>
     refine ⟨n - 1, by omega, by rw [show ((n - 1 : Nat) : Int) = (n : Int) - 1 by omega], fun j h1 h2 => ?_⟩
     by_cases hj : j = n - 1
     ·rw [hj]; exact hx
     ·exact HZ.out j (by omega) h2
    case measure => simp [intOf]; omega
   ·have hz0 : ((nat xs (n - 1) : Int) == 0) = false := by
     have : (nat xs (n - 1) : Int) ≠ 0 := by omega
     simpa using this
    have hcap : (n : Int) ≤ (c : Int) := by omega
    go_wp2_with fail
    go_ret
    exact ⟨n, hn, rfl, canon_take HR.out.wd hn HZ.out (.inr hx), Below.refl _ _⟩
  ·obtain rfl : n = 0 := by omega
   go_wp2_with fail
   go_ret
   exact ⟨0, hn, rfl, canon_take HR.out.wd hn HZ.out (.inl rfl), Below.refl _ _⟩) : P := h
theorem trim_calls (w : World) (A : Option Addr) (c : Nat) (xs : List Nat) (h : Rd w (.slice A xs.length c) xs) (hl : xs.length ≤ 1000000000000) (hc : xs.length ≤ c) :
  Calls Try.prog 123 #[.slice A xs.length c] w fun e w' => TrimPost w A xs e w' := by
 have HR := Hd h
 clear h
 go_enter Try.func123, Try.ntmps123
 exact sq22 _
theorem trim_rn {w : World} {A : Option Addr} {c : Nat} {xs : List Nat} (h : Rd w (.slice A xs.length c) xs) (hl : xs.length ≤ 1000000000000) :
  Calls Try.prog 123 #[.slice A xs.length c] w fun e w' => WPost w (valN xs) e w' := by
 have hc : xs.length ≤ c := by
  obtain ⟨A', c', e, hc⟩ := h.slice
  injection e with e1 e2 e3
  omega
 refine (trim_calls w A c xs h hl hc).mono ?_
 rintro e w' ⟨n, hn, rfl, ht, hb⟩
 refine ⟨_, rfl, ?_, hb⟩
 have := (h.take n hn).below hb
 rw [ht] at this
 exact this
theorem info103 : (Try.prog.info? 103).map (fun i => (i.zero, i.size, i.bytes)) = some (some (.int .u32 0), 1, 4) := by kernel_rfl
theorem made_zeros (n : Nat) : madeCells (Value.int .u32 0).cells (n * 1) = (nums .u32 (ints (List.replicate n 0))).toArray := by
 apply Array.ext
 ·simp [size_madeCells, nums, ints]
 ·intro i h1 h2
  have h0 : (Value.int .u32 0).cells.size = 1 := rfl
  simp only [madeCells, nums, ints, h0, Nat.mod_one, List.map_replicate, Array.getElem_map, List.getElem_toArray, List.getElem_replicate]
  rfl
def zw (n : Nat) : Obj := .cells (nums .u32 (ints (List.replicate n 0))).toArray 103
theorem make_words (t : TypeId) (ht : Try.prog.underlying t = some (.slice 103)) (n : Nat) (hn : n ≤ 10000000000000) (w : World) :
  Sem.run Try.prog (Instr.makeSlice t (.int .i64 (n : Int)) (.int .i64 (n : Int))) w = .ok (.slice (some ⟨w.heap.size, 0, none⟩) n n) (w.alloc (zw n)) := by
 obtain ⟨i, hi, hzz⟩ := Option.map_eq_some_iff.1 info103
 simp only [Prod.mk.injEq] at hzz
 obtain ⟨hz, hsz, hby⟩ := hzz
 have := run_make (P := Try.prog) w t 103 i _ ht hi hz .i64 .i64 (n : Int) (n : Int) (by omega) (Int.le_refl _) (by rw [hby]; omega) (by omega)
 rw [hsz, Int.toNat_natCast, made_zeros] at this
 exact this
theorem zw_arr (w : World) (n : Nat) : Arr .u32 (w.alloc (zw n)) w.heap.size 103 (ints (List.replicate n 0)) := by
 show (World.alloc _ _).heap[w.heap.size]? = _
 rw [heap_alloc_new]; rfl
theorem info103_size : (Try.prog.info? 103).map (·.size) = some 1 := by kernel_rfl
theorem nums_oneCell (k : IntKind) (l : List Int) : ∀ v ∈ nums k l, v.oneCell' = true := fun v hv => by
 obtain ⟨x, _, rfl⟩ := List.mem_map.1 hv
 rfl
def OwnPost (w : World) (xs : List Nat) (e : Ending) (w' : World) : Prop := ∃ v, e = .returned v ∧ Rd w' v xs ∧ Below w.heap.size w w'
theorem setRow_arr {w : World} {k : IntKind} {B e : Nat} {ws : List Int} (h : Arr k w B e ws) (xs : List Int) : Arr k (w.setRow B (nums k xs).toArray) B e xs := by
 show (w.setRow B (nums k xs).toArray).heap[B]? = _
 have h' : w.heap[B]? = some (.cells (nums k ws).toArray e (0, 0)) := h
 simp only [World.setRow, Array.getElem?_modify, if_true, h', Option.map_some]
theorem below_row {B g : Nat} {w0 w : World} (hb : Below B w0 w) (hBg : B ≤ g) (cs : Array Value) : Below B w0 (w.setRow g cs) :=
 hb.trans ⟨rfl, rfl, rfl, by simp [World.setRow], fun k hk => by
  simp only [World.setRow, Array.getElem?_modify]
  rw [if_neg (by omega)]⟩
theorem copy_words (t : TypeId) (ht : Try.prog.underlying t = some (.slice 103)) (w : World) (A : Option Addr) (c : Nat) (xs : List Nat) (h : Rd w (.slice A xs.length c) xs) :
  ∃ w2, Sem.run Try.prog (Builtin.copy_ #[t, t] 3 #[.slice (some ⟨w.heap.size, 0, none⟩) xs.length xs.length, .slice A xs.length c]) (w.alloc (zw xs.length)) = .ok (goInt xs.length) w2 ∧
   Arr .u32 w2 w.heap.size 103 (ints xs) ∧ Below w.heap.size w w2 := by
 obtain ⟨hw, A', c', e, hc, hcell⟩ := h
 injection e with e1 e2 e3
 subst e1
 have hb := Below.alloc (Below.refl w.heap.size w) (Nat.le_refl _) (zw xs.length)
 have harr := zw_arr w xs.length
 by_cases h0 : xs.length = 0
 ·obtain rfl : xs = [] := List.eq_nil_of_length_eq_zero h0
  refine ⟨_, run_copy_none (P := Try.prog) _ t t 3 103 _ _ _ _ _ _ ht info103_size rfl, harr, hb⟩
 ·obtain ⟨g, o, rfl, hg, hj⟩ := hcell (by omega)
  have hr := run_copy_row (P := Try.prog) (w.alloc (zw xs.length)) t t 3 103 w.heap.size 0 xs.length xs.length ⟨g, o, none⟩ xs.length c (nums .u32 (ints (List.replicate xs.length 0))).toArray 103 (nums .u32 (ints xs)) ht info103_size harr
   (by simp [nums, ints]) (fun j v hv => by
    have hjl : j < xs.length := by
     have := (List.getElem?_eq_some_iff.1 hv).1
     simpa [nums, ints] using this
    rw [nums_at .u32 _ j (by rw [ints_length]; exact hjl), nth_ints] at hv
    rw [add_at', ← Option.some.inj hv, ← hj j hjl]
    exact World.cell?_of_block (a := ⟨g, o + j, none⟩) (hb.block g hg)) (by simp [nums, ints]) (nums_oneCell _ _)
  have el : ((nums .u32 (ints xs)).length : Int) = xs.length := by simp [nums, ints]
  refine ⟨_, by rw [el] at hr; exact hr, ?_, below_row hb (Nat.le_refl _) _⟩
  have : (((nums .u32 (ints (List.replicate xs.length 0))).toArray.toList.take 0 ++ nums .u32 (ints xs) ++ (nums .u32 (ints (List.replicate xs.length 0))).toArray.toList.drop (0 + (nums .u32 (ints xs)).length)).toArray) = (nums .u32 (ints xs)).toArray := by
   simp [nums, ints]
  rw [this]
  exact setRow_arr harr _
theorem own_calls (w : World) (v : Value) (xs : List Nat) (h : Rd w v xs) (hl : xs.length ≤ 1000000000000) :
  Calls Try.prog 102 #[v] w fun e w' => OwnPost w xs e w' := by
 obtain ⟨A, c, rfl, hc⟩ := h.slice
 have hmk := make_words 83 Try.underlying83 xs.length (by omega)
 obtain ⟨w2, hcp, harr, hb⟩ := copy_words 83 Try.underlying83 w A c xs h
 have HA := Hd harr
 have HB := Hd hb
 have HW := Hd h.wd
 clear harr hb h
 go_enter Try.func102, Try.ntmps102
 go_wp2
 go_ret
 exact ⟨_, rfl, Rd.of_arr HA.out HW.out, HB.out⟩
theorem one_calls (w : World) (v : Value) (n : Nat) (h : RN w v n) :
  Calls Try.prog 82 #[v] w fun e w' => e = .returned (.bool (decide (n = 1))) ∧ Below w.heap.size w w' := by
 obtain ⟨A, c, xs, rfl, hc, HX, HR⟩ := h.opened
 clear h
 go_enter Try.func82, Try.ntmps82
 by_cases hl : xs.length = 1
 ·obtain ⟨g, o, rfl, hg, hcell⟩ := HR.out.cell (j := 0) (by omega)
  rw [Nat.add_zero] at hcell
  have l1 : ((xs.length : Int) == 1) = true := by rw [hl]; rfl
  have l2 : (0 : Int) < (xs.length : Int) := by omega
  have l3 : (0 : Nat) < xs.length := by omega
  go_wp2_with fail
  go_ret
  refine ⟨?_, Below.refl _ _⟩
  have h1 := valN_dg n
  rw [← HX.out] at h1
  match xs, hl with
  | [x], _ =>
   simp only [valN] at h1
   simp only [nat, List.getD_cons_zero]
   show Ending.returned (.bool ((x : Int) == 1)) = _
   congr 2
   rw [Bool.eq_iff_iff]
   simp
   omega
 ·have l1 : ((xs.length : Int) == 1) = false := by
   have : (xs.length : Int) ≠ 1 := by omega
   simpa using this
  go_wp2_with fail
  go_ret
  refine ⟨?_, Below.refl _ _⟩
  have : n ≠ 1 := by
   rintro rfl
   rw [HX.out] at hl
   exact hl rfl
  rw [decide_eq_false this]
  rfl
theorem or_word (n b : Nat) (h1 : n < 4294967296) (hb1 : b < 4294967296) : bits .or .u64 ((n : Int) * 4294967296) (b : Int) = ((n * 4294967296 + b : Nat) : Int) := by
 have := bits_join .u64 64 (by decide) (fun n h0 h1 => IntWalk.u64_in n (by omega)) 32 ((n : Int) * 4294967296) (b : Int) (by omega) (by omega) (by omega) (by omega) (by omega) (by omega)
 rw [this]
 omega
theorem rd_two (w : World) (a b : Nat) (ha : a < 4294967296) (hb : b < 4294967296) : Rd (w.alloc (.cells #[.int .u32 (a : Nat), .int .u32 (b : Nat)] 103)) (.slice (some ⟨w.heap.size, 0, none⟩) 2 2) [a, b] :=
 Rd.of_arr (xs := [a, b]) (e := 103) (by show (World.alloc _ _).heap[w.heap.size]? = _; rw [heap_alloc_new]; rfl) (fun x hx => by simp at hx; omega)
theorem dg_len_two {n : Nat} : (dg n).length ≤ 2 ↔ n < 18446744073709551616 := by
 constructor
 ·intro h
  have h1 := lt_dg_len n
  have h2 : 4294967296 ^ (dg n).length ≤ 4294967296 ^ 2 := Nat.pow_le_pow_right (by decide) h
  omega
 ·intro h
  exact dg_len_le (k := 2) (by omega)
theorem of_calls (w : World) (n : Nat) (hn : n < 18446744073709551616) :
  Calls Try.prog 118 #[.int .u64 n] w fun e w' => WPost w n e w' := by
 have c1 : IntKind.u32.wrap (n : Int) = ((n % 4294967296 : Nat) : Int) := by rw [IntKind.wrap_u32]; omega
 have c2 : IntKind.u32.wrap ((n : Int) / 4294967296) = ((n / 4294967296 : Nat) : Int) := by rw [IntKind.wrap_u32]; omega
 go_enter Try.func118, Try.ntmps118
 go_wp2_with fail
 have hr := rd_two w (n % 4294967296) (n / 4294967296) (by omega) (by omega)
 have e1 : ((n % 4294967296 : Nat) : Int) = (n : Int) % 4294967296 := by omega
 have e2 : ((n / 4294967296 : Nat) : Int) = (n : Int) / 4294967296 := by omega
 rw [e1, e2] at hr
 refine (trim_rn hr (by simp)).mono ?_
 rintro e w' ⟨v, rfl, hv, hb⟩
 have hval : valN [n % 4294967296, n / 4294967296] = n := by simp only [valN]; omega
 rw [hval] at hv
 go_wp2_with fail
 go_ret
 exact ⟨_, rfl, hv, (Below.alloc (Below.refl _ _) (Nat.le_refl _) _).trans (hb.mono (by simp))⟩
theorem val_two {xs : List Nat} (h : xs.length = 2) : valN xs = nat xs 1 * 4294967296 + nat xs 0 := by
 match xs, h with
 | [x, y], _ => simp [nat, valN]; omega
def SmallPost (w : World) (n : Nat) (e : Ending) (w' : World) : Prop := (∃ x : Nat, e = .returned (.tuple #[.int .u64 x, .bool (decide (n < 18446744073709551616))]) ∧ (n < 18446744073709551616 → x = n)) ∧ Below w.heap.size w w'
theorem small_calls (w : World) (v : Value) (n : Nat) (h : RN w v n) :
  Calls Try.prog 128 #[v] w fun e w' => SmallPost w n e w' := by
 obtain ⟨A, c, xs, rfl, hc, HX, HR⟩ := h.opened
 clear h
 have hv : valN xs = n := by rw [HX.out, valN_dg]
 have hlt : xs.length ≤ 2 ↔ n < 18446744073709551616 := by rw [HX.out]; exact dg_len_two
 have HV := Hd hv
 have HLT := Hd hlt
 clear hv hlt
 go_enter Try.func128, Try.ntmps128
 by_cases l0 : xs.length = 0
 ·have q0 : ((xs.length : Int) == 0) = true := by rw [l0]; rfl
  go_wp2_with fail
  go_ret2
  have : n = 0 := by rw [← HV.out, List.eq_nil_of_length_eq_zero l0]; rfl
  refine ⟨⟨0, ?_, fun _ => this.symm⟩, Below.refl _ _⟩
  rw [decide_eq_true (HLT.out.1 (by omega))]
  rfl
 ·have q0 : ((xs.length : Int) == 0) = false := by
   have : (xs.length : Int) ≠ 0 := by omega
   simpa using this
  obtain ⟨g, o, rfl, hg, hcell⟩ := HR.out.cell (j := 0) (by omega)
  rw [Nat.add_zero] at hcell
  by_cases l1 : xs.length = 1
  ·have q1 : ((xs.length : Int) == 1) = true := by rw [l1]; rfl
   have l2 : (0 : Int) < (xs.length : Int) := by omega
   have l3 : (0 : Nat) < xs.length := by omega
   have hx := nat_lt HR.out.wd 0
   have cw := u64w (nat xs 0 : Int)
   go_wp2_with fail
   go_ret2
   refine ⟨⟨nat xs 0, ?_, fun _ => ?_⟩, Below.refl _ _⟩
   ·rw [decide_eq_true (HLT.out.1 (by omega))]
    rfl
   ·rw [← HV.out]
    match xs, l1 with
    | [x], _ => simp [nat, valN]
  ·have q1 : ((xs.length : Int) == 1) = false := by
    have : (xs.length : Int) ≠ 1 := by omega
    simpa using this
   by_cases l2 : xs.length = 2
   ·have q2 : ((xs.length : Int) == 2) = true := by rw [l2]; rfl
    obtain ⟨g', o', e', hg', hcell1⟩ := HR.out.cell (j := 1) (by omega)
    injection e' with e'
    injection e' with e1 e2
    subst e1
    subst e2
    have l3 : (1 : Int) < (xs.length : Int) := by omega
    have l4 : (1 : Nat) < xs.length := by omega
    have l5 : (0 : Int) < (xs.length : Int) := by omega
    have l6 : (0 : Nat) < xs.length := by omega
    have hx := nat_lt HR.out.wd 0
    have hx1 := nat_lt HR.out.wd 1
    have cw := u64w (nat xs 0 : Int)
    have cw1 := u64w (nat xs 1 : Int)
    have cw2 := u64w ((nat xs 1 : Int) * 4294967296)
    have hor := or_word (nat xs 1) (nat xs 0) hx1 hx
    obtain ⟨z, hz⟩ : ∃ z, z = nat xs 1 * 4294967296 + nat xs 0 := ⟨_, rfl⟩
    rw [← hz] at hor
    have HZ := Hd hz
    clear hz
    go_wp2_with fail
    go_quiet (fail)
    go_wp2_with fail
    go_ret2
    refine ⟨⟨z, ?_, fun _ => ?_⟩, pw_drewN (Below.refl _ _) _⟩
    ·rw [decide_eq_true (HLT.out.1 (by omega))]
     rfl
    ·rw [← HV.out, HZ.out, val_two l2]
   ·have q2 : ((xs.length : Int) == 2) = false := by
     have : (xs.length : Int) ≠ 2 := by omega
     simpa using this
    go_wp2_with fail
    go_ret2
    refine ⟨⟨0, ?_, fun h => ?_⟩, Below.refl _ _⟩
    ·rw [decide_eq_false (fun h => by have := HLT.out.2 h; omega)]
     rfl
    ·have := HLT.out.2 h
     omega
def cmpI (m n : Nat) : Int := if m = n then 0 else if m < n then -1 else 1
theorem cmp_top {a b : List Nat} (ha : Wd a) (hb : Wd b) (hl : a.length = b.length) (i : Nat) (hi : i < a.length) (he : ∀ j, i < j → j < a.length → nat a j = nat b j) (h : nat a i < nat b i) : valN a < valN b := by
 rw [valN_split a (i + 1) (by omega), valN_split b (i + 1) (by omega)]
 have e : a.drop (i + 1) = b.drop (i + 1) := by
  apply List.ext_getElem
  ·simp [hl]
  ·intro j h1 h2
   simp only [List.length_drop] at h1 h2
   have := he (i + 1 + j) (by omega) (by omega)
   simpa [nat, gdd, geq (show i + 1 + j < a.length by omega), geq (show i + 1 + j < b.length by omega)] using this
 rw [e, valN_take_succ a i hi, valN_take_succ b i (by omega)]
 have h1 := valN_lt (a.take i) (ha.take i)
 rw [ltk, Nat.min_eq_left (by omega)] at h1
 have h2 : 4294967296 ^ i * (nat a i + 1) ≤ 4294967296 ^ i * nat b i := Nat.mul_le_mul_left _ h
 rw [Nat.mul_add, Nat.mul_one] at h2
 omega
theorem valN_lt_len {m n : Nat} (h : (dg m).length < (dg n).length) : m < n := by
 refine Nat.lt_of_not_le fun hle => ?_
 have := wlen_mono hle
 unfold wlen at this
 omega
theorem cmp_calls (w : World) (v v2 : Value) (m n : Nat) (h : RN w v m) (h2 : RN w v2 n) (hm : wlen m ≤ 1000000000000) (hn : wlen n ≤ 1000000000000) :
  Calls Try.prog 98 #[v, v2] w fun e w' => e = .returned (.int .i64 (cmpI m n)) ∧ Below w.heap.size w w' := by
 obtain ⟨A, c, xs, rfl, hc, HX, HR⟩ := h.opened
 obtain ⟨A2, c2, ys, rfl, hc2, HY, HR2⟩ := h2.opened
 clear h h2
 have hlx : xs.length ≤ 1000000000000 := by rw [HX.out]; exact hm
 have hly : ys.length ≤ 1000000000000 := by rw [HY.out]; exact hn
 have HVX : Hid (valN xs = m) := by unfold Hid; rw [HX.out, valN_dg]
 have HVY : Hid (valN ys = n) := by unfold Hid; rw [HY.out, valN_dg]
 go_enter Try.func98, Try.ntmps98
 by_cases hne : xs.length = ys.length
 ·have t0 : ((xs.length : Int) != (ys.length : Int)) = false := by rw [hne]; simp
  go_wp2_with fail
  go_loopw [5] (fun vi wr => ∃ k : Nat, k ≤ xs.length ∧ vi = .int .i64 ((k : Int) - 1) ∧ Below w.heap.size w wr ∧ ∀ j, k ≤ j → j < xs.length → nat xs j = nat ys j) (fun vi _ => (intOf vi + 1).toNat)
  case atStart => exact ⟨xs.length, Nat.le_refl _, by go_num, Below.refl _ _, fun j h1 h2 => by omega⟩
  case round =>
   obtain ⟨k, hk, rfl, hbr, heq⟩ := hrel
   have HE := Hd heq
   have HB := Hd hbr
   clear heq
   by_cases h0 : 0 < k
   ·have HRr := Hd (HR.out.below hbr)
    have HRr2 := Hd (HR2.out.below hbr)
    clear hbr
    obtain ⟨g, o, rfl, hg, hcell⟩ := HRr.out.cell (j := k - 1) (by omega)
    obtain ⟨g2, o2, rfl, hg2, hcell2⟩ := HRr2.out.cell (j := k - 1) (by omega)
    have n1 : (k : Int) - 1 ≥ 0 := by omega
    have n2 : ((k : Int) - 1).toNat = k - 1 := by omega
    have n4 : (k : Int) - 1 < (xs.length : Int) := by omega
    have n5 : (k : Int) - 1 < (ys.length : Int) := by omega
    obtain ⟨x, hx⟩ : ∃ x, x = nat xs (k - 1) := ⟨_, rfl⟩
    obtain ⟨y, hy⟩ : ∃ y, y = nat ys (k - 1) := ⟨_, rfl⟩
    rw [← hx] at hcell
    rw [← hy] at hcell2
    have HXX := Hd hx
    have HYY := Hd hy
    clear hx hy
    by_cases hxy : x = y
    ·have t1 : ((x : Int) != (y : Int)) = false := by rw [hxy]; simp
     have nw := i64w ((k : Int) - 1 - 1)
     go_wp2_with fail
     go_quiet (fail)
     go_wp2_with fail
     go_roundw
     case rel =>
      refine ⟨k - 1, by omega, by go_num, pw_drewN HB.out _, fun j h1 h2 => ?_⟩
      by_cases hj : j = k - 1
      ·rw [hj, ← HXX.out, ← HYY.out, hxy]
      ·exact HE.out j (by omega) h2
     case measure => simp [intOf]; omega
    ·have t1 : ((x : Int) != (y : Int)) = true := by
      have : (x : Int) ≠ (y : Int) := by omega
      simpa using this
     by_cases hlt : x < y
     ·have t2 : decide ((x : Int) < (y : Int)) = true := dct
      go_wp2_with fail
      go_quiet (fail)
      go_wp2_with fail
      go_quiet (fail)
      go_wp2_with fail
      go_ret
      refine ⟨?_, pw_drewN (pw_drewN HB.out _) _⟩
      have : m < n := by
       rw [← HVX.out, ← HVY.out]
       exact cmp_top HR.out.wd HR2.out.wd hne (k - 1) (by omega) (fun j h1 h2 => HE.out j (by omega) h2) (by rw [← HXX.out, ← HYY.out]; exact hlt)
      rw [show cmpI m n = -1 by unfold cmpI; rw [if_neg (by omega), if_pos this]]
      rfl
     ·have t2 : decide ((x : Int) < (y : Int)) = false := dcf
      go_wp2_with fail
      go_quiet (fail)
      go_wp2_with fail
      go_quiet (fail)
      go_wp2_with fail
      go_ret
      refine ⟨?_, pw_drewN (pw_drewN HB.out _) _⟩
      have : n < m := by
       rw [← HVX.out, ← HVY.out]
       exact cmp_top HR2.out.wd HR.out.wd hne.symm (k - 1) (by omega) (fun j h1 h2 => (HE.out j (by omega) (by omega)).symm) (by rw [← HXX.out, ← HYY.out]; omega)
      rw [show cmpI m n = 1 by unfold cmpI; rw [if_neg (by omega), if_neg (by omega)]]
      rfl
   ·obtain rfl : k = 0 := by omega
    go_wp2_with fail
    go_ret
    refine ⟨?_, HB.out⟩
    have : m = n := by
     rw [← HVX.out, ← HVY.out]
     congr 1
     apply List.ext_getElem hne
     intro j h1 h2
     have := HE.out j (by omega) h1
     simpa [nat, gdd, geq h1, geq h2] using this
    rw [show cmpI m n = 0 by unfold cmpI; rw [if_pos this]]
    rfl
 ·have t0 : ((xs.length : Int) != (ys.length : Int)) = true := by
   have : (xs.length : Int) ≠ (ys.length : Int) := by omega
   simpa using this
  by_cases hlt : xs.length < ys.length
  ·have t1 : (xs.length : Int) < (ys.length : Int) := by omega
   go_wp2_with fail
   go_ret
   refine ⟨?_, Below.refl _ _⟩
   have : m < n := valN_lt_len (by rw [← HX.out, ← HY.out]; exact hlt)
   rw [show cmpI m n = -1 by unfold cmpI; rw [if_neg (by omega), if_pos this]]
   rfl
  ·have t1 : ¬ (xs.length : Int) < (ys.length : Int) := by omega
   go_wp2_with fail
   go_ret
   refine ⟨?_, Below.refl _ _⟩
   have : n < m := valN_lt_len (by rw [← HX.out, ← HY.out]; omega)
   rw [show cmpI m n = 1 by unfold cmpI; rw [if_neg (by omega), if_neg (by omega)]]
   rfl
theorem split_word (s : Nat) : ∃ lo hi, s = lo + 4294967296 * hi ∧ lo < 4294967296 := ⟨s % 4294967296, s / 4294967296, by omega, by omega⟩
theorem add_step {a b c lo hi p o : Nat} {x y : Nat} (h : o + c * p = a + b) (hs : x + c + y = lo + 4294967296 * hi) : o + p * lo + hi * (p * 4294967296) = (a + p * x) + (b + p * y) := by
 grind
theorem valN_take_more (ys : List Nat) (i : Nat) (h : ys.length ≤ i) : valN (ys.take i) = valN ys := by rw [List.take_of_length_le h]
theorem sq39 (P : Prop) (h : P := by
 have := HA.out.set i (lo : Int)
 rw [ints_set, set_pass _ _ _ _ HL.out (by simp; omega)] at this
 exact this) : P := h
theorem sq27 (P : Prop) (h : P := by
 rw [← hyy] at hy hcell2
 have HYY := Hd hyy
 clear hyy
 obtain ⟨lo, hi2, hs, hlo⟩ := split_word (x + cy + y)
 have HS := Hd hs
 have hhi : hi2 ≤ 1 := by omega
 have f0 := u64w (x : Int)
 have f00 := u64w (y : Int)
 have f1 := u64w ((x : Int) + (cy : Int))
 have f2 := u64w ((x : Int) + (cy : Int) + (y : Int))
 have f3 : IntKind.u32.wrap ((x : Int) + (cy : Int) + (y : Int)) = (lo : Int) := by rw [IntKind.wrap_u32]; omega
 have f4 : ((x : Int) + (cy : Int) + (y : Int)) / 4294967296 = (hi2 : Int) := by omega
 clear hs
 go_wp2_with fail
 go_roundw
 case rel =>
  refine ⟨i + 1, hi2, d ++ [lo], by omega, by go_num, rfl, hhi, by simp [HL.out], HD.out.snoc hlo, ?_, ?_, gb_set HG.out (.inl (Nat.le_refl _)) _⟩
  ·rw [valN_snoc, HL.out, valN_take_succ _ _ hlx2, valN_take_succ _ _ hly2, ← HXX.out, ← HYY.out, Nat.pow_succ]
   exact add_step HV.out HS.out
  ·exact sq39 _
 case measure => simp [intOf]; omega) : P := h
theorem add_calls (w : World) (v v2 : Value) (m n : Nat) (h : RN w v m) (h2 : RN w v2 n) (hm : wlen m ≤ 100000000000) (hn : wlen n ≤ 100000000000) :
  Calls Try.prog 100 #[v, v2] w fun e w' => WPost w (m + n) e w' := by
 obtain ⟨A, c, xs, rfl, hc, HX, HR⟩ := h.opened
 obtain ⟨A2, c2, ys, rfl, hc2, HY, HR2⟩ := h2.opened
 clear h h2
 have hlx : xs.length ≤ 100000000000 := by rw [HX.out]; exact hm
 have hly : ys.length ≤ 100000000000 := by rw [HY.out]; exact hn
 have HVX : Hid (valN xs = m) := by unfold Hid; rw [HX.out, valN_dg]
 have HVY : Hid (valN ys = n) := by unfold Hid; rw [HY.out, valN_dg]
 clear HX HY hm hn
 go_enter Try.func100, Try.ntmps100
 by_cases hlt : xs.length < ys.length
 ·have t0 : decide ((xs.length : Int) < (ys.length : Int)) = true := dct
  obtain ⟨N, hN⟩ : ∃ N : Nat, ys.length + 1 = N := ⟨_, rfl⟩
  have wl : IntKind.i64.wrap ((ys.length : Int) + 1) = ((N : Nat) : Int) := by rw [IntWalk.i64_in _ (by omega)]; omega
  have hmk := make_words 83 Try.underlying83 N (by omega)
  go_wp2_with fail
  clear hmk wl
  have hw0 := gb_alloc (gb_refl w none) (zw N)
  have ha0 := zw_arr w N
  generalize w.alloc (zw N) = W0 at *
  go_loopw [6, 22] (fun vc vi wr => ∃ (i cy : Nat) (d : List Nat), i ≤ ys.length ∧ vi = .int .i64 (i : Int) ∧ vc = .int .u64 (cy : Int) ∧ cy ≤ 1 ∧ d.length = i ∧ Wd d ∧
    valN d + cy * 4294967296 ^ i = valN (ys.take i) + valN (xs.take i) ∧ Arr .u32 wr w.heap.size 103 (ints (d ++ (List.replicate N 0).drop i)) ∧ w.grownBy wr none) (fun _ vi _ => ys.length - (intOf vi).toNat)
  case atStart => exact ⟨0, 0, [], by omega, rfl, rfl, by omega, rfl, (fun x hx => (by cases hx)), by simp [valN], ha0, hw0⟩
  case round =>
   obtain ⟨i, cy, d, hi, rfl, rfl, hcy, hdl, hdw, hval, harr, hgb⟩ := hrel
   have HD := Hd hdw
   have HV := Hd hval
   have HA := Hd harr
   have HG := Hd hgb
   have HL := Hd hdl
   clear hdw hval harr hdl
   by_cases hlx2 : i < ys.length
   ·have HRr := Hd (HR2.out.gb hgb)
    have HRr2 := Hd (HR.out.gb hgb)
    clear hgb
    obtain ⟨g, o, rfl, hg, hcell⟩ := HRr.out.cell (j := i) hlx2
    have n1 : (i : Int) < (ys.length : Int) := by omega
    have n3 : (i : Int).toNat = i := by omega
    have n4 : (0 : Int) ≤ (i : Int) := by omega
    have n5 : (i : Int) < ((N : Nat) : Int) := by omega
    have n6 : i < N := by omega
    have hx := nat_lt HR2.out.wd i
    obtain ⟨x, hxx⟩ : ∃ x, x = nat ys i := ⟨_, rfl⟩
    rw [← hxx] at hx hcell
    have HXX := Hd hxx
    clear hxx
    have hlen : (ints (d ++ (List.replicate N 0).drop i)).length = N := by rw [ints_length]; simp [HL.out]; omega
    have hco := HA.out.cell i (by rw [hlen]; omega)
    have hfr := HA.out.frozen i
    obtain ⟨old, hold⟩ : ∃ old, old = (ints (d ++ (List.replicate N 0).drop i)).getD i 0 := ⟨_, rfl⟩
    rw [← hold] at hco
    clear hold
    by_cases hly2 : i < xs.length
    ·obtain ⟨g2, o2, rfl, hg2, hcell2⟩ := HRr2.out.cell (j := i) hly2
     have m1 : (i : Int) < (xs.length : Int) := by omega
     have hy := nat_lt HR.out.wd i
     obtain ⟨y, hyy⟩ : ∃ y, y = nat xs i := ⟨_, rfl⟩
     exact sq27 _
    ·have m1 : ¬ (i : Int) < (xs.length : Int) := by omega
     obtain ⟨lo, hi2, hs, hlo⟩ := split_word (x + cy + 0)
     have HS := Hd hs
     have hhi : hi2 ≤ 1 := by omega
     have f0 := u64w (x : Int)
     have f1 := u64w ((x : Int) + (cy : Int))
     have f3 : IntKind.u32.wrap ((x : Int) + (cy : Int)) = (lo : Int) := by rw [IntKind.wrap_u32]; omega
     have f4 : ((x : Int) + (cy : Int)) / 4294967296 = (hi2 : Int) := by omega
     clear hs
     go_wp2_with fail
     go_roundw
     case rel =>
      refine ⟨i + 1, hi2, d ++ [lo], by omega, by go_num, rfl, hhi, by simp [HL.out], HD.out.snoc hlo, ?_, ?_, gb_set HG.out (.inl (Nat.le_refl _)) _⟩
      ·have e0 := HV.out
       rw [valN_take_more xs i (by omega)] at e0
       rw [valN_snoc, HL.out, valN_take_succ _ _ hlx2, valN_take_more xs (i + 1) (by omega), ← HXX.out, Nat.pow_succ]
       have := add_step (y := 0) e0 HS.out
       omega
      ·exact sq39 _
     case measure => simp [intOf]; omega
   ·obtain rfl : i = ys.length := by omega
    have n5 : (ys.length : Int) < ((N : Nat) : Int) := by omega
    have hlen : (ints (d ++ (List.replicate N 0).drop ys.length)).length = N := by rw [ints_length]; simp [HL.out]; omega
    have hco := HA.out.cell ys.length (by rw [hlen]; omega)
    have hfr := HA.out.frozen ys.length
    obtain ⟨old, hold⟩ : ∃ old, old = (ints (d ++ (List.replicate N 0).drop ys.length)).getD ys.length 0 := ⟨_, rfl⟩
    rw [← hold] at hco
    clear hold hgb
    have f3 : IntKind.u32.wrap (cy : Int) = (cy : Int) := by rw [IntKind.wrap_u32]; omega
    have n6 : ys.length < N := by omega
    go_wp2_with fail
    have ha2 := HA.out.set ys.length (cy : Int)
    rw [ints_set, set_pass _ _ _ _ HL.out (by simp; omega), List.drop_of_length_le (by simp; omega), List.append_nil] at ha2
    have hwd : Wd (d ++ [cy]) := HD.out.snoc (by omega)
    have hrd := Rd.of_arr ha2 hwd
    have hdl : (d ++ [cy]).length = N := by simp [HL.out, hN]
    rw [hdl] at hrd
    have hrd2 : Rd (wr.setCell ⟨w.heap.size, ys.length, none⟩ (.int .u32 (cy : Int))) (.slice (some ⟨w.heap.size, 0, none⟩) (d ++ [cy]).length N) (d ++ [cy]) := by rw [hdl]; exact hrd
    have htr := trim_rn hrd2 (by rw [hdl]; omega)
    rw [hdl] at htr
    refine htr.mono ?_
    rintro e w' ⟨v, rfl, hv, hb⟩
    have hval : valN (d ++ [cy]) = m + n := by
     have := HV.out
     rw [valN_take_more xs ys.length (by omega), List.take_length] at this
     rw [valN_snoc, HL.out, Nat.mul_comm, this, HVX.out, HVY.out, Nat.add_comm]
    rw [hval] at hv
    have HBB := Hd (gb_to_below (gb_below (gb_set HG.out (.inl (Nat.le_refl _)) _) hb))
    go_wp2_with fail
    go_ret
    exact ⟨_, rfl, hv, HBB.out⟩
 ·have t0 : decide ((xs.length : Int) < (ys.length : Int)) = false := dcf
  obtain ⟨N, hN⟩ : ∃ N : Nat, xs.length + 1 = N := ⟨_, rfl⟩
  have wl : IntKind.i64.wrap ((xs.length : Int) + 1) = ((N : Nat) : Int) := by rw [IntWalk.i64_in _ (by omega)]; omega
  have hmk := make_words 83 Try.underlying83 N (by omega)
  go_wp2_with fail
  clear hmk wl
  have hw0 := gb_alloc (gb_refl w none) (zw N)
  have ha0 := zw_arr w N
  generalize w.alloc (zw N) = W0 at *
  go_loopw [6, 22] (fun vc vi wr => ∃ (i cy : Nat) (d : List Nat), i ≤ xs.length ∧ vi = .int .i64 (i : Int) ∧ vc = .int .u64 (cy : Int) ∧ cy ≤ 1 ∧ d.length = i ∧ Wd d ∧
    valN d + cy * 4294967296 ^ i = valN (xs.take i) + valN (ys.take i) ∧ Arr .u32 wr w.heap.size 103 (ints (d ++ (List.replicate N 0).drop i)) ∧ w.grownBy wr none) (fun _ vi _ => xs.length - (intOf vi).toNat)
  case atStart => exact ⟨0, 0, [], by omega, rfl, rfl, by omega, rfl, (fun x hx => (by cases hx)), by simp [valN], ha0, hw0⟩
  case round =>
   obtain ⟨i, cy, d, hi, rfl, rfl, hcy, hdl, hdw, hval, harr, hgb⟩ := hrel
   have HD := Hd hdw
   have HV := Hd hval
   have HA := Hd harr
   have HG := Hd hgb
   have HL := Hd hdl
   clear hdw hval harr hdl
   by_cases hlx2 : i < xs.length
   ·have HRr := Hd (HR.out.gb hgb)
    have HRr2 := Hd (HR2.out.gb hgb)
    clear hgb
    obtain ⟨g, o, rfl, hg, hcell⟩ := HRr.out.cell (j := i) hlx2
    have n1 : (i : Int) < (xs.length : Int) := by omega
    have n3 : (i : Int).toNat = i := by omega
    have n4 : (0 : Int) ≤ (i : Int) := by omega
    have n5 : (i : Int) < ((N : Nat) : Int) := by omega
    have n6 : i < N := by omega
    have hx := nat_lt HR.out.wd i
    obtain ⟨x, hxx⟩ : ∃ x, x = nat xs i := ⟨_, rfl⟩
    rw [← hxx] at hx hcell
    have HXX := Hd hxx
    clear hxx
    have hlen : (ints (d ++ (List.replicate N 0).drop i)).length = N := by rw [ints_length]; simp [HL.out]; omega
    have hco := HA.out.cell i (by rw [hlen]; omega)
    have hfr := HA.out.frozen i
    obtain ⟨old, hold⟩ : ∃ old, old = (ints (d ++ (List.replicate N 0).drop i)).getD i 0 := ⟨_, rfl⟩
    rw [← hold] at hco
    clear hold
    by_cases hly2 : i < ys.length
    ·obtain ⟨g2, o2, rfl, hg2, hcell2⟩ := HRr2.out.cell (j := i) hly2
     have m1 : (i : Int) < (ys.length : Int) := by omega
     have hy := nat_lt HR2.out.wd i
     obtain ⟨y, hyy⟩ : ∃ y, y = nat ys i := ⟨_, rfl⟩
     exact sq27 _
    ·have m1 : ¬ (i : Int) < (ys.length : Int) := by omega
     obtain ⟨lo, hi2, hs, hlo⟩ := split_word (x + cy + 0)
     have HS := Hd hs
     have hhi : hi2 ≤ 1 := by omega
     have f0 := u64w (x : Int)
     have f1 := u64w ((x : Int) + (cy : Int))
     have f3 : IntKind.u32.wrap ((x : Int) + (cy : Int)) = (lo : Int) := by rw [IntKind.wrap_u32]; omega
     have f4 : ((x : Int) + (cy : Int)) / 4294967296 = (hi2 : Int) := by omega
     clear hs
     go_wp2_with fail
     go_roundw
     case rel =>
      refine ⟨i + 1, hi2, d ++ [lo], by omega, by go_num, rfl, hhi, by simp [HL.out], HD.out.snoc hlo, ?_, ?_, gb_set HG.out (.inl (Nat.le_refl _)) _⟩
      ·have e0 := HV.out
       rw [valN_take_more ys i (by omega)] at e0
       rw [valN_snoc, HL.out, valN_take_succ _ _ hlx2, valN_take_more ys (i + 1) (by omega), ← HXX.out, Nat.pow_succ]
       have := add_step (y := 0) e0 HS.out
       omega
      ·exact sq39 _
     case measure => simp [intOf]; omega
   ·obtain rfl : i = xs.length := by omega
    have n5 : (xs.length : Int) < ((N : Nat) : Int) := by omega
    have hlen : (ints (d ++ (List.replicate N 0).drop xs.length)).length = N := by rw [ints_length]; simp [HL.out]; omega
    have hco := HA.out.cell xs.length (by rw [hlen]; omega)
    have hfr := HA.out.frozen xs.length
    obtain ⟨old, hold⟩ : ∃ old, old = (ints (d ++ (List.replicate N 0).drop xs.length)).getD xs.length 0 := ⟨_, rfl⟩
    rw [← hold] at hco
    clear hold hgb
    have f3 : IntKind.u32.wrap (cy : Int) = (cy : Int) := by rw [IntKind.wrap_u32]; omega
    have n6 : xs.length < N := by omega
    go_wp2_with fail
    have ha2 := HA.out.set xs.length (cy : Int)
    rw [ints_set, set_pass _ _ _ _ HL.out (by simp; omega), List.drop_of_length_le (by simp; omega), List.append_nil] at ha2
    have hwd : Wd (d ++ [cy]) := HD.out.snoc (by omega)
    have hrd := Rd.of_arr ha2 hwd
    have hdl : (d ++ [cy]).length = N := by simp [HL.out, hN]
    rw [hdl] at hrd
    have hrd2 : Rd (wr.setCell ⟨w.heap.size, xs.length, none⟩ (.int .u32 (cy : Int))) (.slice (some ⟨w.heap.size, 0, none⟩) (d ++ [cy]).length N) (d ++ [cy]) := by rw [hdl]; exact hrd
    have htr := trim_rn hrd2 (by rw [hdl]; omega)
    rw [hdl] at htr
    refine htr.mono ?_
    rintro e w' ⟨v, rfl, hv, hb⟩
    have hval : valN (d ++ [cy]) = m + n := by
     have := HV.out
     rw [valN_take_more ys xs.length (by omega), List.take_length] at this
     rw [valN_snoc, HL.out, Nat.mul_comm, this, HVX.out, HVY.out]
    rw [hval] at hv
    have HBB := Hd (gb_to_below (gb_below (gb_set HG.out (.inl (Nat.le_refl _)) _) hb))
    go_wp2_with fail
    go_ret
    exact ⟨_, rfl, hv, HBB.out⟩
theorem sub_step {a b c c' lo p o : Nat} {x y : Nat} (h : a + c * p = o + b) (hs : x + c' * 4294967296 = lo + (c + y)) : (a + p * x) + c' * (p * 4294967296) = (o + p * lo) + (b + p * y) := by
 grind
theorem sub_end {m n d L bw : Nat} (h1 : m + bw * L = d + n) (h2 : d < L) (hle : n ≤ m) (hb : bw ≤ 1) : d = m - n := by
 rcases Nat.le_one_iff_eq_zero_or_eq_one.1 hb with rfl | rfl
 ·omega
 ·omega
theorem sq66 (P : Prop) (h : P := by
 have e0 := HV.out
 rw [valN_take_more ys i (by omega)] at e0
 rw [valN_snoc, HL.out, valN_take_succ _ _ hlx2, valN_take_more ys (i + 1) (by omega), ← HXX.out, Nat.pow_succ]
 have := sub_step (y := 0) e0 HS.out
 omega) : P := h
theorem sub_calls (w : World) (v v2 : Value) (m n : Nat) (h : RN w v m) (h2 : RN w v2 n) (hm : wlen m ≤ 100000000000) (hle : n ≤ m) :
  Calls Try.prog 101 #[v, v2] w fun e w' => WPost w (m - n) e w' := by
 obtain ⟨A, c, xs, rfl, hc, HX, HR⟩ := h.opened
 obtain ⟨A2, c2, ys, rfl, hc2, HY, HR2⟩ := h2.opened
 clear h h2
 have hlx : xs.length ≤ 100000000000 := by rw [HX.out]; exact hm
 have hlyx : ys.length ≤ xs.length := by rw [HX.out, HY.out]; exact wlen_mono hle
 have HVX : Hid (valN xs = m) := by unfold Hid; rw [HX.out, valN_dg]
 have HVY : Hid (valN ys = n) := by unfold Hid; rw [HY.out, valN_dg]
 clear HX HY hm
 go_enter Try.func101, Try.ntmps101
 have hmk := make_words 83 Try.underlying83 xs.length (by omega)
 go_wp2_with fail
 clear hmk
 have hw0 := gb_alloc (gb_refl w none) (zw xs.length)
 have ha0 := zw_arr w xs.length
 generalize w.alloc (zw xs.length) = W0 at *
 go_loopw [6, 15] (fun vc vi wr => ∃ (i bw : Nat) (d : List Nat), i ≤ xs.length ∧ vi = .int .i64 (i : Int) ∧ vc = .int .u64 (bw : Int) ∧ bw ≤ 1 ∧ d.length = i ∧ Wd d ∧
   valN (xs.take i) + bw * 4294967296 ^ i = valN d + valN (ys.take i) ∧ Arr .u32 wr w.heap.size 103 (ints (d ++ (List.replicate xs.length 0).drop i)) ∧ w.grownBy wr none) (fun _ vi _ => xs.length - (intOf vi).toNat)
 case atStart => exact ⟨0, 0, [], by omega, rfl, rfl, by omega, rfl, (fun x hx => (by cases hx)), by simp [valN], ha0, hw0⟩
 case round =>
  obtain ⟨i, bw, d, hi, rfl, rfl, hbw, hdl, hdw, hval, harr, hgb⟩ := hrel
  have HD := Hd hdw
  have HV := Hd hval
  have HA := Hd harr
  have HG := Hd hgb
  have HL := Hd hdl
  clear hdw hval harr hdl
  by_cases hlx2 : i < xs.length
  ·have HRr := Hd (HR.out.gb hgb)
   have HRr2 := Hd (HR2.out.gb hgb)
   clear hgb
   obtain ⟨g, o, rfl, hg, hcell⟩ := HRr.out.cell (j := i) hlx2
   have n1 : (i : Int) < (xs.length : Int) := by omega
   have n3 : (i : Int).toNat = i := by omega
   have n4 : (0 : Int) ≤ (i : Int) := by omega
   have hx := nat_lt HR.out.wd i
   obtain ⟨x, hxx⟩ : ∃ x, x = nat xs i := ⟨_, rfl⟩
   rw [← hxx] at hx hcell
   have HXX := Hd hxx
   clear hxx
   have hlen : (ints (d ++ (List.replicate xs.length 0).drop i)).length = xs.length := by rw [ints_length]; simp [HL.out]; omega
   have hco := HA.out.cell i (by rw [hlen]; omega)
   have hfr := HA.out.frozen i
   obtain ⟨old, hold⟩ : ∃ old, old = (ints (d ++ (List.replicate xs.length 0).drop i)).getD i 0 := ⟨_, rfl⟩
   rw [← hold] at hco
   clear hold
   have f0 := u64w (x : Int)
   by_cases hly2 : i < ys.length
   ·obtain ⟨g2, o2, rfl, hg2, hcell2⟩ := HRr2.out.cell (j := i) hly2
    have m1 : (i : Int) < (ys.length : Int) := by omega
    have hy := nat_lt HR2.out.wd i
    obtain ⟨y, hyy⟩ : ∃ y, y = nat ys i := ⟨_, rfl⟩
    rw [← hyy] at hy hcell2
    have HYY := Hd hyy
    clear hyy
    have f00 := u64w (y : Int)
    have f1 := u64w ((bw : Int) + (y : Int))
    by_cases hxt : x < bw + y
    ·skip
     have q1 : decide ((x : Int) < (bw : Int) + (y : Int)) = true := dct
     obtain ⟨lo, hs⟩ : ∃ lo, x + 1 * 4294967296 = lo + (bw + y) := ⟨x + 1 * 4294967296 - (bw + y), by omega⟩
     have hlo : lo < 4294967296 := by omega
     have HS := Hd hs
     have f5 := u64w ((x : Int) + 4294967296)
     have f6 : IntKind.u64.wrap ((x : Int) + 4294967296 - ((bw : Int) + (y : Int))) = (lo : Int) := by rw [IntWalk.u64_in _ (by omega)]; omega
     have f8 : IntKind.u32.wrap (lo : Int) = (lo : Int) := by rw [IntKind.wrap_u32]; omega
     clear hs
     go_wp2_with fail
     go_roundw
     case rel =>
      refine ⟨i + 1, 1, d ++ [lo], by omega, by go_num, rfl, by omega, by simp [HL.out], HD.out.snoc hlo, ?_, ?_, gb_set HG.out (.inl (Nat.le_refl _)) _⟩
      ·rw [valN_snoc, HL.out, valN_take_succ _ _ hlx2, valN_take_succ _ _ hly2, ← HXX.out, ← HYY.out, Nat.pow_succ]
       exact sub_step HV.out HS.out
      ·exact sq39 _
     case measure => simp [intOf]; omega
    ·skip
     have q1 : decide ((x : Int) < (bw : Int) + (y : Int)) = false := dcf
     obtain ⟨lo, hs⟩ : ∃ lo, x + 0 * 4294967296 = lo + (bw + y) := ⟨x + 0 * 4294967296 - (bw + y), by omega⟩
     have hlo : lo < 4294967296 := by omega
     have HS := Hd hs
     have f6 : IntKind.u64.wrap ((x : Int) - ((bw : Int) + (y : Int))) = (lo : Int) := by rw [IntWalk.u64_in _ (by omega)]; omega
     have f8 : IntKind.u32.wrap (lo : Int) = (lo : Int) := by rw [IntKind.wrap_u32]; omega
     clear hs
     go_wp2_with fail
     go_roundw
     case rel =>
      refine ⟨i + 1, 0, d ++ [lo], by omega, by go_num, rfl, by omega, by simp [HL.out], HD.out.snoc hlo, ?_, ?_, gb_set HG.out (.inl (Nat.le_refl _)) _⟩
      ·rw [valN_snoc, HL.out, valN_take_succ _ _ hlx2, valN_take_succ _ _ hly2, ← HXX.out, ← HYY.out, Nat.pow_succ]
       exact sub_step HV.out HS.out
      ·exact sq39 _
     case measure => simp [intOf]; omega
   ·have m1 : ¬ (i : Int) < (ys.length : Int) := by omega
    by_cases hxt : x < bw
    ·skip
     have q1 : decide ((x : Int) < (bw : Int)) = true := dct
     obtain ⟨lo, hs⟩ : ∃ lo, x + 1 * 4294967296 = lo + (bw + 0) := ⟨x + 1 * 4294967296 - (bw + 0), by omega⟩
     have hlo : lo < 4294967296 := by omega
     have HS := Hd hs
     have f5 := u64w ((x : Int) + 4294967296)
     have f6 : IntKind.u64.wrap ((x : Int) + 4294967296 - (bw : Int)) = (lo : Int) := by rw [IntWalk.u64_in _ (by omega)]; omega
     have f8 : IntKind.u32.wrap (lo : Int) = (lo : Int) := by rw [IntKind.wrap_u32]; omega
     clear hs
     go_wp2_with fail
     go_roundw
     case rel =>
      refine ⟨i + 1, 1, d ++ [lo], by omega, by go_num, rfl, by omega, by simp [HL.out], HD.out.snoc hlo, ?_, ?_, gb_set HG.out (.inl (Nat.le_refl _)) _⟩
      ·exact sq66 _
      ·exact sq39 _
     case measure => simp [intOf]; omega
    ·skip
     have q1 : decide ((x : Int) < (bw : Int)) = false := dcf
     obtain ⟨lo, hs⟩ : ∃ lo, x + 0 * 4294967296 = lo + (bw + 0) := ⟨x + 0 * 4294967296 - (bw + 0), by omega⟩
     have hlo : lo < 4294967296 := by omega
     have HS := Hd hs
     have f6 : IntKind.u64.wrap ((x : Int) - (bw : Int)) = (lo : Int) := by rw [IntWalk.u64_in _ (by omega)]; omega
     have f8 : IntKind.u32.wrap (lo : Int) = (lo : Int) := by rw [IntKind.wrap_u32]; omega
     clear hs
     go_wp2_with fail
     go_roundw
     case rel =>
      refine ⟨i + 1, 0, d ++ [lo], by omega, by go_num, rfl, by omega, by simp [HL.out], HD.out.snoc hlo, ?_, ?_, gb_set HG.out (.inl (Nat.le_refl _)) _⟩
      ·exact sq66 _
      ·exact sq39 _
     case measure => simp [intOf]; omega
  ·obtain rfl : i = xs.length := by omega
   go_wp2_with fail
   have ha2 := HA.out
   rw [List.drop_of_length_le (by simp), List.append_nil] at ha2
   have hrd := Rd.of_arr ha2 HD.out
   rw [HL.out] at hrd
   have hrd2 : Rd wr (.slice (some ⟨w.heap.size, 0, none⟩) d.length xs.length) d := by rw [HL.out]; exact hrd
   have htr := trim_rn hrd2 (by rw [HL.out]; omega)
   rw [HL.out] at htr
   refine htr.mono ?_
   rintro e w' ⟨v, rfl, hv, hb⟩
   have hval : valN d = m - n := by
    have h1 := HV.out
    have h2 := valN_lt d HD.out
    rw [valN_take_more ys xs.length (by omega), List.take_length, HVX.out, HVY.out] at h1
    rw [HL.out] at h2
    exact sub_end h1 h2 hle hbw
   rw [hval] at hv
   have HBB := Hd (gb_to_below (gb_below HG.out hb))
   go_wp2_with fail
   go_ret
   exact ⟨_, rfl, hv, HBB.out⟩
theorem set_mid (P M Z : List Nat) (k v : Nat) (hk : k < M.length) : (P ++ M ++ Z).set (P.length + k) v = P ++ M.set k v ++ Z := by
 rw [List.append_assoc, List.set_append_right _ _ (by omega), Nat.add_sub_cancel_left, List.set_append_left _ _ hk, List.append_assoc]
theorem nat_mid (P M Z : List Nat) (k : Nat) (hk : k < M.length) : nat (P ++ M ++ Z) (P.length + k) = nat M k := by
 rw [List.append_assoc, nat_append_right (by omega), Nat.add_sub_cancel_left, nat_append_left hk]
theorem mul_step {dn c ck mk x y lo hi p v1 v2 : Nat} (h : dn + c * p = v1 + x * v2) (hs : x * y + mk + c = lo + 4294967296 * hi) : dn + p * lo + hi * (p * 4294967296) = (v1 + p * mk) + x * (v2 + p * y) := by
 grind
theorem mul_row {lo dn cy mid x n p L t : Nat} (h : dn + cy * L = mid + x * n) (hd : lo + p * mid = t * n) : lo + p * (dn + L * cy) = (t + p * x) * n := by
 grind
theorem mul_le_word {x y : Nat} (hx : x < 4294967296) (hy : y < 4294967296) : x * y ≤ 18446744065119617025 := by
 have := Nat.mul_le_mul (show x ≤ 4294967295 by omega) (show y ≤ 4294967295 by omega)
 simpa using this
theorem mul_wrap {x y p : Nat} (hx : x < 4294967296) (hy : y < 4294967296) (hp : p = x * y) : IntKind.u64.wrap ((x : Int) * (y : Int)) = (p : Int) := by
 have h := mul_le_word hx hy
 have e : (x : Int) * (y : Int) = (p : Int) := by rw [hp]; push_cast; rfl
 rw [e, IntWalk.u64_in _ (by omega)]
theorem sq25 (P : Prop) (h : P := by
 go_wp2_with fail
 go_roundw
 case rel =>
  refine ⟨i + 1, P ++ dn ++ [cy], by omega, by go_num, by simp [HPL.out, HDL.out]; omega, (HWP.out.append HDN.out).snoc hcy, ?_, ?_, gb_set HKG.out (.inl (Nat.le_refl _)) _⟩
  ·rw [valN_snoc, valN_append, lap, HPL.out, HDL.out, valN_take_succ _ _ hlx2, ← HXX.out, Nat.pow_add, Nat.mul_assoc, Nat.add_assoc, ← Nat.mul_add]
   have h1 := HDV.out
   rw [List.take_of_length_le (by rw [HML.out]; exact Nat.le_refl _), List.take_length] at h1
   have h2 := HV.out
   rw [HPM.out, valN_append, HPL.out] at h2
   exact mul_row h1 h2
  ·have := HKA2.out.set (i + ys.length) (cy : Int)
   rw [ints_set] at this
   have hz : List.replicate (xs.length - i) 0 = 0 :: List.replicate (xs.length - (i + 1)) 0 := by rw [← List.replicate_succ]; congr 1; omega
   rw [hz, show i + ys.length = (P ++ dn).length by rw [lap, HPL.out, HDL.out]] at this
   rw [List.set_append_right _ _ (Nat.le_refl _), Nat.sub_self, List.set_cons_zero] at this
   rw [show (P ++ dn).length = i + ys.length by rw [lap, HPL.out, HDL.out]] at this
   rw [show P ++ dn ++ [cy] ++ List.replicate (xs.length - (i + 1)) 0 = P ++ dn ++ cy :: List.replicate (xs.length - (i + 1)) 0 by simp]
   exact this
 case measure => simp [intOf]; omega) : P := h
theorem sq44 (P : Prop) (h : P := by
 have h1 := HKA2.out.cell (i + ys.length) (by rw [ints_length, lap, lap, HDL.out, HPL.out]; simp; omega)
 have h2 := nth_ints (P ++ dn ++ List.replicate (xs.length - i) 0) (i + ys.length)
 unfold nth at h2
 rw [h1, h2, nat_append_right (by rw [lap, HPL.out, HDL.out]; exact Nat.le_refl _), lap, HPL.out, HDL.out, Nat.sub_self]
 rw [show nat (List.replicate (xs.length - i) 0) 0 = 0 by unfold nat; rw [gdd]; rw [List.getElem?_replicate]; split <;> rfl]) : P := h
theorem sq49 (P : Prop) (h : P := by
 rw [HDL2.out] at htr
 refine htr.mono ?_
 rintro e w' ⟨v, rfl, hv, hb⟩
 have hval : valN d = m * n := by
  have := HV.out
  rw [List.take_length, HVX.out, HVY.out] at this
  exact this
 rw [hval] at hv
 have HBB := Hd (HB3.out.trans ((gb_to_below (gb_below HG.out hb)).mono HB3.out.size))
 go_wp2_with fail
 go_ret
 exact ⟨_, rfl, hv, HBB.out⟩) : P := h
theorem sq59 (P : Prop) (h : P := by
 have h1 := HKA.out.cell (i + k) (by rw [ints_length, lap, lap, hmlen, HPL.out]; simp; omega)
 have h2 := nth_ints (P ++ (dn ++ mid.drop k) ++ List.replicate (xs.length - i) 0) (i + k)
 unfold nth at h2
 rw [h1, h2, ← HPL.out, nat_mid _ _ _ _ (by rw [hmlen]; omega), nat_pass _ _ _ HDL.out, ← HMK.out]) : P := h
theorem mul_calls (w : World) (v v2 : Value) (m n : Nat) (h : RN w v m) (h2 : RN w v2 n) (hm : wlen m ≤ 100000000000) (hn : wlen n ≤ 100000000000) :
  Calls Try.prog 97 #[v, v2] w fun e w' => WPost w (m * n) e w' := by
 have HRN := Hd h
 have HRN2 := Hd h2
 obtain ⟨A, c, xs, rfl, hc, HX, HR0⟩ := h.opened
 obtain ⟨A2, c2, ys, rfl, hc2, HY, HR20⟩ := h2.opened
 clear h h2
 have hlx : xs.length ≤ 100000000000 := by rw [HX.out]; exact hm
 have hly : ys.length ≤ 100000000000 := by rw [HY.out]; exact hn
 have HVX : Hid (valN xs = m) := by unfold Hid; rw [HX.out, valN_dg]
 have HVY : Hid (valN ys = n) := by unfold Hid; rw [HY.out, valN_dg]
 clear hm hn
 go_enter Try.func97, Try.ntmps97
 by_cases hx0 : xs.length = 0
 ·have q0 : ((xs.length : Int) == 0) = true := by rw [hx0]; rfl
  have hm0 : m = 0 := by rw [← HVX.out, List.eq_nil_of_length_eq_zero hx0]; rfl
  go_wp2_with fail
  go_ret
  exact ⟨_, rfl, by rw [hm0, Nat.zero_mul]; exact Rd.nil _, Below.refl _ _⟩
 have q0 : ((xs.length : Int) == 0) = false := by
  have : (xs.length : Int) ≠ 0 := by omega
  simpa using this
 by_cases hy0 : ys.length = 0
 ·have q1 : ((ys.length : Int) == 0) = true := by rw [hy0]; rfl
  have hm0 : n = 0 := by rw [← HVY.out, List.eq_nil_of_length_eq_zero hy0]; rfl
  go_wp2_with fail
  go_ret
  exact ⟨_, rfl, by rw [hm0, Nat.mul_zero]; exact Rd.nil _, Below.refl _ _⟩
 have q1 : ((ys.length : Int) == 0) = false := by
  have : (ys.length : Int) ≠ 0 := by omega
  simpa using this
 go_wp2_with fail
 refine (one_calls _ _ m HRN.out).mono ?_
 rintro e w1 ⟨rfl, hb1⟩
 have HB1 := Hd hb1
 have HRN21 := Hd (Rd.below HRN2.out hb1)
 have HRN1 := Hd (Rd.below HRN.out hb1)
 clear hb1
 by_cases hm1 : m = 1
 ·have d1 : decide (m = 1) = true := decide_eq_true hm1
  go_wp2_with fail
  refine (own_calls _ _ _ HRN21.out (by rw [← HY.out]; omega)).mono ?_
  rintro e w2 ⟨v, rfl, hv, hb2⟩
  have HB2 := Hd (HB1.out.trans (hb2.mono HB1.out.size))
  go_wp2_with fail
  go_ret
  exact ⟨_, rfl, by rw [hm1, Nat.one_mul]; exact hv, HB2.out⟩
 have d1 : decide (m = 1) = false := decide_eq_false hm1
 go_wp2_with fail
 refine (one_calls _ _ n HRN21.out).mono ?_
 rintro e w2 ⟨rfl, hb2⟩
 have HB2 := Hd (HB1.out.trans (hb2.mono HB1.out.size))
 have HRN22 := Hd (Rd.below HRN21.out hb2)
 have HRN12 := Hd (Rd.below HRN1.out hb2)
 clear hb2
 by_cases hn1 : n = 1
 ·have d2 : decide (n = 1) = true := decide_eq_true hn1
  go_wp2_with fail
  refine (own_calls _ _ _ HRN12.out (by rw [← HX.out]; omega)).mono ?_
  rintro e w3 ⟨v, rfl, hv, hb3⟩
  have HB3 := Hd (HB2.out.trans (hb3.mono HB2.out.size))
  go_wp2_with fail
  go_ret
  exact ⟨_, rfl, by rw [hn1, Nat.mul_one]; exact hv, HB3.out⟩
 ·have d2 : decide (n = 1) = false := decide_eq_false hn1
  obtain ⟨w3, hw3⟩ : ∃ w3, w3 = w2 := ⟨_, rfl⟩
  rw [← hw3] at HB2 HRN12 HRN22 ⊢
  have HB3 := HB2
  have HR : Hid (Rd w3 (.slice A xs.length c) xs) := by rw [HX.out] at HRN12 ⊢; exact HRN12
  have HR2 : Hid (Rd w3 (.slice A2 ys.length c2) ys) := by rw [HY.out] at HRN22 ⊢; exact HRN22
  clear hw3 HRN12 HRN22 HRN21 HRN1 HRN HRN2 HR0 HR20
  obtain ⟨N, hN⟩ : ∃ N : Nat, xs.length + ys.length = N := ⟨_, rfl⟩
  have wl : IntKind.i64.wrap ((xs.length : Int) + (ys.length : Int)) = ((N : Nat) : Int) := by rw [IntWalk.i64_in _ (by omega)]; omega
  have hmk := make_words 83 Try.underlying83 N (by omega)
  go_wp2_with fail
  clear hmk wl
  have hw0 := gb_alloc (gb_refl w3 none) (zw N)
  have ha0 := zw_arr w3 N
  generalize w3.alloc (zw N) = W0 at *
  go_loopw [36] (fun vi wr => ∃ (i : Nat) (d : List Nat), i ≤ xs.length ∧ vi = .int .i64 (i : Int) ∧ d.length = i + ys.length ∧ Wd d ∧
    valN d = valN (xs.take i) * valN ys ∧ Arr .u32 wr w3.heap.size 103 (ints (d ++ List.replicate (xs.length - i) 0)) ∧ w3.grownBy wr none) (fun vi _ => xs.length - (intOf vi).toNat)
  case atStart => exact ⟨0, List.replicate ys.length 0, by omega, rfl, by simp, Wd_zeros _, by simp [valN, valN_zeros], (by rw [List.replicate_append_replicate, show ys.length + (xs.length - 0) = N by omega]; exact ha0), hw0⟩
  case round =>
   obtain ⟨i, d, hi, rfl, hdl, hdw, hval, harr, hgb⟩ := hrel
   have HD := Hd hdw
   have HV := Hd hval
   have HA := Hd harr
   have HG := Hd hgb
   have HL := Hd hdl
   clear hdw hval harr hdl
   by_cases hlx2 : i < xs.length
   ·have HRr := Hd (HR.out.gb hgb)
    clear hgb
    obtain ⟨g, o, rfl, hg, hcell⟩ := HRr.out.cell (j := i) hlx2
    have n1 : (i : Int) < (xs.length : Int) := by omega
    have n3 : (i : Int).toNat = i := by omega
    have n4 : (0 : Int) ≤ (i : Int) := by omega
    have hx := nat_lt HR.out.wd i
    obtain ⟨x, hxx⟩ : ∃ x, x = nat xs i := ⟨_, rfl⟩
    rw [← hxx] at hx hcell
    have HXX := Hd hxx
    clear hxx
    obtain ⟨P, mid, hPm, hPl, hml⟩ : ∃ P mid, d = P ++ mid ∧ P.length = i ∧ mid.length = ys.length := ⟨d.take i, d.drop i, (List.take_append_drop i d).symm, by rw [ltk, HL.out]; omega, by rw [List.length_drop, HL.out]; omega⟩
    have HPM := Hd hPm
    have HPL := Hd hPl
    have HML := Hd hml
    have HWP : Hid (Wd P) := (hPm ▸ HD.out).left
    have HWM : Hid (Wd mid) := (hPm ▸ HD.out).right
    have HA2 : Hid (Arr .u32 wr w3.heap.size 103 (ints (P ++ mid ++ List.replicate (xs.length - i) 0))) := by have := HA.out; rw [hPm] at this; exact this
    clear hPm hPl hml HA HL
    have s1 := i64w ((i : Int) + (ys.length : Int))
    have s2 := i64w ((i : Int) + (ys.length : Int) + 1)
    have s3 : (i : Int) ≤ (i : Int) + (ys.length : Int) + 1 := by omega
    have s4 : (i : Int) + (ys.length : Int) + 1 ≤ (N : Int) := by omega
    have s5 : ((i : Int) + (ys.length : Int) + 1).toNat = i + ys.length + 1 := by omega
    have s6 : ¬ (i + ys.length + 1 = i) := by omega
    have s7 : i + ys.length + 1 - i = ys.length + 1 := by omega
    go_wp2_with fail
    go_loopw [8, 56] (fun vc vk wr => ∃ (k cy : Nat) (dn : List Nat), k ≤ ys.length ∧ vk = .int .i64 (k : Int) ∧ vc = .int .u64 (cy : Int) ∧ cy < 4294967296 ∧ dn.length = k ∧ Wd dn ∧
      valN dn + cy * 4294967296 ^ k = valN (mid.take k) + x * valN (ys.take k) ∧ Arr .u32 wr w3.heap.size 103 (ints (P ++ (dn ++ mid.drop k) ++ List.replicate (xs.length - i) 0)) ∧ w3.grownBy wr none) (fun _ vk _ => ys.length - (intOf vk).toNat)
    case atStart => exact ⟨0, 0, [], by omega, rfl, rfl, by omega, rfl, (fun x hx => (by cases hx)), by simp [valN], HA2.out, HG.out⟩
    case round =>
     obtain ⟨k, cy, dn, hk, rfl, rfl, hcy, hdnl, hdnw, hdval, hkarr, hkgb⟩ := hrel
     have HDN := Hd hdnw
     have HDV := Hd hdval
     have HKA := Hd hkarr
     have HKG := Hd hkgb
     have HDL := Hd hdnl
     have hmlen : (dn ++ mid.drop k).length = ys.length := by rw [lap, List.length_drop, HDL.out, HML.out]; omega
     clear hdnw hdval hkarr hdnl
     by_cases hky : k < ys.length
     ·have HRk2 := Hd (HR2.out.gb hkgb)
      have HRk1 := Hd (HR.out.gb hkgb)
      clear hkgb
      obtain ⟨g2, o2, rfl, hg2, hcell2⟩ := HRk2.out.cell (j := k) hky
      obtain ⟨g3, o3, e3, hg3, hcell3⟩ := HRk1.out.cell (j := i) hlx2
      injection e3 with e3
      injection e3 with e31 e32
      subst e31
      subst e32
      rw [← HXX.out] at hcell3
      have k1 : (k : Int) < (ys.length : Int) := by omega
      have k3 : (k : Int).toNat = k := by omega
      have k4 : (0 : Int) ≤ (k : Int) := by omega
      have hy := nat_lt HR2.out.wd k
      obtain ⟨y, hyy⟩ : ∃ y, y = nat ys k := ⟨_, rfl⟩
      rw [← hyy] at hy hcell2
      have HYY := Hd hyy
      clear hyy
      have hmk := nat_lt HWM.out k
      obtain ⟨mk, hmkk⟩ : ∃ mk, mk = nat mid k := ⟨_, rfl⟩
      rw [← hmkk] at hmk
      have HMK := Hd hmkk
      clear hmkk
      have hco : wr.cell? ⟨w3.heap.size, i + k, none⟩ = some (.int .u32 (mk : Int)) := by
       exact sq59 _
      have hfr := HKA.out.frozen (i + k)
      obtain ⟨p, hp⟩ : ∃ p, p = x * y := ⟨_, rfl⟩
      have hple := mul_le_word hx hy
      have f3 := mul_wrap hx hy hp
      rw [← hp] at hple
      have HP := Hd hp
      clear hp
      obtain ⟨lo, hi2, hs, hlo⟩ := split_word (p + mk + cy)
      have HS := Hd hs
      have hhi : hi2 < 4294967296 := by omega
      have f0 := u64w (x : Int)
      have f1 := u64w (y : Int)
      have f2 := u64w (mk : Int)
      have f4 := u64w ((p : Int) + (mk : Int))
      have f5 := u64w ((cy : Int) + ((p : Int) + (mk : Int)))
      have f7 : ((cy : Int) + ((p : Int) + (mk : Int))) / 4294967296 = (hi2 : Int) := by omega
      have f6 : IntKind.u32.wrap ((cy : Int) + ((p : Int) + (mk : Int))) = (lo : Int) := by rw [IntKind.wrap_u32]; omega
      have k5 : (k : Int) < ((ys.length + 1 : Nat) : Int) := by omega
      have k6 : k < ys.length + 1 := by omega
      have k7 : (k : Int) < (ys.length : Int) + 1 := by omega
      clear hs
      go_wp2_with fail
      go_roundw
      case rel =>
       refine ⟨k + 1, hi2, dn ++ [lo], by omega, by go_num, rfl, hhi, by simp [HDL.out], HDN.out.snoc hlo, ?_, ?_, gb_set HKG.out (.inl (Nat.le_refl _)) _⟩
       ·rw [valN_snoc, HDL.out, valN_take_succ _ _ (by rw [HML.out]; exact hky), valN_take_succ _ _ hky, ← HMK.out, ← HYY.out, Nat.pow_succ]
        exact mul_step (ck := 0) HDV.out (by rw [← HP.out]; exact HS.out)
       ·have := HKA.out.set (i + k) (lo : Int)
        rw [ints_set, ← HPL.out, set_mid _ _ _ _ _ (by rw [hmlen]; exact hky), set_pass _ _ _ _ HDL.out (by rw [HML.out]; exact hky)] at this
        rw [HPL.out] at this
        exact this
      case measure => simp [intOf]; omega
     ·obtain rfl : k = ys.length := by omega
      clear hkgb
      have hdm : dn ++ mid.drop ys.length = dn := by rw [List.drop_of_length_le (by rw [HML.out]; exact Nat.le_refl _), List.append_nil]
      have HKA2 : Hid (Arr .u32 wr w3.heap.size 103 (ints (P ++ dn ++ List.replicate (xs.length - i) 0))) := by have := HKA.out; rw [hdm] at this; exact this
      clear hdm
      have hco : wr.cell? ⟨w3.heap.size, i + ys.length, none⟩ = some (.int .u32 ((0 : Nat) : Int)) := by
       exact sq44 _
      have hfr := HKA2.out.frozen (i + ys.length)
      have f6 : IntKind.u32.wrap (cy : Int) = (cy : Int) := by rw [IntKind.wrap_u32]; omega
      have wi := i64w ((i : Int) + 1)
      have k7 : (ys.length : Int) < (ys.length : Int) + 1 := by omega
      have k6 : ys.length < ys.length + 1 := by omega
      exact sq25 _
   ·obtain rfl : i = xs.length := by omega
    clear hgb
    have ha2 := HA.out
    rw [Nat.sub_self, List.replicate_zero, List.append_nil] at ha2
    have hdl2 : d.length = N := by rw [HL.out]; omega
    have hrd := Rd.of_arr ha2 HD.out
    have HRD := Hd (show Rd wr (.slice (some ⟨w3.heap.size, 0, none⟩) d.length N) d by rw [hdl2] at hrd ⊢; exact hrd)
    have HDL2 := Hd hdl2
    clear ha2 hrd hdl2
    go_wp2_with fail
    have htr := trim_rn HRD.out (by rw [HDL2.out]; omega)
    exact sq49 _
theorem short_step {z d : Nat} (hd : 0 < d) (hz : z < d * 4294967296) : ∃ qq rr, (z / d = qq ∧ z % d = rr) ∧ rr < d ∧ qq < 4294967296 :=
 ⟨_, _, ⟨rfl, rfl⟩, Nat.mod_lt _ hd, Nat.div_lt_of_lt_mul hz⟩
def ShortPost (w : World) (m d : Nat) (e : Ending) (w' : World) : Prop := ∃ v, e = .returned (.tuple #[v, .int .u32 ((m % d : Nat) : Int)]) ∧ RN w' v (m / d) ∧ Below w.heap.size w w'
theorem sq13 (P : Prop) (h : P := by
 have HRr := Hd (HR.out.gb hgb)
 clear hgb
 obtain ⟨g, o, rfl, hg, hcell⟩ := HRr.out.cell (j := k - 1) (by omega)
 have n1 : (k : Int) - 1 ≥ 0 := by omega
 have n2 : ((k : Int) - 1).toNat = k - 1 := by omega
 have n4 : (k : Int) - 1 < (xs.length : Int) := by omega
 have hx := nat_lt HR.out.wd (k - 1)
 obtain ⟨x, hxx⟩ : ∃ x, x = nat xs (k - 1) := ⟨_, rfl⟩
 rw [← hxx] at hx hcell
 have HXX := Hd hxx
 clear hxx
 have hlen : (ints (List.replicate k 0 ++ q)).length = xs.length := by rw [ints_length]; simp [HL.out]; omega
 have hco := HA.out.cell (k - 1) (by rw [hlen]; omega)
 have hfr := HA.out.frozen (k - 1)
 obtain ⟨old, hold⟩ : ∃ old, old = (ints (List.replicate k 0 ++ q)).getD (k - 1) 0 := ⟨_, rfl⟩
 rw [← hold] at hco
 clear hold
 have f0 := u64w (x : Int)
 have f1 := u64w (d : Int)
 have f2 := u64w ((rest : Int) * 4294967296)
 have hor := or_word rest x (by omega) hx
 obtain ⟨z, hz⟩ : ∃ z, z = rest * 4294967296 + x := ⟨_, rfl⟩
 rw [← hz] at hor
 obtain ⟨qq, rr, hqr, hrr, hqq⟩ := short_step hd (show z < d * 4294967296 by have := Nat.mul_le_mul_right 4294967296 (show rest + 1 ≤ d by omega); omega)
 have hz64 : z < 18446744073709551616 := by omega
 have g1 : (z : Int) / (d : Int) = (qq : Int) := by rw [← Int.natCast_ediv, hqr.1]
 have g2 : (z : Int) % (d : Int) = (rr : Int) := by rw [← Int.natCast_emod, hqr.2]
 have g3 : (z : Int).tdiv (d : Int) = (qq : Int) := by rw [Int.tdiv_eq_ediv_of_nonneg (by omega), g1]
 have g4 : (z : Int).tmod (d : Int) = (rr : Int) := by rw [Int.tmod_eq_emod_of_nonneg (by omega), g2]
 have hqr2 : z = d * qq + rr := by rw [← hqr.1, ← hqr.2]; exact (Nat.div_add_mod z d).symm
 have f3 := u64w (qq : Int)
 have f4 := u64w (rr : Int)
 have f5 : IntKind.u32.wrap (qq : Int) = (qq : Int) := by rw [IntKind.wrap_u32]; omega
 have d0 : ((d : Int) == 0) = false := by
  have : (d : Int) ≠ 0 := by omega
  simpa using this
 have d1 : (d : Int) ≠ 0 := by omega
 have nw := i64w ((k : Int) - 1 - 1)
 have HZ := Hd hz
 have HQR := Hd hqr2
 clear hz hqr hqr2
 go_wp2_with fail
 go_roundw
 case rel =>
  refine ⟨k - 1, rr, qq :: q, by omega, by go_num, rfl, hrr, by rw [List.length_cons, HL.out]; omega, ?_, ?_, ?_, gb_set HG.out (.inl (Nat.le_refl _)) _⟩
  ·intro y hy
   rcases List.mem_cons.1 hy with rfl | hy
   ·exact hqq
   ·exact HD.out y hy
  ·rw [valN_drop _ _ (by omega), show k - 1 + 1 = k by omega, HV.out, valN, ← HXX.out]
   have h1 := HZ.out
   have h2 := HQR.out
   grind
  ·have := HA.out.set (k - 1) (qq : Int)
   rw [ints_set] at this
   rw [show List.replicate k 0 = List.replicate (k - 1) 0 ++ [0] by rw [← List.replicate_succ', show k - 1 + 1 = k by omega], List.append_assoc, List.set_append_right _ _ (by simp)] at this
   simp only [List.length_replicate, Nat.sub_self, List.cons_append, List.nil_append, List.set_cons_zero] at this
   exact this
 case measure => simp [intOf]; omega) : P := h
theorem short_calls (w : World) (v : Value) (m d : Nat) (h : RN w v m) (hm : wlen m ≤ 100000000000) (hd : 0 < d) (hd2 : d < 4294967296) :
  Calls Try.prog 114 #[v, .int .u32 d] w fun e w' => ShortPost w m d e w' := by
 obtain ⟨A, c, xs, rfl, hc, HX, HR⟩ := h.opened
 clear h
 have hlx : xs.length ≤ 100000000000 := by rw [HX.out]; exact hm
 have HVX : Hid (valN xs = m) := by unfold Hid; rw [HX.out, valN_dg]
 clear HX hm
 go_enter Try.func114, Try.ntmps114
 have hmk := make_words 83 Try.underlying83 xs.length (by omega)
 go_wp2_with fail
 clear hmk
 have hw0 := gb_alloc (gb_refl w none) (zw xs.length)
 have ha0 := zw_arr w xs.length
 generalize w.alloc (zw xs.length) = W0 at *
 go_loopw [7, 8] (fun vr vi wr => ∃ (k rest : Nat) (q : List Nat), k ≤ xs.length ∧ vi = .int .i64 ((k : Int) - 1) ∧ vr = .int .u64 (rest : Int) ∧ rest < d ∧ q.length = xs.length - k ∧ Wd q ∧
   valN (xs.drop k) = d * valN q + rest ∧ Arr .u32 wr w.heap.size 103 (ints (List.replicate k 0 ++ q)) ∧ w.grownBy wr none) (fun _ vi _ => (intOf vi + 1).toNat)
 case atStart => exact ⟨xs.length, 0, [], Nat.le_refl _, by go_num, rfl, hd, by simp, (fun x hx => (by cases hx)), by simp [valN], by rw [List.append_nil]; exact ha0, hw0⟩
 case round =>
  obtain ⟨k, rest, q, hk, rfl, rfl, hrest, hql, hqw, hval, harr, hgb⟩ := hrel
  have HD := Hd hqw
  have HV := Hd hval
  have HA := Hd harr
  have HG := Hd hgb
  have HL := Hd hql
  clear hqw hval harr hql
  by_cases h0 : 0 < k
  ·exact sq13 _
  ·obtain rfl : k = 0 := by omega
   have ha2 := HA.out
   rw [List.replicate_zero, List.nil_append] at ha2
   have hql : q.length = xs.length := by have := HL.out; omega
   have hrd := Rd.of_arr ha2 HD.out
   have HRD := Hd (show Rd wr (.slice (some ⟨w.heap.size, 0, none⟩) q.length xs.length) q by rw [hql] at hrd ⊢; exact hrd)
   have HQL := Hd hql
   clear ha2 hrd hql hgb
   have f4 : IntKind.u32.wrap (rest : Int) = (rest : Int) := by rw [IntKind.wrap_u32]; omega
   go_wp2_with fail
   have htr := trim_rn HRD.out (by rw [HQL.out]; omega)
   rw [HQL.out] at htr
   refine htr.mono ?_
   rintro e w' ⟨v, rfl, hv, hb⟩
   have hval : m = d * valN q + rest := by
    have := HV.out
    rw [List.drop_zero, HVX.out] at this
    exact this
   have hq : valN q = m / d := by
    rw [hval, Nat.add_comm, Nat.add_mul_div_left _ _ hd, Nat.div_eq_of_lt hrest, Nat.zero_add]
   have hr : rest = m % d := by
    rw [hval, Nat.mul_add_mod, Nat.mod_eq_of_lt hrest]
   rw [hq] at hv
   have HBB := Hd (gb_to_below (gb_below HG.out hb))
   have HRR := Hd hr
   clear hq hr hval
   go_wp2_with fail
   go_ret2
   exact ⟨_, by rw [← HRR.out]; rfl, hv, HBB.out⟩
theorem Rd.takeC {w : World} {A : Option Addr} {c : Nat} {xs : List Nat} (h : Rd w (.slice A xs.length c) xs) (n : Nat) (hn : n ≤ xs.length) : Rd w (.slice A n c) (xs.take n) := by
 obtain ⟨hw, A', c', e, hc, hr⟩ := h
 injection e with e1 e2 e3
 subst e1 e3
 have hl : (xs.take n).length = n := by rw [ltk, Nat.min_eq_left hn]
 refine ⟨hw.take n, A, c, by rw [hl], by rw [hl]; omega, fun hp => ?_⟩
 rw [hl] at hp ⊢
 obtain ⟨g, o, rfl, hg, hj⟩ := hr (by omega)
 exact ⟨g, o, rfl, hg, fun j hjl => by rw [hj j (by omega), nat_take hjl]⟩
def RTrimPost (w : World) (A : Option Addr) (c : Nat) (xs : List Nat) (e : Ending) (w' : World) : Prop := ∃ n, n ≤ xs.length ∧ e = .returned (.slice A n c) ∧ xs.take n = dg (valN xs) ∧ Below w.heap.size w w'
theorem rtrim_calls (w : World) (A : Option Addr) (c : Nat) (xs : List Nat) (h : Rd w (.slice A xs.length c) xs) (hl : xs.length ≤ 1000000000000) (hc : xs.length ≤ c) :
  Calls Try.prog 89 #[.slice A xs.length c] w fun e w' => RTrimPost w A c xs e w' := by
 have HR := Hd h
 clear h
 go_enter Try.func89, Try.ntmps89
 exact sq22 _
theorem rtrim_rn {w : World} {A : Option Addr} {c : Nat} {xs : List Nat} (h : Rd w (.slice A xs.length c) xs) (hl : xs.length ≤ 1000000000000) :
  Calls Try.prog 89 #[.slice A xs.length c] w fun e w' => WPost w (valN xs) e w' := by
 have hc : xs.length ≤ c := by
  obtain ⟨A', c', e, hc⟩ := h.slice
  injection e with e1 e2 e3
  omega
 refine (rtrim_calls w A c xs h hl hc).mono ?_
 rintro e w' ⟨n, hn, rfl, ht, hb⟩
 refine ⟨_, rfl, ?_, hb⟩
 have := (h.takeC n hn).below hb
 rw [ht] at this
 exact this
theorem mask_low (n : Nat) (h : n < 18446744073709551616) : bits .and .u64 (n : Int) 4294967295 = ((n % 4294967296 : Nat) : Int) := by
 have := bits_mask .u64 64 (by decide) (fun n h0 h1 => IntWalk.u64_in n (by omega)) 32 (by decide) (n : Int) (by omega) (by omega)
 rw [show (4294967295 : Int) = 2 ^ 32 - 1 by decide, this]
 omega
theorem mask_any {a : Int} {lo hi : Nat} (h : a = (lo : Int) + 4294967296 * (hi : Int)) (hlo : lo < 4294967296) (hhi : hi < 4294967296) : bits .and .u64 a 4294967295 = (lo : Int) := by
 have := mask_low (lo + 4294967296 * hi) (by omega)
 rw [show ((lo + 4294967296 * hi : Nat) : Int) = a by omega] at this
 rw [this]
 omega
theorem rtimes_calls (w : World) (v v2 : Value) (m n : Nat) (h : RN w v m) (h2 : RN w v2 n) (hm : wlen m ≤ 100000000000) (hn : wlen n ≤ 100000000000) :
  Calls Try.prog 53 #[v, v2] w fun e w' => WPost w (m * n) e w' := by
 obtain ⟨A, c, xs, rfl, hc, HX, HR⟩ := h.opened
 obtain ⟨A2, c2, ys, rfl, hc2, HY, HR2⟩ := h2.opened
 clear h h2
 have hlx : xs.length ≤ 100000000000 := by rw [HX.out]; exact hm
 have hly : ys.length ≤ 100000000000 := by rw [HY.out]; exact hn
 have HVX : Hid (valN xs = m) := by unfold Hid; rw [HX.out, valN_dg]
 have HVY : Hid (valN ys = n) := by unfold Hid; rw [HY.out, valN_dg]
 clear hm hn
 obtain ⟨w3, hw3⟩ : ∃ w3, w3 = w := ⟨_, rfl⟩
 rw [← hw3] at HR HR2 ⊢
 have HB3 : Hid (Below w3.heap.size w3 w3) := Below.refl _ _
 clear hw3
 go_enter Try.func53, Try.ntmps53
 obtain ⟨N, hN⟩ : ∃ N : Nat, xs.length + ys.length = N := ⟨_, rfl⟩
 have wl : IntKind.i64.wrap ((xs.length : Int) + (ys.length : Int)) = ((N : Nat) : Int) := by rw [IntWalk.i64_in _ (by omega)]; omega
 have hmk := make_words 38 Try.underlying38 N (by omega)
 go_wp2_with fail
 clear hmk wl
 have hw0 := gb_alloc (gb_refl w3 none) (zw N)
 have ha0 := zw_arr w3 N
 generalize w3.alloc (zw N) = W0 at *
 go_loopw [6] (fun vi wr => ∃ (i : Nat) (d : List Nat), i ≤ xs.length ∧ vi = .int .i64 (i : Int) ∧ d.length = i + ys.length ∧ Wd d ∧
   valN d = valN (xs.take i) * valN ys ∧ Arr .u32 wr w3.heap.size 103 (ints (d ++ List.replicate (xs.length - i) 0)) ∧ w3.grownBy wr none) (fun vi _ => xs.length - (intOf vi).toNat)
 case atStart => exact ⟨0, List.replicate ys.length 0, by omega, rfl, by simp, Wd_zeros _, by simp [valN, valN_zeros], (by rw [List.replicate_append_replicate, show ys.length + (xs.length - 0) = N by omega]; exact ha0), hw0⟩
 case round =>
  obtain ⟨i, d, hi, rfl, hdl, hdw, hval, harr, hgb⟩ := hrel
  have HD := Hd hdw
  have HV := Hd hval
  have HA := Hd harr
  have HG := Hd hgb
  have HL := Hd hdl
  clear hdw hval harr hdl
  by_cases hlx2 : i < xs.length
  ·have HRr := Hd (HR.out.gb hgb)
   clear hgb
   obtain ⟨g, o, rfl, hg, hcell⟩ := HRr.out.cell (j := i) hlx2
   have n1 : (i : Int) < (xs.length : Int) := by omega
   have n3 : (i : Int).toNat = i := by omega
   have n4 : (0 : Int) ≤ (i : Int) := by omega
   have hx := nat_lt HR.out.wd i
   obtain ⟨x, hxx⟩ : ∃ x, x = nat xs i := ⟨_, rfl⟩
   rw [← hxx] at hx hcell
   have HXX := Hd hxx
   clear hxx
   obtain ⟨P, mid, hPm, hPl, hml⟩ : ∃ P mid, d = P ++ mid ∧ P.length = i ∧ mid.length = ys.length := ⟨d.take i, d.drop i, (List.take_append_drop i d).symm, by rw [ltk, HL.out]; omega, by rw [List.length_drop, HL.out]; omega⟩
   have HPM := Hd hPm
   have HPL := Hd hPl
   have HML := Hd hml
   have HWP : Hid (Wd P) := (hPm ▸ HD.out).left
   have HWM : Hid (Wd mid) := (hPm ▸ HD.out).right
   have HA2 : Hid (Arr .u32 wr w3.heap.size 103 (ints (P ++ mid ++ List.replicate (xs.length - i) 0))) := by have := HA.out; rw [hPm] at this; exact this
   clear hPm hPl hml HA HL
   have s1 := i64w ((i : Int) + (ys.length : Int))
   go_wp2_with fail
   go_loopw [7, 8] (fun vc vk wr => ∃ (k cy : Nat) (dn : List Nat), k ≤ ys.length ∧ vk = .int .i64 (k : Int) ∧ vc = .int .u64 (cy : Int) ∧ cy < 4294967296 ∧ dn.length = k ∧ Wd dn ∧
     valN dn + cy * 4294967296 ^ k = valN (mid.take k) + x * valN (ys.take k) ∧ Arr .u32 wr w3.heap.size 103 (ints (P ++ (dn ++ mid.drop k) ++ List.replicate (xs.length - i) 0)) ∧ w3.grownBy wr none) (fun _ vk _ => ys.length - (intOf vk).toNat)
   case atStart => exact ⟨0, 0, [], by omega, rfl, rfl, by omega, rfl, (fun x hx => (by cases hx)), by simp [valN], HA2.out, HG.out⟩
   case round =>
    obtain ⟨k, cy, dn, hk, rfl, rfl, hcy, hdnl, hdnw, hdval, hkarr, hkgb⟩ := hrel
    have HDN := Hd hdnw
    have HDV := Hd hdval
    have HKA := Hd hkarr
    have HKG := Hd hkgb
    have HDL := Hd hdnl
    have hmlen : (dn ++ mid.drop k).length = ys.length := by rw [lap, List.length_drop, HDL.out, HML.out]; omega
    clear hdnw hdval hkarr hdnl
    by_cases hky : k < ys.length
    ·have HRk2 := Hd (HR2.out.gb hkgb)
     have HRk1 := Hd (HR.out.gb hkgb)
     clear hkgb
     obtain ⟨g2, o2, rfl, hg2, hcell2⟩ := HRk2.out.cell (j := k) hky
     obtain ⟨g3, o3, e3, hg3, hcell3⟩ := HRk1.out.cell (j := i) hlx2
     injection e3 with e3
     injection e3 with e31 e32
     subst e31
     subst e32
     rw [← HXX.out] at hcell3
     have k1 : (k : Int) < (ys.length : Int) := by omega
     have k3 : (k : Int).toNat = k := by omega
     have k4 : (0 : Int) ≤ (k : Int) := by omega
     have hy := nat_lt HR2.out.wd k
     obtain ⟨y, hyy⟩ : ∃ y, y = nat ys k := ⟨_, rfl⟩
     rw [← hyy] at hy hcell2
     have HYY := Hd hyy
     clear hyy
     have hmk := nat_lt HWM.out k
     obtain ⟨mk, hmkk⟩ : ∃ mk, mk = nat mid k := ⟨_, rfl⟩
     rw [← hmkk] at hmk
     have HMK := Hd hmkk
     clear hmkk
     have hco : wr.cell? ⟨w3.heap.size, i + k, none⟩ = some (.int .u32 (mk : Int)) := by
      exact sq59 _
     have hfr := HKA.out.frozen (i + k)
     obtain ⟨p, hp⟩ : ∃ p, p = x * y := ⟨_, rfl⟩
     have hple := mul_le_word hx hy
     have f3 := mul_wrap hx hy hp
     rw [← hp] at hple
     have HP := Hd hp
     clear hp
     obtain ⟨lo, hi2, hs, hlo⟩ := split_word (p + mk + cy)
     have HS := Hd hs
     have hhi : hi2 < 4294967296 := by omega
     have f0 := u64w (x : Int)
     have f1 := u64w (y : Int)
     have f2 := u64w (mk : Int)
     have f4 := u64w ((p : Int) + (mk : Int))
     have f5 := u64w ((p : Int) + (mk : Int) + (cy : Int))
     have f7 : ((p : Int) + (mk : Int) + (cy : Int)) / 4294967296 = (hi2 : Int) := by omega
     have f6 : bits .and .u64 ((p : Int) + (mk : Int) + (cy : Int)) 4294967295 = (lo : Int) := mask_any (by omega) hlo hhi
     have f8 : IntKind.u32.wrap (lo : Int) = (lo : Int) := by rw [IntKind.wrap_u32]; omega
     have k5 := i64w ((i : Int) + (k : Int))
     have k6 : (i : Int) + (k : Int) < (N : Int) := by omega
     have k7 : ((i : Int) + (k : Int)).toNat = i + k := by omega
     have k8 : i + k < N := by omega
     have k9 : 0 ≤ (i : Int) + (k : Int) := by omega
     clear hs
     go_wp2_with fail
     go_quiet (fail)
     go_wp2_with fail
     go_roundw
     case rel =>
      refine ⟨k + 1, hi2, dn ++ [lo], by omega, by go_num, rfl, hhi, by simp [HDL.out], HDN.out.snoc hlo, ?_, ?_, gb_set (gb_drewN HKG.out _) (.inl (Nat.le_refl _)) _⟩
      ·rw [valN_snoc, HDL.out, valN_take_succ _ _ (by rw [HML.out]; exact hky), valN_take_succ _ _ hky, ← HMK.out, ← HYY.out, Nat.pow_succ]
       exact mul_step (ck := 0) HDV.out (by rw [← HP.out]; exact HS.out)
      ·have := (HKA.out.drewN nq).set (i + k) (lo : Int)
       rw [ints_set, ← HPL.out, set_mid _ _ _ _ _ (by rw [hmlen]; exact hky), set_pass _ _ _ _ HDL.out (by rw [HML.out]; exact hky)] at this
       rw [HPL.out] at this
       exact this
     case measure => simp [intOf]; omega
    ·obtain rfl : k = ys.length := by omega
     clear hkgb
     have hdm : dn ++ mid.drop ys.length = dn := by rw [List.drop_of_length_le (by rw [HML.out]; exact Nat.le_refl _), List.append_nil]
     have HKA2 : Hid (Arr .u32 wr w3.heap.size 103 (ints (P ++ dn ++ List.replicate (xs.length - i) 0))) := by have := HKA.out; rw [hdm] at this; exact this
     clear hdm
     have hco : wr.cell? ⟨w3.heap.size, i + ys.length, none⟩ = some (.int .u32 ((0 : Nat) : Int)) := by
      exact sq44 _
     have hfr := HKA2.out.frozen (i + ys.length)
     have f6 : IntKind.u32.wrap (cy : Int) = (cy : Int) := by rw [IntKind.wrap_u32]; omega
     have wi := i64w ((i : Int) + 1)
     have k6 : (i : Int) + (ys.length : Int) < (N : Int) := by omega
     have k7 : ((i : Int) + (ys.length : Int)).toNat = i + ys.length := by omega
     have k8 : i + ys.length < N := by omega
     have k9 : 0 ≤ (i : Int) + (ys.length : Int) := by omega
     exact sq25 _
  ·obtain rfl : i = xs.length := by omega
   clear hgb
   have ha2 := HA.out
   rw [Nat.sub_self, List.replicate_zero, List.append_nil] at ha2
   have hdl2 : d.length = N := by rw [HL.out]; omega
   have hrd := Rd.of_arr ha2 HD.out
   have HRD := Hd (show Rd wr (.slice (some ⟨w3.heap.size, 0, none⟩) d.length N) d by rw [hdl2] at hrd ⊢; exact hrd)
   have HDL2 := Hd hdl2
   clear ha2 hrd hdl2
   go_wp2_with fail
   have htr := rtrim_rn HRD.out (by rw [HDL2.out]; omega)
   exact sq49 _
end Go.Proofs.Ytfhambfgjigneaa
